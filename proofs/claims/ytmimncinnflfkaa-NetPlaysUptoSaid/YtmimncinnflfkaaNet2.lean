/- Layer 14 (net): Send, Twice, Deliver, Drop, Look. -/
import Derived.Test.YtmimncinnflfkaaNet
set_option linter.all false
namespace Go.Proofs.Ytmimncinnflfkaa
open Go.RowKit
set_option maxRecDepth 100000

abbrev zeroV : Value := letV Letter.zero (.slice none 0 0) (.slice none 0 0)
theorem zeroLet (W : World) : (zeroValue 34).run Try.prog W = .ok zeroV W := by
  have hq : (Try.prog.info? 34).map (·.zero) = some (some zeroV) := by kernel_rfl
  obtain ⟨i0, hi, hz⟩ := Option.map_eq_some_iff.1 hq
  simp [zeroValue, typeInfo, hi, hz]
theorem mapLook {W : World} {b n : Nat} {es : List (Int × Value)} (HM : MapI W b n es) {k : Int} (hw : (Lit.int .i64 k).wf = true) :
    (∃ v, (k, v) ∈ es ∧ (Instr.lookup 75 (.map (some b)) (.int .i64 k) true).run Try.prog W = .ok (.tuple #[v, .bool true]) W) ∨
    ((∀ p ∈ es, p.1 ≠ k) ∧ (Instr.lookup 75 (.map (some b)) (.int .i64 k) true).run Try.prog W = .ok (.tuple #[zeroV, .bool false]) W) := by
  obtain ⟨v, ps, hrun, hv⟩ := HM.2.look_ok keyedI under75 (zeroLet W) (zd := .held zeroV) (zp := []) rfl (Maps.keyOf_int_mk Try.underlying3 hw)
  rw [has_dmap] at hrun
  have hv' : (DataW.held v, ([] : List MemPlace)) = ((dmap es).atKey (.int .i64 k) (.held zeroV), ps) := Option.some.inj hv
  by_cases h : ∃ u, (k, u) ∈ es
  · obtain ⟨u, hu⟩ := h
    rw [atKey_dmap_some HM.1 hu] at hv'
    injection hv' with hv' _
    injection hv' with hv'
    subst hv'
    have : es.any (fun p => decide (p.1 = k)) = true := List.any_eq_true.2 ⟨_, hu, by simp⟩
    rw [this] at hrun
    exact .inl ⟨v, hu, hrun⟩
  · have hn : ∀ p ∈ es, p.1 ≠ k := fun p hp e => h ⟨p.2, by rw [← e]; exact hp⟩
    rw [atKey_dmap_none hn] at hv'
    injection hv' with hv' _
    injection hv' with hv'
    subst hv'
    have : es.any (fun p => decide (p.1 = k)) = false := List.any_eq_false.2 (fun p hp => by simp [hn p hp])
    rw [this] at hrun
    exact .inr ⟨hn, hrun⟩
theorem wpList_lookup_run {w : World} {ops : Array Oper} {rest : List Oper} {o : Oper} {a : Act} {Q : Exit → Act → World → Prop} (hg : o.guard = none) (m x : Operand) (t : TypeId) (hop : o.op = Op.lookup t m x true)
    (b : Nat) (key r : Value) (hm : a.eval m = .map (some b)) (hx : a.eval x = key) (hrun : (Instr.lookup t (.map (some b)) key true).run Try.prog w = .ok r w)
    (hK : wpList Try.prog ops Q rest (a.put o.dst r) w) : wpList Try.prog ops Q (o :: rest) a w := by
  refine wpList_plain hg fun K' hK' => ?_
  unfold Oper.wp
  simp [execOp, hop, hm, hx, hrun, Result.andThen]
  exact hK' _ _ hK

/-- Which letter has a number? -/
theorem NetM.find {w : World} {F : Nat → Prop} {p mb : Nat} {rs : List Row} {last : Nat} (h : NetM w F p mb rs last) {k : Int} {v : Value} (hv : (k, v) ∈ rs.map Row.ent) : ∃ r ∈ rs, r.n = k ∧ v = letV r.l r.pv r.iv := by
  obtain ⟨r, hr, e⟩ := List.mem_map.1 hv
  injection e with e1 e2
  exact ⟨r, hr, e1, e2.symm⟩

theorem NetM.mono {w : World} {F F' : Nat → Prop} {p mb : Nat} {rs : List Row} {last : Nat} (h : NetM w F p mb rs last) (hF : ∀ k, F k → F' k) (h1 : ¬ F' p) (h2 : ¬ F' mb) : NetM w F' p mb rs last :=
  ⟨h.blk, h.map, fun r hr => ⟨(h.rows r hr).1, (h.rows r hr).2.1, (h.rows r hr).2.2.mono hF⟩, h.ne, h1, h2⟩
theorem Fx.no {F : Nat → Prop} {w w' : World} {k : Nat} (hk : k < w.heap.size) (h : ¬ F k) : ¬ Fx F w w' k := by
  rintro (⟨q, _⟩ | ⟨q, _⟩)
  · exact h q
  · omega
/-- The same, told from an earlier world. -/
theorem NetM.later {w w1 w2 : World} {F : Nat → Prop} {p mb : Nat} {rs : List Row} {last : Nat} (h : NetM w2 (Fx F w1 w2) p mb rs last) (hlt : p < w.heap.size ∧ mb < w.heap.size) (hp : ¬ F p) (hm : ¬ F mb) (h1 : w.heap.size ≤ w1.heap.size) (h2 : w1.heap.size ≤ w2.heap.size) : NetM w2 (Fx F w w2) p mb rs last := by
  refine h.mono (fun k hk => ?_) (Fx.no hlt.1 hp) (Fx.no hlt.2 hm)
  rcases hk with ⟨q, q'⟩ | ⟨q, q'⟩
  · by_cases hkk : k < w.heap.size
    · exact .inl ⟨q, hkk⟩
    · exact .inr ⟨by omega, by omega⟩
  · exact .inr ⟨by omega, q'⟩

set_option maxHeartbeats 2000000 in
theorem send_calls {F G : Nat → Prop} {p mb last : Nat} {rs : List Row} (w : World) (h : NetM w F p mb rs last) (hlast : last ≤ 100000) (hrs : rs.length < 4096) (l : Letter) {pv iv : Value} (hl : LetIn w G l pv iv) (hs : l.small) (hG : ¬ G p ∧ ¬ G mb) :
    Calls Try.prog 8 #[.pointer (some ⟨p, 0, none⟩), letV l pv iv] w fun e w' => (l.err = 0 ∧ AddPost F p mb last rs l w e w') ∨ (l.err ≠ 0 ∧ e = .returned (.tuple #[.int .i64 0, .int .i64 l.err]) ∧ Ext w w') := by
  obtain ⟨A1, c1, rfl, hc1, hn1⟩ := hl.pairs.form
  obtain ⟨A2, c2, rfl, hc2, hn2⟩ := hl.intents.form
  obtain ⟨n1, hl1⟩ : ∃ n1, n1 = l.pairs.length := ⟨_, rfl⟩
  obtain ⟨n2, hl2⟩ : ∃ n2, n2 = l.intents.length := ⟨_, rfl⟩
  rw [← hl1] at hc1 hn1 hl ⊢
  rw [← hl2] at hc2 hn2 hl ⊢
  have Hl1 := Lib.hid hl1
  have Hl2 := Lib.hid hl2
  clear hl1 hl2
  obtain ⟨z, hz⟩ : ∃ z, z = l.err := ⟨_, rfl⟩
  have hB : (w.alloc (.cells (letCs l (.slice A1 n1 c1) (.slice A2 n2 c2)) 34)).heap[w.heap.size]? = some (.cells (letCs l (.slice A1 n1 c1) (.slice A2 n2 c2)) 34 (0, 0)) := blk_new rfl
  have hE : Ext w (w.alloc (.cells (letCs l (.slice A1 n1 c1) (.slice A2 n2 c2)) 34)) := (Ext.refl w).alloc _
  go_enter Try.func8, Try.ntmps8
  go_wp2_with fail
  refine (check_calls l _ (hl.ext hE) hs.2.2 hs.1 hs.2.1).mono ?_
  rintro e w1 ⟨rfl, he⟩
  rw [← hz]
  have Hz := Lib.hid hz
  clear hz
  have hB1 := blk_ext hB he
  have hE1 := hE.trans he
  obtain ⟨f0, f1, f2, f3, f4, f5, f6, f7, f8, f9, f10, f11, f12, f13⟩ := let_cells hB1
  by_cases hz0 : z = 0
  · subst hz0
    go_wp2_with fail
    refine (add_calls' _ (h.ext hE1) hlast hrs l (hl.ext hE1) hs hG).mono ?_
    rintro e w2 ⟨rfl, ⟨pa, ia, hN⟩, hU⟩
    go_wp2
    go_ret2
    exact .inl ⟨Hz.out.symm, rfl, ⟨pa, ia, hN.later h.lt h.nF h.nG hE1.sz hU.size⟩, (Upd.of_ext hE1).trans hU (fun _ _ h => h)⟩
  · go_wp2
    go_ret2
    exact .inr ⟨by rw [← Hz.out]; exact hz0, ret2 rfl (vint Hz.out), hE1⟩

set_option maxHeartbeats 2000000 in
theorem twice_calls {F : Nat → Prop} {p mb last : Nat} {rs : List Row} (w : World) (h : NetM w F p mb rs last) (hlast : last ≤ 100000) (hrs : rs.length < 4096) (k : Int) (hw : (Lit.int .i64 k).wf = true) :
    Calls Try.prog 14 #[.pointer (some ⟨p, 0, none⟩), .int .i64 k] w fun e w' => (∃ r ∈ rs, r.n = k ∧ AddPost F p mb last rs r.l w e w') ∨ ((∀ r ∈ rs, r.n ≠ k) ∧ e = .returned (.tuple #[.int .i64 0, .int .i64 7]) ∧ Ext w w') := by
  obtain ⟨d0, d1⟩ := h.cells
  rcases mapLook h.map hw with ⟨v, hv, hrun⟩ | ⟨hn, hrun⟩
  · obtain ⟨r, hr, hk, rfl⟩ := h.find hv
    obtain ⟨q1, q2, q3⟩ := h.rows r hr
    obtain ⟨n, l, pv, iv⟩ := r
    dsimp only at hr hv hrun q1 q2 q3 hk ⊢
    obtain ⟨A1, c1, rfl, _, _⟩ := q3.pairs.form
    obtain ⟨A2, c2, rfl, _, _⟩ := q3.intents.form
    obtain ⟨n1, hl1⟩ : ∃ n1, n1 = l.pairs.length := ⟨_, rfl⟩
    obtain ⟨n2, hl2⟩ : ∃ n2, n2 = l.intents.length := ⟨_, rfl⟩
    rw [← hl1, ← hl2] at q3 hr hrun
    have Hl1 := Lib.hid hl1
    have Hl2 := Lib.hid hl2
    have Hq := Lib.hid q3
    have HR := Lib.hid hr
    have Hs := Lib.hid q2
    clear q1 hv hr hl1 hl2 q3 q2
    have hB : (w.alloc (.cells (letCs l (.slice A1 n1 c1) (.slice A2 n2 c2)) 34)).heap[w.heap.size]? = some (.cells (letCs l (.slice A1 n1 c1) (.slice A2 n2 c2)) 34 (0, 0)) := blk_new rfl
    have hE : Ext w (w.alloc (.cells (letCs l (.slice A1 n1 c1) (.slice A2 n2 c2)) 34)) := (Ext.refl w).alloc _
    go_enter Try.func14, Try.ntmps14
    go_wp2_with (first
      | (at_lookup; refine wpList_lookup_run rfl _ _ 75 rfl mb _ _ rfl rfl hrun ?_)
      | (go_at_call 33; refine (add_calls' _ (h.ext hE) hlast hrs l (Hq.out.ext hE) Hs.out ⟨h.nF, h.nG⟩).mono ?_; rintro e w2 ⟨rfl, ⟨pa, ia, hN⟩, hU⟩))
    go_ret2
    exact .inl ⟨_, HR.out, hk, rfl, ⟨pa, ia, hN.later h.lt h.nF h.nG hE.sz hU.size⟩, (Upd.of_ext hE).trans hU (fun _ _ h => h)⟩
  · go_enter Try.func14, Try.ntmps14
    go_wp2_with (at_lookup; refine wpList_lookup_run rfl _ _ 75 rfl mb _ _ rfl rfl hrun ?_)
    go_ret2
    exact .inr ⟨fun r hr => hn r.ent (List.mem_map.2 ⟨r, hr, rfl⟩), rfl, by repeat (first | exact Ext.refl _ | refine Ext.alloc ?_ _)⟩
end Go.Proofs.Ytmimncinnflfkaa
