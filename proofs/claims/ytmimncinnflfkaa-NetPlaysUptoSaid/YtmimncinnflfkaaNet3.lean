/- Layer 14 (net): Deliver, Drop, Look. -/
import Derived.Test.YtmimncinnflfkaaNet2
import Derived.Laws.ResultCell
set_option linter.all false
namespace Go.Proofs.Ytmimncinnflfkaa
open Go.RowKit
set_option maxRecDepth 100000

theorem results_cell_tmp_row {P : Program} {fn : Func} {p u : Tmp} {ty : TypeId} (h : fn.results = #[.cell p ty, .tmp u]) (tmps : Array Value) (w : World) (g : Nat) (t : TypeId) (cs : Array Value) (fr : Nat × Nat) (d : TypeDesc)
    (hp : tmps.getD p undef = .pointer (some ⟨g, 0, none⟩)) (hg : w.heap[g]? = some (.cells cs t fr))
    (hu : P.underlying ty = some d) (hd : (match d with | .struct _ | .array _ _ => true | _ => false) = true) (hi : (P.info? ty).map (·.size) = some cs.size) :
    (results fn tmps).run P w = .ok (.tuple #[.agg cs, tmps.getD u undef]) w := by
  rw [results_cell_tmp h, hp]
  simp [asAddr, run_loadVar_row w g t ty cs fr d hg hu hd hi]

/-- What Deliver hands back where there is such a letter. -/
def TakePost (F : Nat → Prop) (p mb last : Nat) (rs : List Row) (r : Row) (w : World) : Ending → World → Prop := fun e w' =>
  e = .returned (.tuple #[letV r.l r.pv r.iv, .int .i64 0]) ∧ NetM w' F p mb (rs.filter (fun q => !decide (q.n = r.n))) last ∧ Upd (fun k => k = p ∨ k = mb) w w'

set_option maxHeartbeats 2000000 in
theorem deliver_calls {F : Nat → Prop} {p mb last : Nat} {rs : List Row} (w : World) (h : NetM w F p mb rs last) (k : Int) (hw : (Lit.int .i64 k).wf = true) :
    Calls Try.prog 10 #[.pointer (some ⟨p, 0, none⟩), .int .i64 k] w fun e w' => (∃ r ∈ rs, r.n = k ∧ TakePost F p mb last rs r w e w') ∨ ((∀ r ∈ rs, r.n ≠ k) ∧ e = .returned (.tuple #[zeroV, .int .i64 7]) ∧ Ext w w') := by
  obtain ⟨d0, d1⟩ := h.cells
  obtain ⟨hp, hmb⟩ := h.lt
  have hE0 : Ext w (w.alloc (.cells (letCs Letter.zero (.slice none 0 0) (.slice none 0 0)) 34)) := (Ext.refl w).alloc _
  have hZ : (w.alloc (.cells (letCs Letter.zero (.slice none 0 0) (.slice none 0 0)) 34)).heap[w.heap.size]? = some (.cells (letCs Letter.zero (.slice none 0 0) (.slice none 0 0)) 34 (0, 0)) := blk_new rfl
  have h0 := h.ext hE0
  rcases mapLook h0.map hw with ⟨v, hv, hrun⟩ | ⟨hn, hrun⟩
  · obtain ⟨r, hr, hk, rfl⟩ := h.find hv
    obtain ⟨q1, q2, q3⟩ := h.rows r hr
    obtain ⟨n, l, pv, iv⟩ := r
    dsimp only at hr hv hrun q1 q2 q3 hk ⊢
    obtain ⟨A1, c1, rfl, _, _⟩ := q3.pairs.form
    obtain ⟨A2, c2, rfl, _, _⟩ := q3.intents.form
    obtain ⟨n1, hl1⟩ : ∃ n1, n1 = l.pairs.length := ⟨_, rfl⟩
    obtain ⟨n2, hl2⟩ : ∃ n2, n2 = l.intents.length := ⟨_, rfl⟩
    rw [← hl1, ← hl2] at q3 hr hrun
    have Hl1 := Lib.hid hl1
    have Hl2 := Lib.hid hl2
    have Hq := Lib.hid q3
    have HR := Lib.hid hr
    have Hs := Lib.hid q2
    clear q1 hv hr hl1 hl2 q3 q2
    have hE1 := hE0.alloc (.cells (letCs l (.slice A1 n1 c1) (.slice A2 n2 c2)) 34)
    have h1 := h.ext hE1
    have hm1 := h1.map.2
    have hL1 : ((w.alloc (.cells (letCs Letter.zero (.slice none 0 0) (.slice none 0 0)) 34)).alloc (.cells (letCs l (.slice A1 n1 c1) (.slice A2 n2 c2)) 34)).heap[w.heap.size + 1]? = some (.cells (letCs l (.slice A1 n1 c1) (.slice A2 n2 c2)) 34 (0, 0)) := blk_new (by simp)
    have hZ1 := blk_old (o' := .cells (letCs l (.slice A1 n1 c1) (.slice A2 n2 c2)) 34) hZ
    go_enter Try.func10, Try.ntmps10
    go_wp2_with (first
      | (at_lookup; refine wpList_lookup_run rfl _ _ 75 rfl mb _ _ rfl rfl hrun ?_)
      | (at_delete; refine wpList_delete_own _ rfl _ _ 75 3 rfl 34 keyedI under75 RV mb last _ rfl hm1 _ _ rfl (Maps.keyOf_int_mk Try.underlying3 hw) ?_; intro w3 hm3 ht3; have hg3 := ht3.grown; have hL3 := blk_grown hL1 hg3 (fun e => by have := Option.some.inj e; omega); have hZ3 := blk_grown hZ1 hg3 (fun e => by have := Option.some.inj e; omega); obtain ⟨f0, f1, f2, f3, f4, f5, f6, f7, f8, f9, f10, f11, f12, f13⟩ := let_cells hL3; obtain ⟨g0, g1, g2, g3, g4, g5, g6, g7, g8, g9, g10, g11, g12, g13⟩ := let_cells hZ3; have hfz := blk_free hZ3))
    have hR := setLet_blk hZ3 l (.slice A1 n1 c1) (.slice A2 n2 c2)
    have hU3 : Upd (fun k => k = p ∨ k = mb) w w3 := (Upd.of_ext hE1).trans (Upd.of_grown hg3) (fun i _ h => .inr (Option.some.inj h).symm)
    have hU4 := setLet_upd w3 w.heap.size l (.slice A1 n1 c1) (.slice A2 n2 c2)
    have hU : Upd (fun k => k = p ∨ k = mb) w (setLet w3 w.heap.size l (.slice A1 n1 c1) (.slice A2 n2 c2)) := hU3.trans hU4 (fun i hi e => by omega)
    refine bodyPost_ret (results_cell_tmp_row rfl _ _ w.heap.size _ _ _ _ rfl hR Try.underlying34 rfl info_letter) rfl ?_
    refine .inl ⟨_, HR.out, hk, rfl, ⟨?_, ?_, ?_, h.ne, h.nF, h.nG⟩, hU⟩
    · exact blk_upd (blk_grown h1.blk hg3 (fun e => h.ne (Option.some.inj e))) hU4 (by omega)
    · have hM3 : MapI w3 mb last ((rs.map Row.ent).filter (fun q => !decide (q.1 = k))) := ⟨h1.map.1.filter _, by rw [← del_dmap]; exact hm3⟩
      have := hM3.upd hU4 (by omega)
      rw [List.filter_map] at this
      subst hk
      exact this
    · intro r hr
      obtain ⟨q1, q2, q3⟩ := h.rows r (List.mem_filter.1 hr).1
      exact ⟨q1, q2, q3.upd hU (fun k _ hF e => by rcases e with rfl | rfl; exact h.nF hF; exact h.nG hF)⟩
  · go_enter Try.func10, Try.ntmps10
    go_wp2_with (at_lookup; refine wpList_lookup_run rfl _ _ 75 rfl mb _ _ rfl rfl hrun ?_)
    refine bodyPost_ret (results_cell_tmp_row rfl _ _ w.heap.size _ _ _ _ rfl (blk_old hZ) Try.underlying34 rfl info_letter) rfl ?_
    exact .inr ⟨fun r hr => hn r.ent (List.mem_map.2 ⟨r, hr, rfl⟩), rfl, hE0.alloc _⟩

set_option maxHeartbeats 2000000 in
theorem drop_calls {F : Nat → Prop} {p mb last : Nat} {rs : List Row} (w : World) (h : NetM w F p mb rs last) (k : Int) (hw : (Lit.int .i64 k).wf = true) :
    Calls Try.prog 13 #[.pointer (some ⟨p, 0, none⟩), .int .i64 k] w fun e w' => ((∃ r ∈ rs, r.n = k) ∧ e = .returned (.int .i64 0) ∧ NetM w' F p mb (rs.filter (fun q => !decide (q.n = k))) last ∧ Upd (fun k => k = p ∨ k = mb) w w') ∨ ((∀ r ∈ rs, r.n ≠ k) ∧ e = .returned (.int .i64 7) ∧ Ext w w') := by
  go_enter Try.func13, Try.ntmps13
  go_wp2_with fail
  refine (deliver_calls _ h k hw).mono ?_
  rintro e w1 (⟨r, hr, hk, rfl, hN, hU⟩ | ⟨hn, rfl, he⟩)
  · obtain ⟨q1, q2, q3⟩ := h.rows r hr
    have HR := Lib.hid (show ∃ r ∈ rs, r.n = k from ⟨r, hr, hk⟩)
    rw [hk] at hN
    obtain ⟨n, l, pv, iv⟩ := r
    dsimp only at q3 ⊢
    obtain ⟨A1, c1, rfl, _, _⟩ := q3.pairs.form
    obtain ⟨A2, c2, rfl, _, _⟩ := q3.intents.form
    generalize l.pairs.length = n1
    generalize l.intents.length = n2
    have HN := Lib.hid hN
    have HU := Lib.hid hU
    clear hN hU q1 q2 q3 hr hk
    go_wp2
    go_ret
    exact .inl ⟨HR.out, rfl, HN.out.ext ((Ext.refl _).alloc _), HU.out.alloc _⟩
  · go_wp2
    go_ret
    exact .inr ⟨hn, rfl, he.alloc _⟩
end Go.Proofs.Ytmimncinnflfkaa
