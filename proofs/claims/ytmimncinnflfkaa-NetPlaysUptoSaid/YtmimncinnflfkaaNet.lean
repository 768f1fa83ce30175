/- Layer 14 (net): New, Len, add: contracts over the list of the letters under way. -/
import Derived.Test.YtmimncinnflfkaaMapI
import Derived.Test.YtmimncinnflfkaaCopy
import Derived.Test.YtmimncinnflfkaaRefC
import Derived.Deep.RegionWith
set_option linter.all false
namespace Go.Proofs.Ytmimncinnflfkaa
open Go.RowKit
set_option maxRecDepth 100000

/-! ### the map's laws at operations -/
theorem under75 : Try.prog.underlying 75 = some (.map 3 34) := Try.underlying75
theorem mapPut_run {W : World} {b n : Nat} {es : List (Int × Value)} {k : Int} (val : Value) (HM : MapI W b n es) (hk : ∀ p ∈ es, p.1 < k) (hw : (Lit.int .i64 k).wf = true) (hn : n < maxLen) :
    ∃ w1, (Instr.mapUpdate 75 (.map (some b)) (.int .i64 k) val).run Try.prog W = .ok () w1 ∧ MapI w1 b (n + 1) (es ++ [(k, val)]) ∧ W.grownBy w1 (some b) := by
  obtain ⟨w', hrun, r1, r2⟩ := HM.2.update keyedI under75 hn (Maps.keyOf_int_mk Try.underlying3 hw) (val := val) rfl
  refine ⟨w', hrun, ⟨?_, ?_⟩, r2⟩
  · refine List.pairwise_append.2 ⟨HM.1, by simp, fun p hp q hq => ?_⟩
    rw [List.mem_singleton.1 hq]
    exact hk p hp
  · rw [← put_dmap _ hk]; exact r1

/-- A letter under its number, its lists behind pv and iv. -/
structure Row where
  n : Int
  l : Letter
  pv : Value
  iv : Value
def Row.ent (r : Row) : Int × Value := (r.n, letV r.l r.pv r.iv)
def Letter.small (l : Letter) : Prop := l.pairs.length ≤ 300 ∧ l.intents.length ≤ 300 ∧ ∀ s ∈ l.alls, s.size ≤ 1048576
/-- Block p is a net with the letters rs, the last number being last; what the letters lead to lies in F. -/
structure NetM (w : World) (F : Nat → Prop) (p mb : Nat) (rs : List Row) (last : Nat) : Prop where
  blk : w.heap[p]? = some (.cells #[.map (some mb), .int .i64 last] 77 (0, 0))
  map : MapI w mb last (rs.map Row.ent)
  rows : ∀ r ∈ rs, r.n ≤ last ∧ r.l.small ∧ LetIn w F r.l r.pv r.iv
  ne : p ≠ mb
  nF : ¬ F p
  nG : ¬ F mb

theorem new_calls (w : World) : Calls Try.prog 6 #[] w fun e w' => e = .returned (.pointer (some ⟨w.heap.size + 1, 0, none⟩)) ∧ NetM w' (fun _ => False) (w.heap.size + 1) w.heap.size [] 0 ∧ Ext w w' := by
  have hmm := @run_makeMap Try.prog
  go_enter Try.func6, Try.ntmps6
  go_wp2
  go_ret
  refine ⟨by simp, ⟨blk_new (by simp), ⟨List.Pairwise.nil, ?_⟩, by simp, by omega, fun h => h, fun h => h⟩, ((Ext.refl w).alloc _).alloc _⟩
  have h := World.ownsMap_made w Try.prog 3 RV
  obtain ⟨a, c, h2, rest⟩ := h
  exact ⟨a, c, blk_old h2, rest⟩

/-- What lies in F, or has been made between w and w'. -/
def Fx (F : Nat → Prop) (w w' : World) : Nat → Prop := fun k => (F k ∧ k < w.heap.size) ∨ (w.heap.size ≤ k ∧ k < w'.heap.size)
theorem NetM.lt {w : World} {F : Nat → Prop} {p mb : Nat} {rs : List Row} {last : Nat} (h : NetM w F p mb rs last) : p < w.heap.size ∧ mb < w.heap.size := ⟨blk_lt h.blk, h.map.lt⟩
theorem NetM.cells {w : World} {F : Nat → Prop} {p mb : Nat} {rs : List Row} {last : Nat} (h : NetM w F p mb rs last) : w.cell? ⟨p, 0, none⟩ = some (.map (some mb)) ∧ w.cell? ⟨p, 1, none⟩ = some (.int .i64 last) := ⟨blk_cell h.blk 0, blk_cell h.blk 1⟩
theorem NetM.ext {w w' : World} {F : Nat → Prop} {p mb : Nat} {rs : List Row} {last : Nat} (h : NetM w F p mb rs last) (he : Ext w w') : NetM w' F p mb rs last :=
  ⟨blk_ext h.blk he, h.map.ext he, fun r hr => ⟨(h.rows r hr).1, (h.rows r hr).2.1, (h.rows r hr).2.2.ext he⟩, h.ne, h.nF, h.nG⟩
theorem NetM.upd {w w' : World} {F S : Nat → Prop} {p mb : Nat} {rs : List Row} {last : Nat} (h : NetM w F p mb rs last) (he : Upd S w w') (hp : ¬ S p) (hm : ¬ S mb) (hF : ∀ k, k < w.heap.size → F k → ¬ S k) : NetM w' F p mb rs last :=
  ⟨blk_upd h.blk he hp, h.map.upd he hm, fun r hr => ⟨(h.rows r hr).1, (h.rows r hr).2.1, (h.rows r hr).2.2.upd he hF⟩, h.ne, h.nF, h.nG⟩

theorem len_calls {F : Nat → Prop} {p mb last : Nat} {rs : List Row} (w : World) (h : NetM w F p mb rs last) : Calls Try.prog 21 #[.pointer (some ⟨p, 0, none⟩)] w fun e w' => e = .returned (.int .i64 rs.length) ∧ w' = w := by
  obtain ⟨c0, c1⟩ := h.cells
  have hl : Maps.size (dmap (rs.map Row.ent)) = rs.length := by rw [size_dmap, List.length_map]
  have hm := h.map.2
  go_enter Try.func21, Try.ntmps21
  go_wp2_with (at_len; refine wpList_len_own _ rfl _ 75 rfl 3 34 under75 RV mb last _ rfl hm ?_; rw [hl])
  go_ret
  exact ⟨rfl, rfl⟩

theorem keepLg {w w' : World} {b mb : Nat} {l : Letter} {pv iv : Value} (hg : w.grownBy w' (some mb)) (hb : b ≠ mb) (h : LetC w b l pv iv) : LetC w' b l pv iv := by
  obtain ⟨f0, f1, f2, f3, f4, f5, f6, f7, f8, f9, f10, f11, f12, f13⟩ := h
  have hne : ∀ j, some (⟨b, j, none⟩ : Addr).block ≠ some mb := fun j e => hb (Option.some.inj e)
  exact ⟨hg.cell f0 (hne _), hg.cell f1 (hne _), hg.cell f2 (hne _), hg.cell f3 (hne _), hg.cell f4 (hne _), hg.cell f5 (hne _), hg.cell f6 (hne _), hg.cell f7 (hne _), hg.cell f8 (hne _), hg.cell f9 (hne _), hg.cell f10 (hne _), hg.cell f11 (hne _), hg.cell f12 (hne _), hg.cell f13 (hne _)⟩
theorem keepNet {w w' : World} {p b : Nat} {u v : Value} {l : Letter} {pv iv : Value} (he : Ext w w') (h : (w.cell? ⟨p, 0, none⟩ = some u ∧ w.cell? ⟨p, 1, none⟩ = some v) ∧ LetC w b l pv iv) : (w'.cell? ⟨p, 0, none⟩ = some u ∧ w'.cell? ⟨p, 1, none⟩ = some v) ∧ LetC w' b l pv iv := ⟨keep2 he h.1, keepL he h.2⟩
theorem keepNetG {w w' : World} {p b mb : Nat} {u v : Value} {l : Letter} {pv iv : Value} (hg : w.grownBy w' (some mb)) (hp : p ≠ mb) (hb : b ≠ mb) (h : (w.cell? ⟨p, 0, none⟩ = some u ∧ w.cell? ⟨p, 1, none⟩ = some v) ∧ LetC w b l pv iv) : (w'.cell? ⟨p, 0, none⟩ = some u ∧ w'.cell? ⟨p, 1, none⟩ = some v) ∧ LetC w' b l pv iv :=
  ⟨keep2g hg (fun e => hp (Option.some.inj e)) (fun e => hp (Option.some.inj e)) h.1, keepLg hg hb h.2⟩

/-- What add, Send, Twice hand back where the letter goes in. -/
def AddPost (F : Nat → Prop) (p mb last : Nat) (rs : List Row) (l : Letter) (w : World) : Ending → World → Prop := fun e w' =>
  e = .returned (.tuple #[.int .i64 ((last : Int) + 1), .int .i64 0]) ∧ (∃ pv iv, NetM w' (Fx F w w') p mb (rs ++ [⟨(last : Int) + 1, l, pv, iv⟩]) (last + 1)) ∧ Upd (fun k => k = p ∨ k = mb) w w'

set_option maxHeartbeats 4000000 in
theorem add_calls' {F G : Nat → Prop} {p mb last : Nat} {rs : List Row} (w : World) (h : NetM w F p mb rs last) (hlast : last ≤ 100000) (hrs : rs.length < 4096) (l : Letter) {pv iv : Value} (hl : LetIn w G l pv iv) (hs : l.small) (hG : ¬ G p ∧ ¬ G mb) :
    Calls Try.prog 33 #[.pointer (some ⟨p, 0, none⟩), letV l pv iv] w (AddPost F p mb last rs l w) := by
  obtain ⟨A1, c1, rfl, hc1, hn1⟩ := hl.pairs.form
  obtain ⟨A2, c2, rfl, hc2, hn2⟩ := hl.intents.form
  obtain ⟨n1, hl1⟩ : ∃ n1, n1 = l.pairs.length := ⟨_, rfl⟩
  obtain ⟨n2, hl2⟩ : ∃ n2, n2 = l.intents.length := ⟨_, rfl⟩
  rw [← hl1] at hc1 hn1 hl ⊢
  rw [← hl2] at hc2 hn2 hl ⊢
  have Hl1 := Lib.hid hl1
  have Hl2 := Lib.hid hl2
  clear hl1 hl2
  obtain ⟨d0, d1⟩ := h.cells
  obtain ⟨hp, hmb⟩ := h.lt
  have hsz : Maps.size (dmap (rs.map Row.ent)) = rs.length := by rw [size_dmap, List.length_map]
  have hm := (h.ext ((Ext.refl w).alloc (.cells (letCs l (.slice A1 n1 c1) (.slice A2 n2 c2)) 34))).map.2
  have hne := h.ne
  have hfz := blk_free h.blk
  go_enter Try.func33, Try.ntmps33
  go_upto_region 4 with (at_len; refine wpList_len_own _ rfl _ 75 rfl 3 34 under75 RV mb last _ rfl hm ?_; rw [hsz])
  have hU' : Upd (fun k => k = p) w ((w.setCell ⟨p, 1, none⟩ (.int .i64 ((last : Int) + 1))).alloc (.cells (letCs l (.slice A1 n1 c1) (.slice A2 n2 c2)) 34)) := Upd.alloc (Upd.setCell (S := fun k => k = p) (p := ⟨p, 1, none⟩) (Upd.refl _ _) (.inl rfl) _) _
  have hB0 : ((w.setCell ⟨p, 1, none⟩ (.int .i64 ((last : Int) + 1))).alloc (.cells (letCs l (.slice A1 n1 c1) (.slice A2 n2 c2)) 34)).heap[w.heap.size]? = some (.cells (letCs l (.slice A1 n1 c1) (.slice A2 n2 c2)) 34 (0, 0)) := blk_new (by simp [World.setCell])
  have hP0 : ((w.setCell ⟨p, 1, none⟩ (.int .i64 ((last : Int) + 1))).alloc (.cells (letCs l (.slice A1 n1 c1) (.slice A2 n2 c2)) 34)).heap[p]? = some (.cells #[.map (some mb), .int .i64 ((last : Int) + 1)] 77 (0, 0)) := blk_old (blk_set h.blk 1 _)
  have hM0 := h.map.upd hU' (fun e => hne e.symm)
  have hL0 := hl.upd hU' (fun k _ hk e => hG.1 (e ▸ hk))
  have hR0 : ∀ r ∈ rs, LetIn ((w.setCell ⟨p, 1, none⟩ (.int .i64 ((last : Int) + 1))).alloc (.cells (letCs l (.slice A1 n1 c1) (.slice A2 n2 c2)) 34)) F r.l r.pv r.iv := fun r hr => (h.rows r hr).2.2.upd hU' (fun k _ hk e => h.nF (e ▸ hk))
  generalize ((w.setCell ⟨p, 1, none⟩ (.int .i64 ((last : Int) + 1))).alloc (.cells (letCs l (.slice A1 n1 c1) (.slice A2 n2 c2)) 34)) = W0 at hU' hB0 hP0 hM0 hL0 hR0 ⊢
  have hk : ∀ q ∈ rs.map Row.ent, q.1 < (last : Int) + 1 := by
    intro q hq
    obtain ⟨r, hr, rfl⟩ := List.mem_map.1 hq
    have := (h.rows r hr).1
    show r.n < _
    omega
  have hwf : (Lit.int .i64 ((last : Int) + 1)).wf = true := by simp [Lit.wf, IntKind.min, IntKind.max, IntKind.signed, IntKind.bits]; omega
  have p0 : W0.cell? ⟨p, 0, none⟩ = some (.map (some mb)) := blk_cell hP0 0
  have p1 : W0.cell? ⟨p, 1, none⟩ = some (.int .i64 ((last : Int) + 1)) := blk_cell hP0 1
  obtain ⟨f0, f1, f2, f3, f4, f5, f6, f7, f8, f9, f10, f11, f12, f13⟩ := let_cells hB0
  have hsm1 : l.pairs.length ≤ 100000 := by have := hs.1; omega
  have hsm2 : l.intents.length ≤ 100000 := by have := hs.2.1; omega
  have hbl : w.heap.size ≠ mb := by omega
  have Hk := Lib.hid hk
  have Hwf := Lib.hid hwf
  have H := Lib.hid h
  have HR0 := Lib.hid hR0
  have Hs := Lib.hid hs
  have HB0 := Lib.hid hB0
  have HP0 := Lib.hid hP0
  have HU := Lib.hid hU'
  have HG := Lib.hid hG
  clear hk hwf hsz hm h hR0 d0 d1 hs hfz hl hc1 hc2 hn1 hn2 hB0 hP0 hU' hG
  have hne1 : mb ≠ p := fun e => hne e.symm
  have hne2 : mb ≠ w.heap.size := fun e => hbl e.symm
  go_region_held3 (fun w' => (w'.cell? ⟨p, 0, none⟩ = some (.map (some mb)) ∧ w'.cell? ⟨p, 1, none⟩ = some (.int .i64 ((last : Int) + 1))) ∧ (w'.cell? ⟨w.heap.size, 0, none⟩ = some (.int .i64 l.kind) ∧ w'.cell? ⟨w.heap.size, 1, none⟩ = some (.int .i64 l.src) ∧ w'.cell? ⟨w.heap.size, 2, none⟩ = some (.int .i64 l.dst) ∧ w'.cell? ⟨w.heap.size, 3, none⟩ = some (.int .i64 l.a) ∧ w'.cell? ⟨w.heap.size, 4, none⟩ = some (.int .i64 l.b) ∧ w'.cell? ⟨w.heap.size, 5, none⟩ = some (.int .i64 l.c) ∧ w'.cell? ⟨w.heap.size, 6, none⟩ = some (.int .i64 l.d) ∧ w'.cell? ⟨w.heap.size, 7, none⟩ = some (.string l.s) ∧ w'.cell? ⟨w.heap.size, 8, none⟩ = some (.string l.t) ∧ w'.cell? ⟨w.heap.size, 9, none⟩ = some (.slice A1 n1 c1) ∧ w'.cell? ⟨w.heap.size, 10, none⟩ = some (.slice A2 n2 c2) ∧ w'.cell? ⟨w.heap.size, 11, none⟩ = some (.int .i64 l.code) ∧ w'.cell? ⟨w.heap.size, 12, none⟩ = some (.bool l.yes) ∧ w'.cell? ⟨w.heap.size, 13, none⟩ = some (.string l.body)))
    (first | exact ⟨⟨p0, p1⟩, ⟨f0, f1, f2, f3, f4, f5, f6, f7, f8, f9, f10, f11, f12, f13⟩⟩ | assumption | exact keepNet (by assumption) (by assumption) | exact keepNetG hg hne hbl (by assumption))
    (first
      | (go_at_call 38; (with_reducible refine (copy_calls l _ (hL0.ext (Ext.refl _).drew) hsm1 hsm2).mono ?_); rintro e wa ⟨pa, ia, rfl, hLa, hea⟩; obtain ⟨w6, hrun, hM6, hg⟩ := mapPut_run (letV l pa ia) (hM0.ext ((Ext.refl _).drew.trans hea)) Hk.out Hwf.out (by simp only [maxLen]; omega)))
  have heA : Ext W0 wa := (Ext.refl W0).drew.trans hea
  have hPA := blk_grown (blk_ext HP0.out heA) hg (fun e => hne (Option.some.inj e))
  have hsz0 : w.heap.size < W0.heap.size := blk_lt HB0.out
  have hszA := heA.sz
  have hsz6 := hg.size
  have hU6 : Upd (fun k => k = p ∨ k = mb) w w6 := ((HU.out.mono (S' := fun k => k = p ∨ k = mb) (fun _ _ h => .inl h)).trans (Upd.of_ext (S := fun _ => False) heA) (fun _ _ h => h.elim)).trans (Upd.of_grown hg) (fun i _ h => .inr (Option.some.inj h).symm)
  go_wp2
  go_ret2
  refine ⟨rfl, ⟨pa, ia, ⟨by simpa using hPA, ?_, ?_, hne, ?_, ?_⟩⟩, hU6⟩
  · rw [List.map_append]; exact hM6
  · intro r hr
    rcases List.mem_append.1 hr with hr | hr
    · obtain ⟨q1, q2, q3⟩ := H.out.rows r hr
      exact ⟨by omega, q2, (q3.bnd.upd hU6 (fun k _ hk e => by rcases e with rfl | rfl; exact H.out.nF hk.1; exact H.out.nG hk.1)).mono (fun k hk => .inl hk)⟩
    · obtain rfl := List.mem_singleton.1 hr
      refine ⟨by simp, Hs.out, (hLa.bnd.upd (Upd.of_grown hg) (fun k _ hk e => ?_)).mono (fun k hk => .inr ?_)⟩
      · have h1 : W0.heap.size ≤ k := hk.1
        have := Option.some.inj e
        omega
      · have h1 : W0.heap.size ≤ k := hk.1
        have := hk.2
        omega
  · rintro (⟨q, _⟩ | ⟨q, _⟩)
    · exact H.out.nF q
    · omega
  · rintro (⟨q, _⟩ | ⟨q, _⟩)
    · exact H.out.nG q
    · omega
end Go.Proofs.Ytmimncinnflfkaa
