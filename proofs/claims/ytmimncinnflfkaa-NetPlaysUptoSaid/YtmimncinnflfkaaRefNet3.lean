/- Layer 14, the document's net: add, Send, Twice, Under. -/
import Derived.Test.YtmimncinnflfkaaRefNet2
import Derived.Deep.RegionLaw
import Derived.ChangeAlike
set_option linter.all false
namespace Go.Proofs.Ytmimncinnflfkaa
open Go.RowKit
set_option maxRecDepth 100000

/-- What has turned of the document's net: its own block and its row. -/
def RS (q : Nat) (v : Value) : Nat → Prop := fun k => k = q ∨ v.ownBlock = some k
/-- Where the row lies now: where it lay, or in a new block. -/
def Av2 (w : World) (v v1 : Value) : Prop := v1.ownBlock = v.ownBlock ∨ v1.ownBlock = none ∨ ∃ b, v1.ownBlock = some b ∧ w.heap.size ≤ b
/-- What add, Send, Twice of the document hand back where the letter goes in. -/
def RAddPost (F : Nat → Prop) (q last : Nat) (v : Value) (xs : List (Int × Letter)) (l : Letter) (w : World) : Ending → World → Prop := fun e w' =>
  e = .returned (.tuple #[.int .i64 ((last : Int) + 1), .int .i64 0]) ∧ (∃ v1, RefM w' F q v1 (xs ++ [((last : Int) + 1, l)]) (last + 1) ∧ Av2 w v v1) ∧ Upd (RS q v) w w'

theorem RefM.cells {w : World} {F : Nat → Prop} {q last : Nat} {v : Value} {xs : List (Int × Letter)} (h : RefM w F q v xs last) : w.cell? ⟨q, 0, none⟩ = some v ∧ w.cell? ⟨q, 1, none⟩ = some (.int .i64 last) := ⟨blk_cell h.blk 0, blk_cell h.blk 1⟩
theorem RefM.ext {w w' : World} {F : Nat → Prop} {q last : Nat} {v : Value} {xs : List (Int × Letter)} (h : RefM w F q v xs last) (he : Ext w w') : RefM w' F q v xs last := ⟨blk_ext h.blk he, h.own.ext he, h.nF⟩
theorem RefM.upd {w w' : World} {F S : Nat → Prop} {q last : Nat} {v : Value} {xs : List (Int × Letter)} (h : RefM w F q v xs last) (he : Upd S w w') (hS : ∀ k, S k → ¬ RS q v k) (hF : ∀ k, k < w.heap.size → F k → ¬ S k) : RefM w' F q v xs last :=
  ⟨blk_upd h.blk he (fun hs => hS _ hs (.inl rfl)), h.own.upd he (fun k hk hF' hs => by rcases hF' with h1 | h1; exact hF k hk h1 hs; exact hS _ hs (.inr h1)), h.nF⟩

set_option maxHeartbeats 2000000 in
theorem radd_calls {F : Nat → Prop} {q last : Nat} {v : Value} {xs : List (Int × Letter)} (w : World) (h : RefM w F q v xs last) (hq : ∀ k, F k → k < q) (hlast : last ≤ 100000) (hxs : xs.length < 4096) (l : Letter) {pv iv : Value} (hl : LetIn w F l pv iv) :
    Calls Try.prog 35 #[.pointer (some ⟨q, 0, none⟩), letV l pv iv] w (RAddPost F q last v xs l w) := by
  obtain ⟨A1, c1, rfl, hc1, hn1⟩ := hl.pairs.form
  obtain ⟨A2, c2, rfl, hc2, hn2⟩ := hl.intents.form
  obtain ⟨n1, hl1⟩ : ∃ n1, n1 = l.pairs.length := ⟨_, rfl⟩
  obtain ⟨n2, hl2⟩ : ∃ n2, n2 = l.intents.length := ⟨_, rfl⟩
  rw [← hl1] at hc1 hn1 hl ⊢
  rw [← hl2] at hc2 hn2 hl ⊢
  have Hl1 := Lib.hid hl1
  have Hl2 := Lib.hid hl2
  clear hl1 hl2
  obtain ⟨d0, d1⟩ := h.cells
  obtain ⟨A, c, rfl, hc, hn⟩ := h.own.form
  obtain ⟨n, hln⟩ : ∃ n, n = xs.length := ⟨_, rfl⟩
  rw [← hln] at d0 hc hn hxs h ⊢
  have Hln := Lib.hid hln
  clear hln
  have hfz := blk_free h.blk
  have hqlt : q < w.heap.size := blk_lt h.blk
  go_enter Try.func35, Try.ntmps35
  go_upto_region 4 with (fail)
  have hU' : Upd (fun k => k = q) w ((w.setCell ⟨q, 1, none⟩ (.int .i64 ((last : Int) + 1))).alloc (.cells (letCs l (.slice A1 n1 c1) (.slice A2 n2 c2)) 34)) := Upd.alloc (Upd.setCell (S := fun k => k = q) (p := ⟨q, 1, none⟩) (Upd.refl _ _) (.inl rfl) _) _
  have hB0 : ((w.setCell ⟨q, 1, none⟩ (.int .i64 ((last : Int) + 1))).alloc (.cells (letCs l (.slice A1 n1 c1) (.slice A2 n2 c2)) 34)).heap[w.heap.size]? = some (.cells (letCs l (.slice A1 n1 c1) (.slice A2 n2 c2)) 34 (0, 0)) := blk_new (by simp [World.setCell])
  have hP0 : ((w.setCell ⟨q, 1, none⟩ (.int .i64 ((last : Int) + 1))).alloc (.cells (letCs l (.slice A1 n1 c1) (.slice A2 n2 c2)) 34)).heap[q]? = some (.cells #[.slice A n c, .int .i64 ((last : Int) + 1)] 29 (0, 0)) := blk_old (blk_set h.blk 1 _)
  have hL0 := hl.upd hU' (fun k _ hk e => h.nF (e ▸ hk))
  have hO0 := h.own.upd hU' (fun k _ hk e => by rcases hk with hk | hk; exact h.nF (e ▸ hk); have := (h.own.blk k hk).1; omega)
  generalize ((w.setCell ⟨q, 1, none⟩ (.int .i64 ((last : Int) + 1))).alloc (.cells (letCs l (.slice A1 n1 c1) (.slice A2 n2 c2)) 34)) = W0 at hU' hB0 hP0 hL0 hO0 ⊢
  have p0 : W0.cell? ⟨q, 0, none⟩ = some (.slice A n c) := blk_cell hP0 0
  have p1 : W0.cell? ⟨q, 1, none⟩ = some (.int .i64 ((last : Int) + 1)) := blk_cell hP0 1
  have pf := blk_free hP0
  obtain ⟨f0, f1, f2, f3, f4, f5, f6, f7, f8, f9, f10, f11, f12, f13⟩ := let_cells hB0
  have hav : ∀ k, F k → (Value.slice A n c).ownBlock ≠ some k := fun k hk e => by have := (h.own.blk k e).1; have := hq k hk; omega
  have hsz0 := hU'.size
  have hq0 : q < W0.heap.size := by omega
  have p2 : ∀ o, (W0.alloc o).cell? ⟨q, 0, none⟩ = some (.slice A n c) := fun o => blk_cell (blk_old hP0) 0
  have HO := Lib.hid hO0
  have HL := Lib.hid hL0
  have HB := Lib.hid hB0
  have HP := Lib.hid hP0
  have HU := Lib.hid hU'
  have Hav := Lib.hid hav
  have H := Lib.hid h
  clear hO0 hL0 hB0 hP0 hU' hav h hl hfz d0 d1 hq
  go_region_law (refine app_sent1_step (W := W0.drew) (q + 1) rfl (.tmp 24) (.tmp 31) rfl ((last : Int) + 1) l (.slice A1 n1 c1) (.slice A2 n2 c2) rfl (HO.out.ext (Ext.refl _).drew) (HL.out.ext (Ext.refl _).drew) Hav.out rfl rfl (by show q + 1 ≤ W0.heap.size; omega) (by have := Hln.out; omega) ?_; intro v1 w1 hO1 hg1 hat1; obtain ⟨A3, c3, rfl, _, _⟩ := hO1.form; obtain ⟨n3, hn3⟩ : ∃ n3, n3 = (xs ++ [((last : Int) + 1, l)]).length := ⟨_, rfl⟩; rw [← hn3] at hO1 hat1 ⊢; have Hn3 := Lib.hid hn3; clear hn3; have hP1 := blk_grown (blk_ext HP.out (Ext.refl W0).drew) hg1 (fun e => by have := (H.out.own.blk q e.symm).1; omega); have pf1 := blk_free hP1; have pp0 := blk_cell hP1 0; have pp1 := blk_cell hP1 1; simp only [List.getElem?_toArray, List.getElem?_cons_succ, List.getElem?_cons_zero] at pp0 pp1; have HP1 := Lib.hid hP1; have HO1 := Lib.hid hO1; have Hg1 := Lib.hid hg1; have Hat1 := Lib.hid hat1; clear hP1 hO1 hg1 hat1)
  go_wp2
  all_goals
    go_ret2
    have hw1 : W0.heap.size ≤ w1.heap.size := Hg1.out.size
    have hUq : Upd (fun k => k = q) w1 (w1.setCell ⟨q, 0, none⟩ (.slice A3 n3 c3)) := Upd.setCell (S := fun k => k = q) (p := ⟨q, 0, none⟩) (Upd.refl _ _) (.inl rfl) _
    refine ⟨rfl, ⟨.slice A3 n3 c3, ⟨?_, ?_, H.out.nF⟩, ?_⟩, ?_⟩
    · have := blk_set HP1.out 0 (.slice A3 n3 c3)
      simpa using this
    · refine HO1.out.upd hUq (fun k _ hk e => ?_)
      rcases hk with hk | hk
      · exact H.out.nF (e ▸ hk)
      · have := (HO1.out.blk k hk).1
        omega
    · rcases Hat1.out with e | ⟨b, e, hb⟩
      · exact .inl e
      · exact .inr (.inr ⟨b, e, by have : W0.heap.size ≤ b := hb; omega⟩)
    · exact (((HU.out.mono (S' := RS q (.slice A n c)) (fun _ _ h => .inl h)).trans (Upd.of_ext (S := fun _ => False) (Ext.refl W0).drew) (fun _ _ h => h.elim)).trans (Upd.of_grown Hg1.out) (fun i _ h => .inr h)).trans hUq (fun i _ h => .inl h)
end Go.Proofs.Ytmimncinnflfkaa
