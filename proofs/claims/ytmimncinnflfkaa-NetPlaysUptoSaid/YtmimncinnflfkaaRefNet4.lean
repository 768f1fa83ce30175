/- Layer 14, the document's net: Send, Twice, Under. -/
import Derived.Test.YtmimncinnflfkaaRefNet3
set_option linter.all false
namespace Go.Proofs.Ytmimncinnflfkaa
open Go.RowKit
set_option maxRecDepth 100000

theorem RAddPost.later {F : Nat → Prop} {q last : Nat} {v : Value} {xs : List (Int × Letter)} {l : Letter} {w w1 : World} {e : Ending} {w' : World} (he : Ext w w1) (h : RAddPost F q last v xs l w1 e w') : RAddPost F q last v xs l w e w' := by
  obtain ⟨h1, ⟨v1, h2, h3⟩, h4⟩ := h
  refine ⟨h1, ⟨v1, h2, ?_⟩, (Upd.of_ext he).trans h4 (fun _ _ h => h)⟩
  rcases h3 with h3 | h3 | ⟨b, h3, h5⟩
  · exact .inl h3
  · exact .inr (.inl h3)
  · exact .inr (.inr ⟨b, h3, Nat.le_trans he.sz h5⟩)

set_option maxHeartbeats 2000000 in
theorem rsend_calls {F : Nat → Prop} {q last : Nat} {v : Value} {xs : List (Int × Letter)} (w : World) (h : RefM w F q v xs last) (hq : ∀ k, F k → k < q) (hlast : last ≤ 100000) (hxs : xs.length < 4096) (l : Letter) {pv iv : Value} (hl : LetIn w F l pv iv) (hs : l.small) :
    Calls Try.prog 9 #[.pointer (some ⟨q, 0, none⟩), letV l pv iv] w fun e w' => (l.err = 0 ∧ RAddPost F q last v xs l w e w') ∨ (l.err ≠ 0 ∧ e = .returned (.tuple #[.int .i64 0, .int .i64 l.err]) ∧ Ext w w') := by
  obtain ⟨A1, c1, rfl, hc1, hn1⟩ := hl.pairs.form
  obtain ⟨A2, c2, rfl, hc2, hn2⟩ := hl.intents.form
  obtain ⟨n1, hl1⟩ : ∃ n1, n1 = l.pairs.length := ⟨_, rfl⟩
  obtain ⟨n2, hl2⟩ : ∃ n2, n2 = l.intents.length := ⟨_, rfl⟩
  rw [← hl1] at hc1 hn1 hl ⊢
  rw [← hl2] at hc2 hn2 hl ⊢
  have Hl1 := Lib.hid hl1
  have Hl2 := Lib.hid hl2
  clear hl1 hl2
  obtain ⟨z, hz⟩ : ∃ z, z = l.err := ⟨_, rfl⟩
  have hB : (w.alloc (.cells (letCs l (.slice A1 n1 c1) (.slice A2 n2 c2)) 34)).heap[w.heap.size]? = some (.cells (letCs l (.slice A1 n1 c1) (.slice A2 n2 c2)) 34 (0, 0)) := blk_new rfl
  have hE : Ext w (w.alloc (.cells (letCs l (.slice A1 n1 c1) (.slice A2 n2 c2)) 34)) := (Ext.refl w).alloc _
  go_enter Try.func9, Try.ntmps9
  go_wp2_with fail
  refine (rpack_calls l _ (hl.ext hE) hs.2.2 hs.1 hs.2.1).mono ?_
  rintro e w1 ⟨str, rfl, he⟩
  rw [← hz]
  have Hz := Lib.hid hz
  clear hz
  have hB1 := blk_ext hB he
  have hE1 := hE.trans he
  obtain ⟨f0, f1, f2, f3, f4, f5, f6, f7, f8, f9, f10, f11, f12, f13⟩ := let_cells hB1
  by_cases hz0 : z = 0
  · subst hz0
    go_wp2_with fail
    refine (radd_calls _ (h.ext hE1) hq hlast hxs l (hl.ext hE1)).mono ?_
    intro e w2 hP
    have hP := hP.later hE1
    obtain ⟨rfl, _⟩ := id hP
    have HP := Lib.hid hP
    clear hP
    go_wp2
    go_ret2
    exact .inl ⟨Hz.out.symm, HP.out⟩
  · go_wp2
    go_ret2
    exact .inr ⟨by rw [← Hz.out]; exact hz0, ret2 rfl (vint Hz.out), hE1⟩

/-- The cells of a letter in a row, one by one. -/
theorem sent_cells {w : World} {b o : Nat} {x : Int × Letter} {pv iv : Value} (hc : ∀ j u, (Value.int .i64 x.1 :: (letCs x.2 pv iv).toList)[j]? = some u → w.cell? ⟨b, o + j, none⟩ = some u) :
    w.cell? ⟨b, o + 1, none⟩ = some (.int .i64 x.2.kind) ∧ w.cell? ⟨b, o + 1 + 1, none⟩ = some (.int .i64 x.2.src) ∧ w.cell? ⟨b, o + 1 + 2, none⟩ = some (.int .i64 x.2.dst) ∧ w.cell? ⟨b, o + 1 + 3, none⟩ = some (.int .i64 x.2.a) ∧ w.cell? ⟨b, o + 1 + 4, none⟩ = some (.int .i64 x.2.b) ∧ w.cell? ⟨b, o + 1 + 5, none⟩ = some (.int .i64 x.2.c) ∧ w.cell? ⟨b, o + 1 + 6, none⟩ = some (.int .i64 x.2.d) ∧ w.cell? ⟨b, o + 1 + 7, none⟩ = some (.string x.2.s) ∧ w.cell? ⟨b, o + 1 + 8, none⟩ = some (.string x.2.t) ∧ w.cell? ⟨b, o + 1 + 9, none⟩ = some pv ∧ w.cell? ⟨b, o + 1 + 10, none⟩ = some iv ∧ w.cell? ⟨b, o + 1 + 11, none⟩ = some (.int .i64 x.2.code) ∧ w.cell? ⟨b, o + 1 + 12, none⟩ = some (.bool x.2.yes) ∧ w.cell? ⟨b, o + 1 + 13, none⟩ = some (.string x.2.body) :=
  ⟨hc 1 _ rfl, hc 2 _ rfl, hc 3 _ rfl, hc 4 _ rfl, hc 5 _ rfl, hc 6 _ rfl, hc 7 _ rfl, hc 8 _ rfl, hc 9 _ rfl, hc 10 _ rfl, hc 11 _ rfl, hc 12 _ rfl, hc 13 _ rfl, hc 14 _ rfl⟩

theorem RefM.sl {w : World} {F : Nat → Prop} {q last : Nat} {v : Value} {xs : List (Int × Letter)} (h : RefM w F q v xs last) : ∀ j x, xs[j]? = some x → ∃ b pv iv n c, v = .slice (some ⟨b, 0, none⟩) n c ∧ n = xs.length ∧ LetIn w F x.2 pv iv ∧ ∀ i u, (Value.int .i64 x.1 :: (letCs x.2 pv iv).toList)[i]? = some u → w.cell? ⟨b, j * 15 + i, none⟩ = some u := by
  intro j x hx
  obtain ⟨inner, ho, hr⟩ := h.own
  have hj := (List.getElem?_eq_some_iff.1 hx).1
  rcases ho.2 with ⟨_, h0⟩ | ⟨g, cap, cur, rfl, hb, hg, h1, h2, h3, h4⟩
  · omega
  · obtain ⟨pv, iv, hcs, hL⟩ := hr.2 j x hx
    refine ⟨g, pv, iv, _, _, rfl, rfl, hL.mono (fun k hk => hk.1), fun i u hu => ?_⟩
    rw [cell_of_row w g _ cur _ (0, 0) hg]
    rw [← hcs, List.getElem?_take] at hu
    split at hu
    · rw [List.getElem?_drop, ← h4, List.getElem?_take] at hu
      split at hu
      · rw [← Array.getElem?_toList]; exact hu
      · cases hu
    · cases hu

set_option maxHeartbeats 2000000 in
theorem rtwice_calls {F : Nat → Prop} {q last : Nat} {v : Value} {xs : List (Int × Letter)} (w : World) (h : RefM w F q v xs last) (hq : ∀ k, F k → k < q) (hlast : last ≤ 100000) (hxs : xs.length < 4096) (k : Int) :
    Calls Try.prog 15 #[.pointer (some ⟨q, 0, none⟩), .int .i64 k] w fun e w' => (∃ x ∈ xs, x.1 = k ∧ RAddPost F q last v xs x.2 w e w') ∨ ((∀ x ∈ xs, x.1 ≠ k) ∧ e = .returned (.tuple #[.int .i64 0, .int .i64 7]) ∧ Ext w w') := by
  obtain ⟨d0, d1⟩ := h.cells
  go_enter Try.func15, Try.ntmps15
  go_wp2_with fail
  refine (at_calls w h k).mono ?_
  rintro e w1 ⟨rfl, ⟨j, x, rfl, hx, hk⟩ | ⟨rfl, hn⟩⟩
  · obtain ⟨b, pv, iv, n, c, rfl, hn, hL, hc⟩ := h.sl j x hx
    have hj := (List.getElem?_eq_some_iff.1 hx).1
    rw [← hn] at hj
    have hxm : x ∈ xs := List.mem_of_getElem? hx
    obtain ⟨f0, f1, f2, f3, f4, f5, f6, f7, f8, f9, f10, f11, f12, f13⟩ := sent_cells hc
    obtain ⟨A1, c1, rfl, hc1, hn1⟩ := hL.pairs.form
    obtain ⟨A2, c2, rfl, hc2, hn2⟩ := hL.intents.form
    generalize hl1 : x.2.pairs.length = n1 at f9 hL hc1 hn1
    generalize hl2 : x.2.intents.length = n2 at f10 hL hc2 hn2
    have hn9 : n ≤ 9223372036854775807 := by omega
    have HL := Lib.hid hL
    have Hx := Lib.hid (show x ∈ xs ∧ x.1 = k from ⟨hxm, hk⟩)
    have Hn := Lib.hid hn
    have Hl1 := Lib.hid hl1
    have Hl2 := Lib.hid hl2
    clear hL hk hxm hx hc hl1 hl2 hn
    go_wp2_with fail
    refine (radd_calls _ h hq hlast hxs x.2 HL.out).mono ?_
    intro e w2 hP
    obtain ⟨rfl, _⟩ := id hP
    have HP := Lib.hid hP
    clear hP
    go_wp2
    go_ret2
    exact .inl ⟨x, Hx.out.1, Hx.out.2, HP.out⟩
  · go_wp2
    go_ret2
    exact .inr ⟨hn, rfl, Ext.refl _⟩
end Go.Proofs.Ytmimncinnflfkaa
