/- Layer 14, the document's net: Deliver. -/
import Derived.Test.YtmimncinnflfkaaRefNet6
set_option linter.all false
namespace Go.Proofs.Ytmimncinnflfkaa
open Go.RowKit
set_option maxRecDepth 100000

/-- What the document's Deliver hands back. -/
def RDelPost (F : Nat → Prop) (q last : Nat) (v : Value) (xs : List (Int × Letter)) (k : Int) (w : World) : Ending → World → Prop := fun e w' =>
  (∃ (j : Nat) (x : Int × Letter) (pv iv : Value), xs[j]? = some x ∧ x.1 = k ∧ e = .returned (.tuple #[letV x.2 pv iv, .int .i64 0]) ∧ LetIn w' F x.2 pv iv ∧ (∃ v1, RefM w' F q v1 (xs.take j ++ xs.drop (j + 1)) last ∧ Av2 w v v1) ∧ Upd (RS q v) w w')
  ∨ ((∀ x ∈ xs, x.1 ≠ k) ∧ e = .returned (.tuple #[zeroV, .int .i64 7]) ∧ Ext w w')

theorem own_apart {F : Nat → Prop} {B : Nat} {u : Value} {w : World} {ys : List (Int × Letter)} (hO : Own tSent 49 w F B u ys) (hq : ∀ k, F k → k < B) : ∀ k, F k → F k ∧ u.ownBlock ≠ some k :=
  fun k hk => ⟨hk, fun e => by have := (hO.blk k e).1; have := hq k hk; omega⟩

theorem own_apart_q {F : Nat → Prop} {q B : Nat} {u : Value} {w : World} {ys : List (Int × Letter)} (hO : Own tSent 49 w F B u ys) (hq : q < B) : some q ≠ u.ownBlock :=
  fun e => by have := (hO.blk q e.symm).1; omega

set_option maxHeartbeats 2000000 in
theorem rdeliver_calls {F : Nat → Prop} {q last : Nat} {v : Value} {xs : List (Int × Letter)} (w : World) (h : RefM w F q v xs last) (hq : ∀ k, F k → k < q) (hxs : xs.length ≤ 4096) (k : Int) :
    Calls Try.prog 11 #[.pointer (some ⟨q, 0, none⟩), .int .i64 k] w (RDelPost F q last v xs k w) := by
  have hE0 : Ext w (w.alloc (.cells (letCs Letter.zero (.slice none 0 0) (.slice none 0 0)) 34)) := (Ext.refl w).alloc _
  have hZ : (w.alloc (.cells (letCs Letter.zero (.slice none 0 0) (.slice none 0 0)) 34)).heap[w.heap.size]? = some (.cells (letCs Letter.zero (.slice none 0 0) (.slice none 0 0)) 34 (0, 0)) := blk_new rfl
  go_enter Try.func11, Try.ntmps11
  go_wp2_with fail
  refine (at_calls _ (h.ext hE0) k).mono ?_
  rintro e w1 ⟨rfl, ⟨j, x, rfl, hx, hk⟩ | ⟨rfl, hn⟩⟩
  · have hR := h.ext hE0
    have hw := blk_lt h.blk
    generalize (w.alloc (.cells (letCs Letter.zero (.slice none 0 0) (.slice none 0 0)) 34)) = W at hE0 hZ hR ⊢
    have hZl := blk_lt hZ
    have hqW : q < W.heap.size := by omega
    obtain ⟨d0, d1⟩ := hR.cells
    obtain ⟨b, pv, iv, n, c, rfl, hn, hL, hc⟩ := hR.sl j x hx
    have hj := (List.getElem?_eq_some_iff.1 hx).1
    rw [← hn] at hj hxs
    obtain ⟨f0, f1, f2, f3, f4, f5, f6, f7, f8, f9, f10, f11, f12, f13⟩ := sent_cells hc
    obtain ⟨A1, c1, rfl, hc1, hn1⟩ := hL.pairs.form
    obtain ⟨A2, c2, rfl, hc2, hn2⟩ := hL.intents.form
    generalize hl1 : x.2.pairs.length = n1 at f9 hL hc1 hn1
    generalize hl2 : x.2.intents.length = n2 at f10 hL hc2 hn2
    have hcap : n ≤ c := by obtain ⟨A', c', e, h1, _⟩ := h.own.form; injection e with e1 e2 e3; omega
    have HL := Lib.hid hL
    have Hx := Lib.hid (show xs[j]? = some x ∧ x.1 = k from ⟨hx, hk⟩)
    have Hn := Lib.hid hn
    have Hl1 := Lib.hid hl1
    have Hl2 := Lib.hid hl2
    have H := Lib.hid h
    have HR := Lib.hid hR
    have HE := Lib.hid hE0
    have HZ := Lib.hid hZ
    clear hL hk hx hc hl1 hl2 hn h hZ hR hE0
    have hbW : b < W.heap.size := by have := World.block_lt_of_cell? _ _ f1; exact this
    go_upto_region 6 with (fail)
    have hE2 : Ext W (W.alloc (.cells (letCs x.2 (.slice A1 n1 c1) (.slice A2 n2 c2)) 34)) := (Ext.refl W).alloc _
    have hB2 : (W.alloc (.cells (letCs x.2 (.slice A1 n1 c1) (.slice A2 n2 c2)) 34)).heap[W.heap.size]? = some (.cells (letCs x.2 (.slice A1 n1 c1) (.slice A2 n2 c2)) 34 (0, 0)) := blk_new rfl
    generalize (W.alloc (.cells (letCs x.2 (.slice A1 n1 c1) (.slice A2 n2 c2)) 34)) = W2 at hE2 hB2 ⊢
    have hR2 := HR.out.ext hE2
    have hL2 := HL.out.ext hE2
    clear d0 d1 f0 f1 f2 f3 f4 f5 f6 f7 f8 f9 f10 f11 f12 f13
    obtain ⟨d0, d1⟩ := hR2.cells
    have hqW2 : q + 1 ≤ W2.heap.size := by have := hE2.sz; omega
    have HR2 := Lib.hid hR2
    have HE2 := Lib.hid hE2
    have HB2 := Lib.hid hB2
    clear hR2 hL2 hE2 hB2
    have hqB : ∀ k, F k → k < W2.heap.size := fun k hk => by have := hq k hk; omega
    have hxl : xs.length ≤ 4096 := by rw [← Hn.out]; exact hxs
    by_cases hjc : j + 1 = c
    · have hxj : xs.length ≤ j + 1 := by rw [← Hn.out]; omega
      go_upto_region 8 with (first
        | (at_builtin; refine app_sentS (W := W2) W2.heap.size rfl (.tmp 23) (.tmp 29) rfl (Own.nil tSent 49 W2 F W2.heap.size) ((HR2.out.own.srcTake (by omega)).mono (own_apart (Own.nil _ _ W2 _ W2.heap.size) hqB)) rfl rfl (by omega) (by simp; omega) ?_; intro v1 w3 hO3 hg3 hat3; clear hat3; have hsz3 := hg3.size; have HR3 := Lib.hid (HR2.out.ext ((Ext.refl W2).grown hg3 (fun _ h => by cases h))); obtain ⟨g0, g1⟩ := HR3.out.cells; obtain ⟨A3, c3, rfl, _, _⟩ := hO3.form; have HE3 := Lib.hid ((Ext.refl W2).grown hg3 (fun _ h => by cases h)); have HO3 := Lib.hid hO3; have Hg3 := Lib.hid hg3; clear hO3 hg3; generalize ([] ++ xs.take j).length = n3 at HO3 ⊢)
        | (at_builtin; refine app_sentS (W := w3) W2.heap.size rfl (.tmp 32) (.tmp 39) rfl HO3.out (Src.nil hxj) rfl rfl (by omega) (by simp; omega) ?_; intro v2 w4 hO4 hg4 hat4; have HP4 := Lib.hid (blk_grown HR3.out.blk hg4 (own_apart_q HO3.out (by omega))); have k0 := blk_cell HP4.out 0; have kf := blk_free HP4.out; simp only [List.getElem?_toArray, List.getElem?_cons_zero] at k0; obtain ⟨A4, c4, rfl, _, _⟩ := hO4.form; have HE4 := Lib.hid (HE3.out.grown hg4 (fun k h => (HO3.out.blk k h).1)); have HO4 := Lib.hid hO4; have Hg4 := Lib.hid hg4; have Hat4 := Lib.hid hat4; clear hO4 hg4 hat4; generalize ([] ++ xs.take j ++ xs.drop (j + 1)).length = n4 at HO4 Hat4 ⊢))
      have hEw4 : Ext w w4 := (HE.out.trans HE2.out).trans HE4.out
      have hUq : Upd (fun k => k = q) w4 (w4.setCell ⟨q, 0, none⟩ (.slice A4 n4 c4)) := Upd.setCell (S := fun k => k = q) (p := ⟨q, 0, none⟩) (Upd.refl _ _) (.inl rfl) _
      have hP5 : (w4.setCell ⟨q, 0, none⟩ (.slice A4 n4 c4)).heap[q]? = some (.cells #[.slice A4 n4 c4, .int .i64 last] 29 (0, 0)) := by simpa using blk_set HP4.out 0 (.slice A4 n4 c4)
      have hO5 := (HO4.out.low (base' := q + 1) hqW2).upd hUq (fun k _ hk e => by rcases hk with hk | hk; exact H.out.nF (e ▸ hk); have := (HO4.out.blk k hk).1; omega)
      have hL5 := blk_upd (blk_ext HB2.out HE4.out) hUq (by omega)
      have hZ5 := blk_upd (blk_ext (blk_ext HZ.out HE2.out) HE4.out) hUq (by omega)
      have hU5 : Upd (fun k => k = q) w (w4.setCell ⟨q, 0, none⟩ (.slice A4 n4 c4)) := (Upd.of_ext hEw4).trans hUq (fun _ _ h => h)
      clear k0 kf g0 g1 d0 d1
      generalize (w4.setCell ⟨q, 0, none⟩ (.slice A4 n4 c4)) = w5 at hUq hP5 hO5 hL5 hZ5 hU5 ⊢
      obtain ⟨f0, f1, f2, f3, f4, f5, f6, f7, f8, f9, f10, f11, f12, f13⟩ := let_cells hL5
      obtain ⟨g0, g1, g2, g3, g4, g5, g6, g7, g8, g9, g10, g11, g12, g13⟩ := let_cells hZ5
      have hfz := blk_free hZ5
      have HL5 := Lib.hid hL5
      have HZ5 := Lib.hid hZ5
      have HP5 := Lib.hid hP5
      have HO5 := Lib.hid hO5
      have HU5 := Lib.hid hU5
      have HUq := Lib.hid hUq
      clear hL5 hZ5 hP5 hO5 hU5 hUq
      go_wp2
      have hR := setLet_blk HZ5.out x.2 (.slice A1 n1 c1) (.slice A2 n2 c2)
      have hU6 := setLet_upd w5 w.heap.size x.2 (.slice A1 n1 c1) (.slice A2 n2 c2)
      refine bodyPost_ret (results_cell_tmp_row rfl _ _ w.heap.size _ _ _ _ rfl hR Try.underlying34 rfl info_letter) rfl ?_
      refine .inl ⟨j, x, _, _, Hx.out.1, Hx.out.2, rfl, ?_, ⟨.slice A4 n4 c4, ⟨blk_upd HP5.out hU6 (by omega), ?_, H.out.nF⟩, ?_⟩, ?_⟩
      · exact (((HL.out.ext HE2.out).ext HE4.out).upd HUq.out (fun k _ hk e => H.out.nF (e ▸ hk))).upd hU6 (fun k _ hk e => by have := hq k hk; omega)
      · exact HO5.out.upd hU6 (fun k _ hk e => by rcases hk with hk | hk; have := hq k hk; omega; have := (HO4.out.blk k hk).1; have h1 := HE2.out.sz; have h2 := HE.out.sz; omega)
      · rcases h : (Value.slice A4 n4 c4).ownBlock with _ | k
        · exact .inr (.inl h)
        · exact .inr (.inr ⟨k, h, by have := (HO4.out.blk k h).1; have h1 := HE2.out.sz; omega⟩)
      · exact (HU5.out.trans hU6 (S' := fun k => k = w.heap.size) (fun i hi e => by omega)).mono (fun _ _ h => .inl h)
    · go_upto_region 8 with (first
        | (at_builtin; refine app_sentS (W := W2) W2.heap.size rfl (.tmp 23) (.tmp 29) rfl (Own.nil tSent 49 W2 F W2.heap.size) ((HR2.out.own.srcTake (by omega)).mono (own_apart (Own.nil _ _ W2 _ W2.heap.size) hqB)) rfl rfl (by omega) (by simp; omega) ?_; intro v1 w3 hO3 hg3 hat3; clear hat3; have hsz3 := hg3.size; have HR3 := Lib.hid (HR2.out.ext ((Ext.refl W2).grown hg3 (fun _ h => by cases h))); obtain ⟨g0, g1⟩ := HR3.out.cells; obtain ⟨A3, c3, rfl, _, _⟩ := hO3.form; have HE3 := Lib.hid ((Ext.refl W2).grown hg3 (fun _ h => by cases h)); have HO3 := Lib.hid hO3; have Hg3 := Lib.hid hg3; clear hO3 hg3; generalize ([] ++ xs.take j).length = n3 at HO3 ⊢)
        | (at_builtin; refine app_sentS (W := w3) W2.heap.size rfl (.tmp 32) (.tmp 39) rfl HO3.out ((HR3.out.own.srcDrop (m := j + 1) (some ⟨b, (j + 1) * 15, none⟩) (c - (j + 1)) (by omega) (fun _ => rfl)).mono (own_apart HO3.out hqB)) rfl rfl (by omega) (by simp; omega) ?_; intro v2 w4 hO4 hg4 hat4; have HP4 := Lib.hid (blk_grown HR3.out.blk hg4 (own_apart_q HO3.out (by omega))); have k0 := blk_cell HP4.out 0; have kf := blk_free HP4.out; simp only [List.getElem?_toArray, List.getElem?_cons_zero] at k0; obtain ⟨A4, c4, rfl, _, _⟩ := hO4.form; have HE4 := Lib.hid (HE3.out.grown hg4 (fun k h => (HO3.out.blk k h).1)); have HO4 := Lib.hid hO4; have Hg4 := Lib.hid hg4; have Hat4 := Lib.hid hat4; clear hO4 hg4 hat4; generalize ([] ++ xs.take j ++ xs.drop (j + 1)).length = n4 at HO4 Hat4 ⊢))
      have hEw4 : Ext w w4 := (HE.out.trans HE2.out).trans HE4.out
      have hUq : Upd (fun k => k = q) w4 (w4.setCell ⟨q, 0, none⟩ (.slice A4 n4 c4)) := Upd.setCell (S := fun k => k = q) (p := ⟨q, 0, none⟩) (Upd.refl _ _) (.inl rfl) _
      have hP5 : (w4.setCell ⟨q, 0, none⟩ (.slice A4 n4 c4)).heap[q]? = some (.cells #[.slice A4 n4 c4, .int .i64 last] 29 (0, 0)) := by simpa using blk_set HP4.out 0 (.slice A4 n4 c4)
      have hO5 := (HO4.out.low (base' := q + 1) hqW2).upd hUq (fun k _ hk e => by rcases hk with hk | hk; exact H.out.nF (e ▸ hk); have := (HO4.out.blk k hk).1; omega)
      have hL5 := blk_upd (blk_ext HB2.out HE4.out) hUq (by omega)
      have hZ5 := blk_upd (blk_ext (blk_ext HZ.out HE2.out) HE4.out) hUq (by omega)
      have hU5 : Upd (fun k => k = q) w (w4.setCell ⟨q, 0, none⟩ (.slice A4 n4 c4)) := (Upd.of_ext hEw4).trans hUq (fun _ _ h => h)
      clear k0 kf g0 g1 d0 d1
      generalize (w4.setCell ⟨q, 0, none⟩ (.slice A4 n4 c4)) = w5 at hUq hP5 hO5 hL5 hZ5 hU5 ⊢
      obtain ⟨f0, f1, f2, f3, f4, f5, f6, f7, f8, f9, f10, f11, f12, f13⟩ := let_cells hL5
      obtain ⟨g0, g1, g2, g3, g4, g5, g6, g7, g8, g9, g10, g11, g12, g13⟩ := let_cells hZ5
      have hfz := blk_free hZ5
      have HL5 := Lib.hid hL5
      have HZ5 := Lib.hid hZ5
      have HP5 := Lib.hid hP5
      have HO5 := Lib.hid hO5
      have HU5 := Lib.hid hU5
      have HUq := Lib.hid hUq
      clear hL5 hZ5 hP5 hO5 hU5 hUq
      go_wp2
      have hR := setLet_blk HZ5.out x.2 (.slice A1 n1 c1) (.slice A2 n2 c2)
      have hU6 := setLet_upd w5 w.heap.size x.2 (.slice A1 n1 c1) (.slice A2 n2 c2)
      refine bodyPost_ret (results_cell_tmp_row rfl _ _ w.heap.size _ _ _ _ rfl hR Try.underlying34 rfl info_letter) rfl ?_
      refine .inl ⟨j, x, _, _, Hx.out.1, Hx.out.2, rfl, ?_, ⟨.slice A4 n4 c4, ⟨blk_upd HP5.out hU6 (by omega), ?_, H.out.nF⟩, ?_⟩, ?_⟩
      · exact (((HL.out.ext HE2.out).ext HE4.out).upd HUq.out (fun k _ hk e => H.out.nF (e ▸ hk))).upd hU6 (fun k _ hk e => by have := hq k hk; omega)
      · exact HO5.out.upd hU6 (fun k _ hk e => by rcases hk with hk | hk; have := hq k hk; omega; have := (HO4.out.blk k hk).1; have h1 := HE2.out.sz; have h2 := HE.out.sz; omega)
      · rcases h : (Value.slice A4 n4 c4).ownBlock with _ | k
        · exact .inr (.inl h)
        · exact .inr (.inr ⟨k, h, by have := (HO4.out.blk k h).1; have h1 := HE2.out.sz; omega⟩)
      · exact (HU5.out.trans hU6 (S' := fun k => k = w.heap.size) (fun i hi e => by omega)).mono (fun _ _ h => .inl h)
  · have hZ := hZ
    go_wp2_with (fail)
    refine bodyPost_ret (results_cell_tmp_row rfl _ _ w.heap.size _ _ _ _ rfl hZ Try.underlying34 rfl info_letter) rfl ?_
    exact .inr ⟨hn, rfl, hE0⟩
end Go.Proofs.Ytmimncinnflfkaa
