/- Layer 13, the document's Pack: the error alone. -/
import Derived.Test.YtmimncinnflfkaaRefC
set_option linter.all false
namespace Go.Proofs.Ytmimncinnflfkaa
open Go.RowKit
set_option maxRecDepth 100000

theorem Letter.good_eq (l : Letter) : l.good = (wi l.kind 255 && l.seven.all (fun n => wi n maxN) && l.intents.all (fun x => wi x.version maxN)) := by
  simp only [Letter.good, Letter.seven, Letter.nums, List.all_cons, List.all_nil, Bool.and_true]
  ac_rfl
theorem Letter.bad_kind {l : Letter} (h : wi l.kind 255 = false) : l.good = false := by rw [Letter.good_eq, h]; rfl
theorem Letter.bad_num {l : Letter} {k : Nat} {n : Int} (hn : l.seven[k]? = some n) (h : wi n maxN = false) : l.good = false := by
  have : l.seven.all (fun n => wi n maxN) = false := List.all_eq_false.2 ⟨n, List.mem_of_getElem? hn, by simp [h]⟩
  rw [Letter.good_eq, this]; simp
theorem Letter.bad_ver {l : Letter} {k : Nat} {x : Intent} (hn : l.intents[k]? = some x) (h : wi x.version maxN = false) : l.good = false := by
  have : l.intents.all (fun x => wi x.version maxN) = false := List.all_eq_false.2 ⟨x, List.mem_of_getElem? hn, by simp [h]⟩
  rw [Letter.good_eq, this]; simp
theorem Letter.good_seven {l : Letter} (h : l.good = true) {k : Nat} {n : Int} (hn : l.seven[k]? = some n) : 0 ≤ n ∧ n ≤ 1099511627776 := by
  rw [Letter.good_eq] at h
  simp only [Bool.and_eq_true] at h
  exact wi_iff.1 (List.all_eq_true.1 h.1.2 n (List.mem_of_getElem? hn))
theorem numL_bit (b : Bool) : numL (bitI b) = 1 := by
  unfold numL
  rw [numB_small (by cases b <;> decide)]
  rfl
theorem Letter.size_eq (l : Letter) : l.size = numL l.kind + (l.seven.map numL).sum + 1 + (l.txts.map textL).sum + numL l.pairs.length + (l.pairs.map pairL).sum + numL l.intents.length + (l.intents.map intentL).sum := by
  have : (l.seven.map numL).sum = (l.nums.map numL).sum + numL l.code := by simp [Letter.seven, Letter.nums]; omega
  rw [this, Letter.size, numL_bit]
  omega
theorem sum_take_le {α : Type} (f : α → Nat) (xs : List α) (k : Nat) : ((xs.take k).map f).sum ≤ (xs.map f).sum := by
  conv => rhs; rw [← List.take_append_drop k xs, List.map_append, List.sum_append]
  omega
theorem mem_le_sum {α : Type} (f : α → Nat) {xs : List α} {x : α} (h : x ∈ xs) : f x ≤ (xs.map f).sum := by
  induction xs with
  | nil => simp at h
  | cons y r ih =>
    simp only [List.map_cons, List.sum_cons]
    rcases List.mem_cons.1 h with rfl | h
    · omega
    · have := ih h; omega
theorem textL_ge (s : ByteArray) : s.size ≤ textL s := by unfold textL; omega
theorem Letter.txt_le {l : Letter} {k : Nat} {s : ByteArray} (h : l.txts[k]? = some s) : s.size ≤ l.size := by
  have := mem_le_sum textL (List.mem_of_getElem? h)
  have := textL_ge s
  rw [Letter.size]; omega
theorem Letter.pair_le {l : Letter} {k : Nat} {p : Pair} (h : l.pairs[k]? = some p) : p.key.size ≤ l.size ∧ p.val.size ≤ l.size := by
  have := mem_le_sum pairL (List.mem_of_getElem? h)
  have := textL_ge p.key
  have := textL_ge p.val
  unfold pairL at *
  rw [Letter.size]
  exact ⟨by unfold pairL at *; omega, by unfold pairL at *; omega⟩
theorem Letter.intent_le {l : Letter} {k : Nat} {x : Intent} (h : l.intents[k]? = some x) : x.entry.size ≤ l.size := by
  have := mem_le_sum intentL (List.mem_of_getElem? h)
  have := textL_ge x.entry
  rw [Letter.size]
  unfold intentL at *; omega

theorem Sl.atIntB {w : World} {F : Nat → Prop} {q : IntKind} {xs : List Int} {g n c k : Nat} (h : Sl (tInt q) w F (.slice (some ⟨g, 0, none⟩) n c) xs) (hk : k < n) :
    ∃ x, xs[k]? = some x ∧ w.cell? ⟨g, k, none⟩ = some (.int q x) ∧ g < w.heap.size := by
  obtain ⟨b, o, x, hA, hb, hx, d1⟩ := h.atInt hk
  injection hA with hA
  injection hA with hA1 hA2
  subst hA1 hA2
  rw [Nat.zero_add] at d1
  exact ⟨x, hx, d1, World.block_lt_of_cell? _ _ d1⟩

theorem rnumber_at {n : Int} {b : Bool} (h : wi n maxN = b) (w : World) : Calls Try.prog 52 #[.int .i64 n] w fun e w' => e = .returned (.bool b) ∧ w = w' := by
  subst h; exact rnumber_calls n w
theorem sl_three_str {w : World} {g : Nat} {T : TypeId} {l : Letter} (hg : w.heap[g]? = some (.cells #[.string l.s, .string l.t, .string l.body] T (0, 0))) : ∀ k, k < 3 → ∃ s, w.cell? ⟨g, k, none⟩ = some (.string s) ∧ l.txts[k]? = some s := by
  intro k hk
  have h1 := blk_cell hg k
  rcases (show k = 0 ∨ k = 1 ∨ k = 2 by omega) with rfl | rfl | rfl
  · exact ⟨_, h1, rfl⟩
  · exact ⟨_, h1, rfl⟩
  · exact ⟨_, h1, rfl⟩

set_option maxHeartbeats 8000000 in
theorem rpack_calls {F : Nat → Prop} (l : Letter) {pv iv : Value} (w : World) (h : LetIn w F l pv iv) (hsz : ∀ s ∈ l.alls, s.size ≤ 1048576) (hp : l.pairs.length ≤ 300) (hi : l.intents.length ≤ 300) : Calls Try.prog 34 #[letV l pv iv] w (PackPost l w) := by
  obtain ⟨A1, c1, rfl, hc1, hn1⟩ := h.pairs.form
  obtain ⟨A2, c2, rfl, hc2, hn2⟩ := h.intents.form
  obtain ⟨n1, hl1⟩ : ∃ n1, n1 = l.pairs.length := ⟨_, rfl⟩
  obtain ⟨n2, hl2⟩ : ∃ n2, n2 = l.intents.length := ⟨_, rfl⟩
  rw [← hl1] at hc1 hn1 h hp ⊢
  rw [← hl2] at hc2 hn2 h hi ⊢
  have Hl1 := Lib.hid hl1
  have Hl2 := Lib.hid hl2
  clear hl1 hl2 hn1 hn2
  by_cases hk1 : l.kind < 0
  · go_enter Try.func34, Try.ntmps34
    go_wp2
    go_ret2
    exact ⟨_, ret2 rfl (vint (Letter.err_bad (Letter.bad_kind (by unfold wi; rw [decide_eq_false (by omega)]; rfl))).symm), (Ext.refl w).alloc _⟩
  by_cases hk2 : 255 < l.kind
  · go_enter Try.func34, Try.ntmps34
    go_wp2
    go_ret2
    exact ⟨_, ret2 rfl (vint (Letter.err_bad (Letter.bad_kind (by unfold wi; rw [decide_eq_false (p := l.kind ≤ 255) (by omega)]; simp))).symm), (Ext.refl w).alloc _⟩
  have hkg : Hid (wi l.kind 255 = true) := wi_iff.2 ⟨by omega, by omega⟩
  go_enter Try.func34, Try.ntmps34
  go_wp2_with (go_at_call 37; refine (rnumbers_calls l (.slice A1 n1 c1) (.slice A2 n2 c2) _ _ _ _ _ _ rfl rfl _).mono ?_; rintro e w1 ⟨gt, rfl, hgt, hT, he⟩)
  have hB : w1.heap[w.heap.size]? = some (.cells (letCs l (.slice A1 n1 c1) (.slice A2 n2 c2)) 34 (0, 0)) := blk_ext (blk_new rfl) he
  have hE : Ext w w1 := ((Ext.refl w).alloc _).trans he
  have hgt' : w.heap.size + 1 ≤ gt := by simpa using hgt
  clear he hgt
  go_loopw [5] (fun i wr => ∃ (k : Nat), k ≤ 7 ∧ i = .int .i64 k ∧ Ext w wr ∧ Hid (wr.heap[w.heap.size]? = some (.cells (letCs l (.slice A1 n1 c1) (.slice A2 n2 c2)) 34 (0, 0))) ∧ Sl (tInt .i64) wr (fun q => q = gt) (.slice (some ⟨gt, 0, none⟩) 7 7) l.seven ∧ Hid ((l.seven.take k).all (fun n => wi n maxN) = true)) (fun i _ => 7 - (intOf i).toNat)
  case atStart => exact ⟨0, by omega, rfl, hE, hB, hT, by simp [Hid]⟩
  case round =>
    clear hE hB hT
    obtain ⟨k, hk, rfl, hE, hB, hT, Hg⟩ := hrel
    by_cases hlt : k < 7
    · obtain ⟨x, hs, d1, _⟩ := hT.atIntB hlt
      have Hs := Lib.hid hs
      clear hs
      rcases hw : wi x maxN
      · have hc := rnumber_at hw
        have Hw := Lib.hid hw
        clear hw
        go_wp2_with (go_at_call 52; refine (hc _).mono ?_; rintro e w' ⟨rfl, rfl⟩)
        go_ret2
        exact ⟨_, ret2 rfl (vint (Letter.err_bad (Letter.bad_num Hs.out Hw.out)).symm), hE⟩
      · have hc := rnumber_at hw
        have Hw := Lib.hid hw
        clear hw
        go_wp2_with (go_at_call 52; refine (hc _).mono ?_; rintro e w' ⟨rfl, rfl⟩)
        go_roundw
        case rel => exact ⟨k + 1, by omega, by go_num, hE, hB, hT, by rw [Hid, all_take_succ _ Hs.out, Hg.out, Hw.out]; rfl⟩
        case measure => simp [intOf]; omega
    · have hk3 : k = 7 := by omega
      rw [hk3] at Hg
      clear hk3
      have cI := blk_cell hB.out 10
      simp only [letCs, List.getElem?_toArray, List.getElem?_cons_succ, List.getElem?_cons_zero] at cI
      go_wp2
      go_loopw [6] (fun i wr => ∃ (k : Nat), k ≤ n2 ∧ i = .int .i64 k ∧ Ext w wr ∧ Hid (wr.heap[w.heap.size]? = some (.cells (letCs l (.slice A1 n1 c1) (.slice A2 n2 c2)) 34 (0, 0))) ∧ Sl (tInt .i64) wr (fun q => q = gt) (.slice (some ⟨gt, 0, none⟩) 7 7) l.seven ∧ Hid ((l.intents.take k).all (fun x => wi x.version maxN) = true)) (fun i _ => n2 - (intOf i).toNat)
      case atStart => exact ⟨0, by omega, rfl, hE, hB, hT, by simp [Hid]⟩
      case round =>
        clear hE hB cI hT hk hlt
        obtain ⟨k, hk, rfl, hE, hB, hT, Hg2⟩ := hrel
        have hlet := h.ext hE
        have cI := blk_cell hB.out 10
        simp only [letCs, List.getElem?_toArray, List.getElem?_cons_succ, List.getElem?_cons_zero] at cI
        by_cases hlt : k < n2
        · obtain ⟨b, o, x, rfl, hb, hx, d1, d2, d3⟩ := hlet.intents.atIntent hlt
          have Hs := Lib.hid hx
          clear hx
          rcases hw : wi x.version maxN
          · have hc := rnumber_at hw
            have Hw := Lib.hid hw
            clear hw
            go_wp2_with (go_at_call 52; refine (hc _).mono ?_; rintro e w' ⟨rfl, rfl⟩)
            go_ret2
            exact ⟨_, ret2 rfl (vint (Letter.err_bad (Letter.bad_ver Hs.out Hw.out)).symm), hE⟩
          · have hc := rnumber_at hw
            have Hw := Lib.hid hw
            clear hw
            go_wp2_with (go_at_call 52; refine (hc _).mono ?_; rintro e w' ⟨rfl, rfl⟩)
            go_roundw
            case rel => exact ⟨k + 1, by omega, by go_num, hE, hB, hT, by rw [Hid, all_take_succ _ Hs.out, Hg2.out, Hw.out]; rfl⟩
            case measure => simp [intOf]; omega
        · have hkn : k = n2 := by omega
          have hfl : l.intents.take k = l.intents := by rw [hkn, Hl2.out]; exact List.take_length
          rw [hfl] at Hg2
          clear hkn hfl
          have Hgood : Hid (l.good = true) := by rw [Hid, Letter.good_eq, hkg.out, Hg2.out]; rw [show l.seven.all (fun n => wi n maxN) = true from Hg.out]; rfl
          clear Hg Hg2 hkg
          have cP := blk_cell hB.out 9
          simp only [letCs, List.getElem?_toArray, List.getElem?_cons_succ, List.getElem?_cons_zero] at cP
          by_cases h1 : 256 < n1
          · go_wp2
            go_ret2
            exact ⟨_, ret2 rfl (vint (Letter.err_large Hgood.out (.inl (by rw [← Hl1.out]; exact h1))).symm), hE⟩
          by_cases h2 : 256 < n2
          · go_wp2
            go_ret2
            exact ⟨_, ret2 rfl (vint (Letter.err_large Hgood.out (.inr (.inl (by rw [← Hl2.out]; exact h2)))).symm), hE⟩
          have hk := Letter.good_kind Hgood.out
          have f0 := (let_cells hB.out).1
          go_wp2_with fail
          (with_reducible refine (rnumI_calls l.kind hk.1 (by omega) _).mono ?_)
          rintro e w3 ⟨v, rfl, hO, he⟩
          have hltB := blk_lt hB.out
          have hltg : gt < wr.heap.size := by obtain ⟨_, _, _, h⟩ := hT.atIntB (k := 0) (by omega); exact h
          have hAv : Av v (fun k => k = w.heap.size ∨ k = gt) := hO.av (by rintro k (rfl | rfl) <;> omega)
          replace hO := hO.low (base' := w.heap.size + 1) (by omega)
          have hE4 := hE.trans he
          have hB4 := blk_ext hB.out he
          have hT4 := hT.ext he
          have hx : numL l.kind ≤ 9 := numL_le (by omega)
          have hxl : (numB l.kind.toNat).length = numL l.kind := rfl
          have Hxl := Lib.hid hxl
          clear hxl he hE hB hT hlet cI cP f0 hltB hltg
          go_wp2
          go_loopw [7, 8] (fun v i wr => ∃ (k : Nat) (xs : List Int), k ≤ 7 ∧ i = .int .i64 k ∧ Own (tInt .u8) 5 wr (fun _ => False) (w.heap.size + 1) v xs ∧ Av v (fun k => k = w.heap.size ∨ k = gt) ∧ Ext w wr ∧ Hid (wr.heap[w.heap.size]? = some (.cells (letCs l (.slice A1 n1 c1) (.slice A2 n2 c2)) 34 (0, 0))) ∧ Sl (tInt .i64) wr (fun q => q = gt) (.slice (some ⟨gt, 0, none⟩) 7 7) l.seven ∧ xs.length ≤ 10 + 10 * k ∧ Hid (xs.length = numL l.kind + ((l.seven.take k).map numL).sum)) (fun _ i _ => 7 - (intOf i).toNat)
          case atStart => exact ⟨0, _, by omega, rfl, hO, hAv, hE4, hB4, hT4, by rw [Hxl.out]; omega, by simpa [Hid] using Hxl.out⟩
          case round =>
            clear hO hAv hE4 hB4 hT4 Hxl hx
            obtain ⟨k, xs, hk, rfl, hO, hAv, hE, hB, hT, hxl, Hxl⟩ := hrel
            have hltB := blk_lt hB.out
            by_cases hlt : k < 7
            · obtain ⟨n, hs, d1, hltg⟩ := hT.atIntB hlt
              have hn := Letter.good_seven Hgood.out hs
              have hn9 : numL n ≤ 9 := numL_le (by omega)
              have Hs := Lib.hid hs
              clear hs
              go_wp2_with (first
                | (go_at_call 53; (with_reducible refine (rnumI_calls n hn.1 (by omega) _).mono ?_); rintro e w5 ⟨v5, rfl, hO5, he5⟩)
                | (at_builtin; refine app_u8s (w.heap.size + 1) rfl _ _ rfl (hO.ext he5) hO5.sl rfl rfl (by have := he5.sz; omega) (by change xs.length + numL n ≤ _; omega) ?_; intro v6 w6 hO6 hg hat))
              go_roundw
              case rel => exact ⟨k + 1, _, by omega, by go_num, hO6, hAv.next hat (by have := he5.sz; rintro k (rfl | rfl) <;> omega), (hE.trans he5).grown hg (fun q hq => by have := own_ge hO q hq; omega), blk_grown (blk_ext hB.out he5) hg (hAv.ne (.inl rfl)), (hT.ext he5).upd (Upd.of_grown hg) (by rintro q _ rfl hq; exact hAv.ne (.inr rfl) hq.symm), by rw [List.length_append]; change xs.length + numL n ≤ _; omega, by rw [Hid, List.length_append, sum_take_succ _ Hs.out, Hxl.out]; exact Nat.add_assoc _ _ _⟩
              case measure => simp [intOf]; omega
            · have hk3 : k = 7 := by omega
              rw [hk3] at Hxl
              have hxl : xs.length ≤ 80 := by omega
              clear hk3 hT
              have f12 := (let_cells hB.out).2.2.2.2.2.2.2.2.2.2.2.2.1
              go_wp2_with (first
                | (go_at_call 54; (with_reducible refine (rflag_calls l.yes _).mono ?_); rintro e w5 ⟨v5, rfl, hO5, he5⟩)
                | (at_builtin; refine app_u8s (w.heap.size + 1) rfl _ _ rfl (hO.ext he5) hO5.sl rfl rfl (by have := he5.sz; omega) (by simp only [List.length_cons, List.length_nil]; omega) ?_; intro v6 w6 hO6 hg hat; obtain ⟨_, _, _, _, _, _, _, q7, q8, _, _, _, _, q13⟩ := let_cells (blk_grown (blk_ext hB.out he5) hg (hAv.ne (.inl rfl)))))
              have hszA := he5.sz
              have hE7 := ((hE.trans he5).grown hg (fun q hq => by have := own_ge hO q hq; omega))
              have hB7 := blk_grown (blk_ext hB.out he5) hg (hAv.ne (.inl rfl))
              have hAv7 : Av v6 (fun k => k = w.heap.size ∨ k = w6.heap.size) := by
                have h7 : Av v6 (fun k => k = w.heap.size) := (hAv.mono (fun k hk => .inl hk)).next hat (by rintro k rfl; omega)
                rintro q hq (rfl | rfl)
                · exact h7 _ hq rfl
                · have := (hO6.blk _ hq).2; omega
              have hl7 : (xs ++ [bitI l.yes]).length = xs.length + 1 := by simp
              obtain ⟨ys, hys⟩ : ∃ ys, ys = xs ++ [bitI l.yes] := ⟨_, rfl⟩
              rw [← hys] at hl7 hO6
              have hle7 : ys.length ≤ 90 := by omega
              have Hl7 : Hid (ys.length = numL l.kind + (l.seven.map numL).sum + 1) := by rw [Hid, hl7, Hxl.out]; rfl
              obtain ⟨g3, hg3⟩ : ∃ g3, g3 = w6.heap.size := ⟨_, rfl⟩
              have hT8 : (w6.alloc (.cells #[.string l.s, .string l.t, .string l.body] 9)).heap[g3]? = some (.cells #[.string l.s, .string l.t, .string l.body] 9 (0, 0)) := blk_new hg3
              have hO8 := hO6.ext ((Ext.refl w6).alloc (.cells #[.string l.s, .string l.t, .string l.body] 9))
              have hE8 := hE7.alloc (.cells #[.string l.s, .string l.t, .string l.body] 9)
              have hB8 := blk_old (o' := .cells #[.string l.s, .string l.t, .string l.body] 9) hB7
              rw [← hg3] at hAv7
              rw [show w6.heap.size = g3 from hg3.symm]
              clear hl7 hys hat hg hO hAv hE hB hxl Hxl he5 hO5 f12 q7 q8 q13 hltB hO6 hE7 hB7 hszA hg3
              go_loopw [7, 10] (fun v i wr => ∃ (k : Nat) (xs : List Int), k ≤ 3 ∧ i = .int .i64 k ∧ Own (tInt .u8) 5 wr (fun _ => False) (w.heap.size + 1) v xs ∧ Av v (fun k => k = w.heap.size ∨ k = g3) ∧ Ext w wr ∧ Hid (wr.heap[w.heap.size]? = some (.cells (letCs l (.slice A1 n1 c1) (.slice A2 n2 c2)) 34 (0, 0))) ∧ Hid (wr.heap[g3]? = some (.cells #[.string l.s, .string l.t, .string l.body] 9 (0, 0))) ∧ xs.length ≤ 90 + 1048596 * k ∧ Hid (xs.length = numL l.kind + (l.seven.map numL).sum + 1 + ((l.txts.take k).map textL).sum)) (fun _ i _ => 3 - (intOf i).toNat)
              case atStart => exact ⟨0, ys, by omega, rfl, hO8, hAv7, hE8, hB8, hT8, by omega, by simpa [Hid] using Hl7.out⟩
              case round =>
                clear hO8 hAv7 hE8 hB8 hT8 Hl7 hle7
                clear ys
                obtain ⟨k, xs, hk, rfl, hO, hAv, hE, hB, hT, hxl, Hxl⟩ := hrel
                have hltB := blk_lt hB.out
                have hltg := blk_lt hT.out
                by_cases hlt : k < 3
                · obtain ⟨s, d1, hs⟩ := sl_three_str hT.out k hlt
                  have hsz1 := hsz s (Letter.mem_txts hs)
                  have hle := Letter.txt_le hs
                  have Hs := Lib.hid hs
                  have ht := textL_le hsz1
                  clear hs
                  by_cases hbig : 65536 < s.size
                  · have Hle := Lib.hid (Nat.lt_of_lt_of_le hbig hle)
                    clear hle
                    go_wp2
                    go_ret2
                    exact ⟨_, ret2 rfl (vint (Letter.err_large Hgood.out (.inr (.inr Hle.out))).symm), hE⟩
                  · clear hle
                    go_wp2_with (first
                      | (go_at_call 55; (with_reducible refine (rtext_calls s (by omega) _).mono ?_); rintro e w5 ⟨v5, rfl, hO5, he5⟩)
                      | (at_builtin; refine app_u8s (w.heap.size + 1) rfl _ _ rfl (hO.ext he5) hO5.sl rfl rfl (by have := he5.sz; omega) (by rw [textB_len]; omega) ?_; intro v6 w6 hO6 hg hat))
                    go_roundw
                    case rel => exact ⟨k + 1, _, by omega, by go_num, hO6, hAv.next hat (by have := he5.sz; rintro k (rfl | rfl) <;> omega), (hE.trans he5).grown hg (fun q hq => by have := own_ge hO q hq; omega), blk_grown (blk_ext hB.out he5) hg (hAv.ne (.inl rfl)), blk_grown (blk_ext hT.out he5) hg (hAv.ne (.inr rfl)), by rw [List.length_append, textB_len]; omega, by rw [Hid, List.length_append, sum_take_succ _ Hs.out, Hxl.out, textB_len]; exact Nat.add_assoc _ _ _⟩
                    case measure => simp [intOf]; omega
                · have hk3 : k = 3 := by omega
                  rw [hk3] at Hxl
                  clear hT
                  have hxl : xs.length ≤ 3145900 := by omega
                  clear hk3
                  have cP := (let_cells hB.out).2.2.2.2.2.2.2.2.2.1
                  have hpn : numL n1 ≤ 9 := numL_le (by omega)
                  go_wp2_with (first
                    | (go_at_call 53; (with_reducible refine (rnumN_calls n1 (by omega) _).mono ?_); rintro e w5 ⟨v5, rfl, hO5, he5⟩)
                    | (at_builtin; refine app_u8s (w.heap.size + 1) rfl _ _ rfl (hO.ext he5) hO5.sl rfl rfl (by have := he5.sz; omega) (by change xs.length + numL n1 ≤ _; omega) ?_; intro v6 w6 hO6 hg hat; have cP6 := (let_cells (blk_grown (blk_ext hB.out he5) hg (hAv.ne (.inl rfl)))).2.2.2.2.2.2.2.2.2.1))
                  have hE7 := (hE.trans he5).grown hg (fun q hq => by have := own_ge hO q hq; omega)
                  have hB7 := blk_grown (blk_ext hB.out he5) hg (hAv.ne (.inl rfl))
                  have hAv7 : Av v6 (fun k => k = w.heap.size) := (hAv.mono (fun k hk => .inl hk)).next hat (by have := he5.sz; rintro k rfl; omega)
                  have hl7 : (xs ++ numB n1).length = xs.length + numL n1 := by rw [List.length_append]; rfl
                  obtain ⟨ys, hys⟩ : ∃ ys, ys = xs ++ numB n1 := ⟨_, rfl⟩
                  rw [← hys] at hl7 hO6
                  have hle7 : ys.length ≤ 3145910 := by omega
                  have Hl7 : Hid (ys.length = numL l.kind + (l.seven.map numL).sum + 1 + (l.txts.map textL).sum + numL n1) := by rw [Hid, hl7, Hxl.out]; rfl
                  clear hl7 hys hat hg hO hAv hE hB hxl Hxl he5 hO5 cP cP6 hltB hltg hpn
                  go_loopw [7, 11] (fun v i wr => ∃ (k : Nat) (xs : List Int), k ≤ n1 ∧ i = .int .i64 k ∧ Own (tInt .u8) 5 wr (fun _ => False) (w.heap.size + 1) v xs ∧ Av v (fun k => k = w.heap.size) ∧ Ext w wr ∧ Hid (wr.heap[w.heap.size]? = some (.cells (letCs l (.slice A1 n1 c1) (.slice A2 n2 c2)) 34 (0, 0))) ∧ xs.length ≤ 3145910 + 2097190 * k ∧ Hid (xs.length = numL l.kind + (l.seven.map numL).sum + 1 + (l.txts.map textL).sum + numL n1 + ((l.pairs.take k).map pairL).sum)) (fun _ i _ => n1 - (intOf i).toNat)
                  case atStart => exact ⟨0, ys, by omega, rfl, hO6, hAv7, hE7, hB7, by omega, by simpa [Hid] using Hl7.out⟩
                  case round =>
                    clear hO6 hAv7 hE7 hB7 Hl7 hle7
                    clear ys
                    obtain ⟨k, xs, hk, rfl, hO, hAv, hE, hB, hxl, Hxl⟩ := hrel
                    have hltB := blk_lt hB.out
                    have hlet := h.ext hE
                    have cP := (let_cells hB.out).2.2.2.2.2.2.2.2.2.1
                    have cI := (let_cells hB.out).2.2.2.2.2.2.2.2.2.2.1
                    obtain ⟨Aq, cq, rfl, hcq1, hcq2⟩ := hO.form
                    have hpart : xs.length ≤ l.size := by have := sum_take_le pairL l.pairs k; rw [Hxl.out, Letter.size_eq, ← Hl1.out]; omega
                    have Hpart := Lib.hid hpart
                    clear hpart
                    obtain ⟨m, hm⟩ : ∃ m, m = xs.length := ⟨_, rfl⟩
                    rw [← hm] at hcq1 hcq2 hxl hO hAv ⊢
                    have Hm := Lib.hid hm
                    clear hm
                    by_cases hlt : k < n1
                    · obtain ⟨b, o, x, rfl, hb, hx, d1w, d2w⟩ := h.pairs.atPair hlt
                      have d1 := hE.cell d1w
                      have d2 := hE.cell d2w
                      have hmm := Letter.mem_pair hx
                      have hm1 := hsz _ hmm.1
                      have hm2 := hsz _ hmm.2
                      have ht1 := textL_le hm1
                      have ht2 := textL_le hm2
                      have Hp := Lib.hid (Letter.pair_le hx)
                      have Hs := Lib.hid hx
                      clear hx hmm
                      by_cases hb0 : 65536 < m
                      · go_wp2
                        go_ret2
                        exact ⟨_, ret2 rfl (vint (Letter.err_large Hgood.out (.inr (.inr (Nat.lt_of_lt_of_le (by rw [← Hm.out]; exact hb0) Hpart.out)))).symm), hE⟩
                      by_cases hb1 : 65536 < x.key.size
                      · go_wp2
                        go_ret2
                        exact ⟨_, ret2 rfl (vint (Letter.err_large Hgood.out (.inr (.inr (Nat.lt_of_lt_of_le hb1 Hp.out.1)))).symm), hE⟩
                      by_cases hb2 : 65536 < x.val.size
                      · go_wp2
                        go_ret2
                        exact ⟨_, ret2 rfl (vint (Letter.err_large Hgood.out (.inr (.inr (Nat.lt_of_lt_of_le hb2 Hp.out.2)))).symm), hE⟩
                      go_wp2_with (first
                        | (go_at_call 55; (with_reducible refine (rtext_calls x.key (by omega) _).mono ?_); rintro e w5 ⟨v5, rfl, hO5, he5⟩)
                        | (go_at_call 55; (with_reducible refine (rtext_calls x.val (by omega) _).mono ?_); rintro e w7 ⟨v7, rfl, hO7, he7⟩)
                        | (at_builtin; refine app_u8s (w.heap.size + 1) rfl _ _ rfl (hO6.ext he7) hO7.sl rfl rfl (by have := he5.sz; have := he7.sz; have := hg.size; omega) (by rw [List.length_append, textB_len, textB_len, ← Hm.out]; omega) ?_; intro v8 w8 hO8 hg8 hat8)
                        | (at_builtin; refine app_u8s (w.heap.size + 1) rfl _ _ rfl (hO.ext he5) hO5.sl rfl rfl (by have := he5.sz; omega) (by rw [textB_len, ← Hm.out]; omega) ?_; intro v6 w6 hO6 hg hat; have hE6 := (hE.trans he5).grown hg (fun q hq => by have := own_ge hO q hq; omega); have d26 := hE6.cell d2w; have hB6 := blk_grown (blk_ext hB.out he5) hg (hAv.ne rfl); have cP6 := (let_cells hB6).2.2.2.2.2.2.2.2.2.1))
                      have hsz5 := he5.sz
                      have hAv6 := hAv.next hat (by rintro k rfl; omega)
                      have hsz7 := he7.sz
                      have hsz6 := blk_lt hB6
                      have hpl : pairL x ≤ 2097190 := by unfold pairL; omega
                      have hll : (xs ++ textB x.key ++ textB x.val).length = xs.length + pairL x := by rw [List.length_append, List.length_append, textB_len, textB_len]; exact Nat.add_assoc _ _ _
                      go_roundw
                      case rel => exact ⟨k + 1, _, by omega, by go_num, hO8, hAv6.next hat8 (by rintro k rfl; omega), (hE6.trans he7).grown hg8 (fun q hq => by have := own_ge hO6 q hq; omega), blk_grown (blk_ext hB6 he7) hg8 (hAv6.ne rfl), by rw [hll, ← Hm.out]; omega, by rw [Hid, hll, sum_take_succ _ Hs.out, Hxl.out]; exact Nat.add_assoc _ _ _⟩
                      case measure => simp [intOf]; omega
                    · have hkn : k = n1 := by omega
                      have hfl : l.pairs.take k = l.pairs := by rw [hkn, Hl1.out]; exact List.take_length
                      rw [hfl] at Hxl
                      have hxl : m ≤ 632302910 := by omega
                      clear hkn hfl Hpart
                      have hpn : numL n2 ≤ 9 := numL_le (by omega)
                      go_wp2_with (first
                        | (go_at_call 53; (with_reducible refine (rnumN_calls n2 (by omega) _).mono ?_); rintro e w5 ⟨v5, rfl, hO5, he5⟩)
                        | (at_builtin; refine app_u8s (w.heap.size + 1) rfl _ _ rfl (hO.ext he5) hO5.sl rfl rfl (by have := he5.sz; omega) (by rw [← Hm.out]; change m + numL n2 ≤ _; omega) ?_; intro v6 w6 hO6 hg hat; have cI6 := (let_cells (blk_grown (blk_ext hB.out he5) hg (hAv.ne rfl))).2.2.2.2.2.2.2.2.2.2.1))
                      have hE7 := (hE.trans he5).grown hg (fun q hq => by have := own_ge hO q hq; omega)
                      have hl7 : (xs ++ numB n2).length = xs.length + numL n2 := by rw [List.length_append]; rfl
                      obtain ⟨ys, hys⟩ : ∃ ys, ys = xs ++ numB n2 := ⟨_, rfl⟩
                      rw [← hys] at hl7 hO6
                      have hle7 : ys.length ≤ 632302920 := by rw [hl7, ← Hm.out]; omega
                      have Hl7 : Hid (ys.length = numL l.kind + (l.seven.map numL).sum + 1 + (l.txts.map textL).sum + numL n1 + (l.pairs.map pairL).sum + numL n2) := by rw [Hid, hl7, Hxl.out]
                      have hB7 := blk_grown (blk_ext hB.out he5) hg (hAv.ne rfl)
                      have hAv7 : Av v6 (fun k => k = w.heap.size) := hAv.next hat (by have := he5.sz; rintro k rfl; omega)
                      clear hl7 hys hat hg hO hAv hE hB Hxl he5 hO5 cP cI cI6 hltB hpn hlet
                      go_loopw [7, 12] (fun v i wr => ∃ (k : Nat) (xs : List Int), k ≤ n2 ∧ i = .int .i64 k ∧ Own (tInt .u8) 5 wr (fun _ => False) (w.heap.size + 1) v xs ∧ Av v (fun k => k = w.heap.size) ∧ Ext w wr ∧ Hid (wr.heap[w.heap.size]? = some (.cells (letCs l (.slice A1 n1 c1) (.slice A2 n2 c2)) 34 (0, 0))) ∧ xs.length ≤ 632302920 + 2097190 * k ∧ Hid (xs.length = numL l.kind + (l.seven.map numL).sum + 1 + (l.txts.map textL).sum + numL n1 + (l.pairs.map pairL).sum + numL n2 + ((l.intents.take k).map intentL).sum)) (fun _ i _ => n2 - (intOf i).toNat)
                      case atStart => exact ⟨0, ys, by omega, rfl, hO6, hAv7, hE7, hB7, by omega, by simpa [Hid] using Hl7.out⟩
                      case round =>
                        clear hO6 hE7 hB7 hAv7 Hl7 hle7
                        clear ys
                        obtain ⟨k, xs, hk, rfl, hO, hAv, hE, hB, hxl, Hxl⟩ := hrel
                        have hltB := blk_lt hB.out
                        have hlet := h.ext hE
                        have cI := (let_cells hB.out).2.2.2.2.2.2.2.2.2.2.1
                        obtain ⟨Aq, cq, rfl, hcq1, hcq2⟩ := hO.form
                        have hpart : xs.length ≤ l.size := by have := sum_take_le intentL l.intents k; rw [Hxl.out, Letter.size_eq, ← Hl1.out, ← Hl2.out]; omega
                        have Hpart := Lib.hid hpart
                        clear hpart
                        obtain ⟨m, hm⟩ : ∃ m, m = xs.length := ⟨_, rfl⟩
                        rw [← hm] at hcq1 hcq2 hxl hO hAv ⊢
                        have Hm := Lib.hid hm
                        clear hm
                        by_cases hlt : k < n2
                        · obtain ⟨b, o, x, rfl, hb, hx, d1w, d2w, d3w⟩ := h.intents.atIntent hlt
                          have d1 := hE.cell d1w
                          have hm1 := hsz _ (Letter.mem_intent hx)
                          have hv := Letter.good_ver Hgood.out hx
                          have ht1 := textL_le hm1
                          have hv9 : numL x.version ≤ 9 := numL_le (by omega)
                          have Hp := Lib.hid (Letter.intent_le hx)
                          have Hs := Lib.hid hx
                          clear hx
                          by_cases hb0 : 65536 < m
                          · go_wp2
                            go_ret2
                            exact ⟨_, ret2 rfl (vint (Letter.err_large Hgood.out (.inr (.inr (Nat.lt_of_lt_of_le (by rw [← Hm.out]; exact hb0) Hpart.out)))).symm), hE⟩
                          by_cases hb1 : 65536 < x.entry.size
                          · go_wp2
                            go_ret2
                            exact ⟨_, ret2 rfl (vint (Letter.err_large Hgood.out (.inr (.inr (Nat.lt_of_lt_of_le hb1 Hp.out)))).symm), hE⟩
                          go_wp2_with (first
                            | (go_at_call 55; (with_reducible refine (rtext_calls x.entry (by omega) _).mono ?_); rintro e w5 ⟨v5, rfl, hO5, he5⟩)
                            | (go_at_call 53; (with_reducible refine (rnumI_calls x.version hv.1 (by omega) _).mono ?_); rintro e w7 ⟨v7, rfl, hO7, he7⟩)
                            | (go_at_call 54; (with_reducible refine (rflag_calls x.gone _).mono ?_); rintro e w9 ⟨v9, rfl, hO9, he9⟩)
                            | (at_builtin; refine app_u8s (w.heap.size + 1) rfl _ _ rfl (hO8.ext he9) hO9.sl rfl rfl (by have := he5.sz; have := he7.sz; have := he9.sz; have := hg.size; have := hg8.size; omega) (by rw [List.length_append, List.length_append, textB_len, ← Hm.out]; change m + textL x.entry + numL x.version + 1 ≤ _; omega) ?_; intro v10 w10 hO10 hg10 hat10)
                            | (at_builtin; refine app_u8s (w.heap.size + 1) rfl _ _ rfl (hO6.ext he7) hO7.sl rfl rfl (by have := he5.sz; have := he7.sz; have := hg.size; omega) (by rw [List.length_append, textB_len, ← Hm.out]; change m + textL x.entry + numL x.version ≤ _; omega) ?_; intro v8 w8 hO8 hg8 hat8; have hAv6 := hAv.next hat (by have := he5.sz; rintro k rfl; omega); have hE8 := (hE6.trans he7).grown hg8 (fun q hq => by have := own_ge hO6 q hq; omega); have d38 := hE8.cell d3w; have hB8 := blk_grown (blk_ext hB6 he7) hg8 (hAv6.ne rfl); have cI8 := (let_cells hB8).2.2.2.2.2.2.2.2.2.2.1)
                            | (at_builtin; refine app_u8s (w.heap.size + 1) rfl _ _ rfl (hO.ext he5) hO5.sl rfl rfl (by have := he5.sz; omega) (by rw [textB_len, ← Hm.out]; omega) ?_; intro v6 w6 hO6 hg hat; have hE6 := (hE.trans he5).grown hg (fun q hq => by have := own_ge hO q hq; omega); have d26 := hE6.cell d2w; have hB6 := blk_grown (blk_ext hB.out he5) hg (hAv.ne rfl); have cI6 := (let_cells hB6).2.2.2.2.2.2.2.2.2.2.1))
                          have hsz9 := he9.sz
                          have hsz7 := he7.sz
                          have hsz6 := blk_lt hB6
                          have hsz8 := blk_lt hB8
                          have hAv8 := hAv6.next hat8 (by rintro k rfl; omega)
                          have hpl : intentL x ≤ 2097190 := by unfold intentL; rw [numL_bit]; omega
                          have hll : (xs ++ textB x.entry ++ numB x.version.toNat ++ [bitI x.gone]).length = xs.length + intentL x := by rw [List.length_append, List.length_append, List.length_append, textB_len]; unfold intentL; rw [numL_bit]; unfold numL; simp only [List.length_cons, List.length_nil]; omega
                          go_roundw
                          case rel => exact ⟨k + 1, _, by omega, by go_num, hO10, hAv8.next hat10 (by rintro k rfl; omega), (hE8.trans he9).grown hg10 (fun q hq => by have := own_ge hO8 q hq; omega), blk_grown (blk_ext hB8 he9) hg10 (hAv8.ne rfl), by rw [hll, ← Hm.out]; omega, by rw [Hid, hll, sum_take_succ _ Hs.out, Hxl.out]; exact Nat.add_assoc _ _ _⟩
                          case measure => simp [intOf]; omega
                        · have hkn : k = n2 := by omega
                          have hfl : l.intents.take k = l.intents := by rw [hkn, Hl2.out]; exact List.take_length
                          rw [hfl] at Hxl
                          have Hsize : Hid (m = l.size) := by rw [Hid, Hm.out, Hxl.out, Letter.size_eq, Hl1.out, Hl2.out]
                          clear hkn hfl Hxl Hpart
                          have hconv := conv_str 99 9 5 Try.underlying99 Try.underlying5 Try.underlying9 hO.sl
                          by_cases hbig : 65536 < m
                          · go_wp2
                            go_ret2
                            exact ⟨_, ret2 rfl (vint (Letter.err_large Hgood.out (.inr (.inr (by rw [← Hsize.out]; exact hbig)))).symm), hE⟩
                          · go_wp2
                            go_ret2
                            exact ⟨_, ret2 rfl (vint (Letter.err_ok Hgood.out (by rw [← Hsize.out, ← Hl1.out, ← Hl2.out]; omega)).symm), hE⟩
end Go.Proofs.Ytmimncinnflfkaa
