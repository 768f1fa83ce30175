/- Layer 13 (letter): what Pack, Check come to: the error alone. -/
import Derived.Test.YtmimncinnflfkaaLetter
import Derived.Deep.RegionHeld3
import Derived.Deep.DeepCutAuto
import Derived.Deep.CutBlock
set_option linter.all false
namespace Go.Proofs.Ytmimncinnflfkaa
open Go.RowKit
set_option maxRecDepth 100000

/-- Is n from 0 to m? -/
def wi (n m : Int) : Bool := decide (0 ≤ n) && decide (n ≤ m)
theorem wi_iff {n m : Int} : wi n m = true ↔ 0 ≤ n ∧ n ≤ m := by simp [wi]
theorem wi_calls (n m : Int) (w : World) : Calls Try.prog 67 #[.int .i64 n, .int .i64 m] w fun e w' => e = .returned (.bool (wi n m)) ∧ w = w' := within_calls n m w
def bitI (b : Bool) : Int := if b then 1 else 0
theorem bitI_bd (b : Bool) : 0 ≤ bitI b ∧ bitI b ≤ 1 := by cases b <;> decide
theorem bitI_calls (b : Bool) (w : World) : Calls Try.prog 70 #[.bool b] w fun e w' => e = .returned (.int .i64 (bitI b)) ∧ w = w' := bit_calls b w

def maxN : Int := 1099511627776
def Letter.nums (l : Letter) : List Int := [l.src, l.dst, l.a, l.b, l.c, l.d]
/-- May all its numbers be? -/
def Letter.good (l : Letter) : Bool := (wi l.kind 255 && wi l.code maxN) && l.nums.all (fun n => wi n maxN) && l.intents.all (fun x => wi x.version maxN)
def numL (n : Int) : Nat := (numB n.toNat).length
def textL (s : ByteArray) : Nat := numL s.size + s.size
def pairL (p : Pair) : Nat := textL p.key + textL p.val
def intentL (x : Intent) : Nat := textL x.entry + numL x.version + numL (bitI x.gone)
/-- How many bytes it has. -/
def Letter.size (l : Letter) : Nat := numL l.kind + (l.nums.map numL).sum + (numL l.code + numL (bitI l.yes)) + (l.txts.map textL).sum + numL l.pairs.length + (l.pairs.map pairL).sum + numL l.intents.length + (l.intents.map intentL).sum
/-- What is wrong with it. -/
def Letter.err (l : Letter) : Int := if l.good = false then 1 else if 256 < l.pairs.length ∨ 256 < l.intents.length ∨ 65536 < l.size then 4 else 0

theorem Letter.err_bad {l : Letter} (h : l.good = false) : l.err = 1 := by rw [Letter.err, if_pos h]
theorem Letter.err_large {l : Letter} (h : l.good = true) (h' : 256 < l.pairs.length ∨ 256 < l.intents.length ∨ 65536 < l.size) : l.err = 4 := by rw [Letter.err, if_neg (by simp [h]), if_pos h']
theorem Letter.err_ok {l : Letter} (h : l.good = true) (h' : ¬ (256 < l.pairs.length ∨ 256 < l.intents.length ∨ 65536 < l.size)) : l.err = 0 := by rw [Letter.err, if_neg (by simp [h]), if_neg h']

theorem numL_le {n : Int} (h : n ≤ 9223372036854775807) : numL n ≤ 9 := numB_le9 (by omega)
theorem addB_le' (n : Nat) (s : ByteArray) : addB n s ≤ n + textL s := by unfold addB textL; split <;> omega
theorem foldl_addB_le (l : List ByteArray) : ∀ n, l.foldl addB n ≤ n + (l.map textL).sum := by
  induction l with
  | nil => intro n; simp
  | cons s r ih =>
    intro n
    have := ih (addB n s)
    have := addB_le' n s
    simp only [List.foldl_cons, List.map_cons, List.sum_cons]
    omega
theorem Letter.bulk_le (l : Letter) : l.bulk ≤ l.size := by
  have h := foldl_addB_le l.alls 0
  have e : (l.alls.map textL).sum = (l.txts.map textL).sum + (l.pairs.map pairL).sum + (l.intents.map (fun x => textL x.entry)).sum := by
    unfold Letter.alls
    simp only [List.map_append, List.sum_append, List.map_map]
    congr 2
    induction l.pairs with
    | nil => rfl
    | cons p r ih => simp only [List.flatMap_cons, List.map_append, List.sum_append, List.map_cons, List.sum_cons, List.map_nil, List.sum_nil, ih, pairL]; omega
  have e2 : (l.intents.map (fun x => textL x.entry)).sum ≤ (l.intents.map intentL).sum := by
    induction l.intents with
    | nil => simp
    | cons x r ih => simp only [List.map_cons, List.sum_cons, intentL]; omega
  unfold Letter.bulk Letter.size
  omega
theorem Letter.good_kind {l : Letter} (h : l.good = true) : 0 ≤ l.kind ∧ l.kind ≤ 255 := by
  simp only [Letter.good, Bool.and_eq_true] at h
  exact wi_iff.1 h.1.1.1
theorem Letter.good_code {l : Letter} (h : l.good = true) : 0 ≤ l.code ∧ l.code ≤ 1099511627776 := by
  simp only [Letter.good, Bool.and_eq_true] at h
  exact wi_iff.1 h.1.1.2
theorem Letter.good_num {l : Letter} (h : l.good = true) {k : Nat} {n : Int} (hn : l.nums[k]? = some n) : 0 ≤ n ∧ n ≤ 1099511627776 := by
  simp only [Letter.good, Bool.and_eq_true] at h
  exact wi_iff.1 (List.all_eq_true.1 h.1.2 n (List.mem_of_getElem? hn))
theorem Letter.good_ver {l : Letter} (h : l.good = true) {k : Nat} {x : Intent} (hn : l.intents[k]? = some x) : 0 ≤ x.version ∧ x.version ≤ 1099511627776 := by
  simp only [Letter.good, Bool.and_eq_true] at h
  exact wi_iff.1 (List.all_eq_true.1 h.2 x (List.mem_of_getElem? hn))
theorem let_cells {w : World} {b : Nat} {l : Letter} {pv iv : Value} {T : TypeId} (hB : w.heap[b]? = some (.cells (letCs l pv iv) T (0, 0))) :
    w.cell? ⟨b, 0, none⟩ = some (.int .i64 l.kind) ∧ w.cell? ⟨b, 1, none⟩ = some (.int .i64 l.src) ∧ w.cell? ⟨b, 2, none⟩ = some (.int .i64 l.dst) ∧ w.cell? ⟨b, 3, none⟩ = some (.int .i64 l.a) ∧ w.cell? ⟨b, 4, none⟩ = some (.int .i64 l.b) ∧ w.cell? ⟨b, 5, none⟩ = some (.int .i64 l.c) ∧ w.cell? ⟨b, 6, none⟩ = some (.int .i64 l.d) ∧
    w.cell? ⟨b, 7, none⟩ = some (.string l.s) ∧ w.cell? ⟨b, 8, none⟩ = some (.string l.t) ∧ w.cell? ⟨b, 9, none⟩ = some pv ∧ w.cell? ⟨b, 10, none⟩ = some iv ∧ w.cell? ⟨b, 11, none⟩ = some (.int .i64 l.code) ∧ w.cell? ⟨b, 12, none⟩ = some (.bool l.yes) ∧ w.cell? ⟨b, 13, none⟩ = some (.string l.body) :=
  ⟨blk_cell hB 0, blk_cell hB 1, blk_cell hB 2, blk_cell hB 3, blk_cell hB 4, blk_cell hB 5, blk_cell hB 6, blk_cell hB 7, blk_cell hB 8, blk_cell hB 9, blk_cell hB 10, blk_cell hB 11, blk_cell hB 12, blk_cell hB 13⟩
theorem sum_take_succ {α : Type} (f : α → Nat) {xs : List α} {k : Nat} {x : α} (h : xs[k]? = some x) : ((xs.take (k + 1)).map f).sum = ((xs.take k).map f).sum + f x := by
  rw [List.take_add_one, h]
  simp

theorem keep2 {W W' : World} {p q : Addr} {u v : Value} (he : Ext W W') (h : W.cell? p = some u ∧ W.cell? q = some v) : W'.cell? p = some u ∧ W'.cell? q = some v := ⟨he.cell h.1, he.cell h.2⟩
theorem keep2g {W W' : World} {p q : Addr} {u v : Value} {row : Option Nat} (hg : W.grownBy W' row) (hp : some p.block ≠ row) (hq : some q.block ≠ row) (h : W.cell? p = some u ∧ W.cell? q = some v) : W'.cell? p = some u ∧ W'.cell? q = some v := ⟨hg.cell h.1 hp, hg.cell h.2 hq⟩

theorem textB_len (s : ByteArray) : (textB s).length = textL s := by unfold textB; rw [List.length_append, bytesOf_length]; rfl
theorem textL_le {s : ByteArray} (h : s.size ≤ 1048576) : textL s ≤ 1048586 := by
  have := numB_le9 (n := s.size) (by omega)
  unfold textL numL
  rw [Int.toNat_natCast]
  omega
theorem flat2 {α : Type} (a b : List α) : [a, b].flatten.length = a.length + b.length := by simp
theorem flat3 {α : Type} (a b c : List α) : [a, b, c].flatten.length = a.length + (b.length + c.length) := by simp

theorem keep3 {W W' : World} {p q r : Addr} {u v x : Value} (he : Ext W W') (h : W.cell? p = some u ∧ W.cell? q = some v ∧ W.cell? r = some x) : W'.cell? p = some u ∧ W'.cell? q = some v ∧ W'.cell? r = some x := ⟨he.cell h.1, he.cell h.2.1, he.cell h.2.2⟩
theorem keep3g {W W' : World} {p q r : Addr} {u v x : Value} {row : Option Nat} (hg : W.grownBy W' row) (hp : some p.block ≠ row) (hq : some q.block ≠ row) (hr : some r.block ≠ row) (h : W.cell? p = some u ∧ W.cell? q = some v ∧ W.cell? r = some x) : W'.cell? p = some u ∧ W'.cell? q = some v ∧ W'.cell? r = some x := ⟨hg.cell h.1 hp, hg.cell h.2.1 hq, hg.cell h.2.2 hr⟩

theorem letter_nums {w : World} {b : Nat} {l : Letter} {pv iv : Value} {T : TypeId} (hB : w.heap[b]? = some (.cells (letCs l pv iv) T (0, 0))) {g : Nat} (hg : w.heap[g]? = some (.cells #[.pointer (some ⟨b, 1, none⟩), .pointer (some ⟨b, 2, none⟩), .pointer (some ⟨b, 3, none⟩), .pointer (some ⟨b, 4, none⟩), .pointer (some ⟨b, 5, none⟩), .pointer (some ⟨b, 6, none⟩)] 100 (0, 0))) :
    ∀ k, k < 6 → ∃ j n, w.cell? ⟨g, k, none⟩ = some (.pointer (some ⟨b, j, none⟩)) ∧ w.cell? ⟨b, j, none⟩ = some (.int .i64 n) ∧ l.nums[k]? = some n := by
  intro k hk
  have h1 := blk_cell hg k
  rcases (show k = 0 ∨ k = 1 ∨ k = 2 ∨ k = 3 ∨ k = 4 ∨ k = 5 by omega) with rfl | rfl | rfl | rfl | rfl | rfl
  · exact ⟨1, _, h1, blk_cell hB 1, rfl⟩
  · exact ⟨2, _, h1, blk_cell hB 2, rfl⟩
  · exact ⟨3, _, h1, blk_cell hB 3, rfl⟩
  · exact ⟨4, _, h1, blk_cell hB 4, rfl⟩
  · exact ⟨5, _, h1, blk_cell hB 5, rfl⟩
  · exact ⟨6, _, h1, blk_cell hB 6, rfl⟩

theorem all_take_succ {α : Type} (f : α → Bool) {xs : List α} {k : Nat} {x : α} (h : xs[k]? = some x) : (xs.take (k + 1)).all f = ((xs.take k).all f && f x) := by
  rw [List.take_add_one, h]
  simp

/-- What Pack hands back: some text, and the error. -/
def PackPost (l : Letter) (w : World) : Ending → World → Prop := fun e w' => ∃ s, e = .returned (.tuple #[.string s, .int .i64 l.err]) ∧ Ext w w'

set_option maxHeartbeats 8000000 in
theorem pack_calls {F : Nat → Prop} (l : Letter) {pv iv : Value} (w : World) (h : LetIn w F l pv iv) (hsz : ∀ s ∈ l.alls, s.size ≤ 1048576) (hp : l.pairs.length ≤ 300) (hi : l.intents.length ≤ 300) : Calls Try.prog 51 #[letV l pv iv] w (PackPost l w) := by
  obtain ⟨A1, c1, rfl, hc1, hn1⟩ := h.pairs.form
  obtain ⟨A2, c2, rfl, hc2, hn2⟩ := h.intents.form
  obtain ⟨n1, hl1⟩ : ∃ n1, n1 = l.pairs.length := ⟨_, rfl⟩
  obtain ⟨n2, hl2⟩ : ∃ n2, n2 = l.intents.length := ⟨_, rfl⟩
  rw [← hl1] at hc1 hn1 h hp ⊢
  rw [← hl2] at hc2 hn2 h hi ⊢
  have Hl1 := Lib.hid hl1
  have Hl2 := Lib.hid hl2
  clear hl1 hl2 hn1 hn2
  go_enter Try.func51, Try.ntmps51
  go_upto_region 1 with (fail)
  go_cut [4] (fun g wx => g = .bool (wi l.kind 255 && wi l.code maxN) ∧ wx = w.alloc (.cells (letCs l (.slice A1 n1 c1) (.slice A2 n2 c2)) 34))
  case first =>
    rcases hk : wi l.kind 255
    all_goals
      go_wp2_with (first | (go_at_call 67; (with_reducible refine (wi_calls _ _ _).mono ?_); rintro e w' ⟨rfl, rfl⟩))
      go_meet
      case rel => exact ⟨by simp [maxN, hk], rfl⟩
  case rest =>
    obtain ⟨rfl, rfl⟩ := hcut
    go_wp2_with (go_at_call 68; refine (numbers_calls _ _).mono ?_; rintro e w1 ⟨gt, rfl, hgt, hT, he⟩)
    have hB : w1.heap[w.heap.size]? = some (.cells (letCs l (.slice A1 n1 c1) (.slice A2 n2 c2)) 34 (0, 0)) := blk_ext (blk_new rfl) he
    have hE : Ext w w1 := ((Ext.refl w).alloc _).trans he
    clear he hgt
    obtain ⟨g0, hg0⟩ : ∃ g0, g0 = (wi l.kind 255 && wi l.code maxN) := ⟨_, rfl⟩
    rw [← hg0]
    have Hg0 := Lib.hid hg0
    clear hg0
    go_loopw [4, 28] (fun s i wr => ∃ (k : Nat) (g : Bool), k ≤ 6 ∧ i = .int .i64 k ∧ s = .bool g ∧ Ext w wr ∧ Hid (wr.heap[w.heap.size]? = some (.cells (letCs l (.slice A1 n1 c1) (.slice A2 n2 c2)) 34 (0, 0))) ∧ Hid (wr.heap[gt]? = some (.cells #[.pointer (some ⟨w.heap.size, 1, none⟩), .pointer (some ⟨w.heap.size, 2, none⟩), .pointer (some ⟨w.heap.size, 3, none⟩), .pointer (some ⟨w.heap.size, 4, none⟩), .pointer (some ⟨w.heap.size, 5, none⟩), .pointer (some ⟨w.heap.size, 6, none⟩)] 100 (0, 0))) ∧ Hid (g = (g0 && (l.nums.take k).all (fun n => wi n maxN)))) (fun _ i _ => 6 - (intOf i).toNat)
    case atStart => exact ⟨0, g0, by omega, rfl, rfl, hE, hB, hT, by simp [Hid]⟩
    case round =>
      clear hE hB hT
      obtain ⟨k, g, hk, rfl, rfl, hE, hB, hT, Hg⟩ := hrel
      by_cases hlt : k < 6
      · obtain ⟨j, n, c1, c2, hs⟩ := letter_nums hB.out hT.out k hlt
        have Hs := Lib.hid hs
        clear hs
        cases g
        · go_wp2
          go_roundw
          case rel => exact ⟨k + 1, false, by omega, by go_num, rfl, hE, hB, hT, by rw [Hid, all_take_succ _ Hs.out, ← Bool.and_assoc, ← Hg.out]; rfl⟩
          case measure => simp [intOf]; omega
        · go_wp2_with (go_at_call 67; (with_reducible refine (wi_calls _ _ _).mono ?_); rintro e w' ⟨rfl, rfl⟩)
          go_roundw
          case rel => exact ⟨k + 1, wi n maxN, by omega, by go_num, rfl, hE, hB, hT, by rw [Hid, all_take_succ _ Hs.out, ← Bool.and_assoc, ← Hg.out]; rfl⟩
          case measure => simp [intOf]; omega
      · have hk3 : k = 6 := by omega
        rw [hk3] at Hg
        clear hk3 hT
        have cI := blk_cell hB.out 10
        simp only [letCs, List.getElem?_toArray, List.getElem?_cons_succ, List.getElem?_cons_zero] at cI
        obtain ⟨g1, hg1⟩ : ∃ g1, g1 = (g0 && l.nums.all (fun n => wi n maxN)) := ⟨_, rfl⟩
        have Hgg : g = g1 := Hg.out.trans hg1.symm
        subst Hgg
        have Hg1 := Lib.hid hg1
        clear hg1 Hg
        go_wp2
        go_loopw [4, 43] (fun s i wr => ∃ (k : Nat) (g' : Bool), k ≤ n2 ∧ i = .int .i64 k ∧ s = .bool g' ∧ Ext w wr ∧ Hid (wr.heap[w.heap.size]? = some (.cells (letCs l (.slice A1 n1 c1) (.slice A2 n2 c2)) 34 (0, 0))) ∧ Hid (g' = (g && (l.intents.take k).all (fun x => wi x.version maxN)))) (fun _ i _ => n2 - (intOf i).toNat)
        case atStart => exact ⟨0, g, by omega, rfl, rfl, hE, hB, by simp [Hid]⟩
        case round =>
          clear hE hB cI
          obtain ⟨k, g', hk, rfl, rfl, hE, hB, Hg⟩ := hrel
          have hlet := h.ext hE
          by_cases hlt : k < n2
          · obtain ⟨b, o, x, rfl, hb, hx, c1, c2, c3⟩ := hlet.intents.atIntent hlt
            have Hs := Lib.hid hx
            clear hx
            cases g'
            · go_wp2
              go_roundw
              case rel => exact ⟨k + 1, false, by omega, by go_num, rfl, hE.alloc _, blk_old hB.out, by rw [Hid, all_take_succ _ Hs.out, ← Bool.and_assoc, ← Hg.out]; rfl⟩
              case measure => simp [intOf]; omega
            · go_wp2_with (go_at_call 67; (with_reducible refine (wi_calls _ _ _).mono ?_); rintro e w' ⟨rfl, rfl⟩)
              go_roundw
              case rel => exact ⟨k + 1, wi x.version maxN, by omega, by go_num, rfl, hE.alloc _, blk_old hB.out, by rw [Hid, all_take_succ _ Hs.out, ← Bool.and_assoc, ← Hg.out]; rfl⟩
              case measure => simp [intOf]; omega
          · have hkn : k = n2 := by omega
            have hfl : l.intents.take k = l.intents := by rw [hkn, Hl2.out]; exact List.take_length
            rw [hfl] at Hg
            clear hkn hfl
            have hgood : g' = l.good := by rw [Hg.out, Hg1.out, Hg0.out]; rfl
            clear Hg Hg1
            have cP := blk_cell hB.out 9
            have cI := blk_cell hB.out 10
            simp only [letCs, List.getElem?_toArray, List.getElem?_cons_succ, List.getElem?_cons_zero] at cI cP
            have Hgood := Lib.hid hgood
            clear hgood
            cases g'
            · go_wp2
              go_ret2
              exact ⟨_, ret2 rfl (vint (Letter.err_bad Hgood.out.symm).symm), hE⟩
            · skip
              by_cases h1 : 256 < n1
              · go_wp2
                go_ret2
                exact ⟨_, ret2 rfl (vint (Letter.err_large Hgood.out.symm (.inl (by rw [← Hl1.out]; exact h1))).symm), hE⟩
              · by_cases h2 : 256 < n2
                · go_wp2
                  go_ret2
                  exact ⟨_, ret2 rfl (vint (Letter.err_large Hgood.out.symm (.inr (.inl (by rw [← Hl2.out]; exact h2)))).symm), hE⟩
                · have hk := Letter.good_kind Hgood.out.symm
                  have hcd := Letter.good_code Hgood.out.symm
                  obtain ⟨f0, f1, f2, f3, f4, f5, f6, f7, f8, f9, f10, f11, f12, f13⟩ := let_cells hB.out
                  by_cases hbk : 65536 < l.bulk
                  · go_wp2_with (go_at_call 69; (with_reducible refine (bulk_calls l _ hlet (fun s hs => by have := hsz s hs; omega)).mono ?_); rintro e w2 ⟨rfl, he⟩)
                    go_ret2
                    exact ⟨_, ret2 rfl (vint (Letter.err_large Hgood.out.symm (.inr (.inr (Nat.lt_of_lt_of_le hbk l.bulk_le)))).symm), hE.trans he⟩
                  · go_wp2_with fail
                    (with_reducible refine (bulk_calls l _ hlet (fun s hs => by have := hsz s hs; omega)).mono ?_)
                    rintro e w2 ⟨rfl, he⟩
                    have hB2 := blk_ext hB.out he
                    have hE2 := hE.trans he
                    have hlt2 := blk_lt hB2
                    clear hE hB he hlet cP cI f0 f1 f2 f3 f4 f5 f6 f7 f8 f9 f10 f11 f12 f13 Hg0
                    have f0 := (let_cells hB2).1
                    have HB2 := Lib.hid hB2
                    clear hB2
                    go_wp2_with fail
                    (with_reducible refine (numI_calls l.kind hk.1 (by omega) _).mono ?_)
                    rintro e w3 ⟨v, rfl, hO, he⟩
                    replace hO := hO.low (base' := w.heap.size + 1) (by omega)
                    go_wp2_with fail
                    (with_reducible refine (numbers_calls _ _).mono ?_)
                    rintro e w4 ⟨g2, rfl, hg2, hT, he2⟩
                    have hAv : Av v (fun k => k = w.heap.size ∨ k = g2) := hO.av (by rintro k (rfl | rfl) <;> omega)
                    have hO2 := hO.ext he2
                    have hE4 := hE2.trans (he.trans he2)
                    have hB4 := blk_ext HB2.out (he.trans he2)
                    have hx : numL l.kind ≤ 9 := numL_le (by omega)
                    have hxl : (numB l.kind.toNat).length = numL l.kind := rfl
                    have Hxl := Lib.hid hxl
                    clear hxl hO he he2 HB2 hE2 f0 hg2
                    clear w3
                    go_wp2_with fail
                    go_loopw [9, 74] (fun v i wr => ∃ (k : Nat) (xs : List Int), k ≤ 6 ∧ i = .int .i64 k ∧ Own (tInt .u8) 5 wr (fun _ => False) (w.heap.size + 1) v xs ∧ Av v (fun k => k = w.heap.size ∨ k = g2) ∧ Ext w wr ∧ Hid (wr.heap[w.heap.size]? = some (.cells (letCs l (.slice A1 n1 c1) (.slice A2 n2 c2)) 34 (0, 0))) ∧ Hid (wr.heap[g2]? = some (.cells #[.pointer (some ⟨w.heap.size, 1, none⟩), .pointer (some ⟨w.heap.size, 2, none⟩), .pointer (some ⟨w.heap.size, 3, none⟩), .pointer (some ⟨w.heap.size, 4, none⟩), .pointer (some ⟨w.heap.size, 5, none⟩), .pointer (some ⟨w.heap.size, 6, none⟩)] 100 (0, 0))) ∧ xs.length ≤ 10 + 10 * k ∧ Hid (xs.length = numL l.kind + ((l.nums.take k).map numL).sum)) (fun _ i _ => 6 - (intOf i).toNat)
                    case atStart => exact ⟨0, _, by omega, rfl, hO2, hAv, hE4, hB4, hT, by rw [Hxl.out]; omega, by simpa [Hid] using Hxl.out⟩
                    case round =>
                      clear hO2 hAv hE4 hB4 hT Hxl hx
                      obtain ⟨k, xs, hk, rfl, hO, hAv, hE, hB, hT, hxl, Hxl⟩ := hrel
                      have hltB := blk_lt hB.out
                      have hltg := blk_lt hT.out
                      by_cases hlt : k < 6
                      · obtain ⟨j, n, c1, c2, hs⟩ := letter_nums hB.out hT.out k hlt
                        have hn := Letter.good_num Hgood.out.symm hs
                        have hn9 : numL n ≤ 9 := numL_le (by omega)
                        have Hs := Lib.hid hs
                        clear hs
                        go_wp2_with (first
                          | (go_at_call 48; (with_reducible refine (numI_calls n hn.1 (by omega) _).mono ?_); rintro e w5 ⟨v5, rfl, hO5, he5⟩)
                          | (at_builtin; refine app_u8s (w.heap.size + 1) rfl _ _ rfl (hO.ext he5) hO5.sl rfl rfl (by have := he5.sz; omega) (by change xs.length + numL n ≤ _; omega) ?_; intro v6 w6 hO6 hg hat))
                        go_roundw
                        case rel => exact ⟨k + 1, _, by omega, by go_num, hO6, hAv.next hat (by have := he5.sz; rintro k (rfl | rfl) <;> omega), (hE.trans he5).grown hg (fun q hq => by have := own_ge hO q hq; omega), blk_grown (blk_ext hB.out he5) hg (hAv.ne (.inl rfl)), blk_grown (blk_ext hT.out he5) hg (hAv.ne (.inr rfl)), by rw [List.length_append]; change xs.length + numL n ≤ _; omega, by rw [Hid, List.length_append, sum_take_succ _ Hs.out, Hxl.out]; exact Nat.add_assoc _ _ _⟩
                        case measure => simp [intOf]; omega
                      · have hk3 : k = 6 := by omega
                        rw [hk3] at Hxl
                        clear hT
                        have hxl : xs.length ≤ 70 := by omega
                        clear hk3
                        obtain ⟨f11, f12⟩ := (let_cells hB.out).2.2.2.2.2.2.2.2.2.2.2
                        replace f12 := f12.1
                        have hbd := bitI_bd l.yes
                        have hc9 : numL l.code ≤ 9 := numL_le (by omega)
                        have hb9 : numL (bitI l.yes) ≤ 9 := numL_le (by omega)
                        go_upto_region 24 with (fail)
                        go_region_held3 (fun w' => w'.cell? ⟨w.heap.size, 11, none⟩ = some (.int .i64 l.code) ∧ w'.cell? ⟨w.heap.size, 12, none⟩ = some (.bool l.yes))
                          (first | exact ⟨f11, f12⟩ | assumption | exact keep2 (by assumption) (by assumption) | exact keep2 ((Ext.refl _).alloc _) (by assumption) | exact keep2g hg (hAv.ne (.inl rfl)) (hAv.ne (.inl rfl)) (by assumption))
                          (first
                            | (go_at_call 48; (with_reducible refine (numI_calls l.code hcd.1 (by omega) _).mono ?_); rintro e wa ⟨va, rfl, hOa, hea⟩; obtain ⟨Aa, ca, rfl, _, _⟩ := hOa.form)
                            | (go_at_call 70; (with_reducible refine (bitI_calls _ _).mono ?_); rintro e wb ⟨rfl, rfl⟩)
                            | (go_at_call 48; (with_reducible refine (numI_calls (bitI l.yes) hbd.1 (by omega) _).mono ?_); rintro e wc ⟨vc, rfl, hOc, hec⟩; obtain ⟨Ac, cc, rfl, _, _⟩ := hOc.form)
                            | (go_at_call 47; refine (join_calls _ (sl_two (blk_new rfl) (hOa.ext (hec.alloc _)).sl (hOc.ext ((Ext.refl _).alloc _)).sl) (by simp only [List.flatten_cons, List.flatten_nil, List.length_append, List.length_nil]; change numL l.code + (numL (bitI l.yes) + 0) ≤ _; omega)).mono ?_; rintro e wd ⟨vd, rfl, hOd, hed⟩)
                            | (refine app_u8s_step (w.heap.size + 1) rfl _ _ rfl (hO.ext (((((Ext.refl _).drew.trans hea).trans hec).alloc _).trans hed)) hOd.sl rfl rfl (Nat.le_trans hltB (((((Ext.refl wr).drew.trans hea).trans hec).alloc _).trans hed).sz) (by simp only [List.flatten_cons, List.flatten_nil, List.length_append, List.length_nil]; change _ + (numL l.code + (numL (bitI l.yes) + 0)) ≤ _; omega) ?_; intro v6 w6 hO6 hg hat))
                        have heA : Ext wr wd := ((((Ext.refl _).drew.trans hea).trans hec).alloc _).trans hed
                        have hB7 := blk_grown (blk_ext hB.out heA) hg (hAv.ne (.inl rfl))
                        have hE7 := (hE.trans heA).grown hg (fun q hq => by have := own_ge hO q hq; omega)
                        have hszA := heA.sz
                        have hAv7 : Av v6 (fun k => k = w.heap.size) := (hAv.mono (fun k hk => .inl hk)).next hat (by rintro k rfl; omega)
                        have hl7 : (xs ++ [numB l.code.toNat, numB (bitI l.yes).toNat].flatten).length = xs.length + (numL l.code + numL (bitI l.yes)) := by simp [numL]
                        have hle7 : (xs ++ [numB l.code.toNat, numB (bitI l.yes).toNat].flatten).length ≤ 90 := by rw [hl7]; omega
                        obtain ⟨ys, hys⟩ : ∃ ys, ys = xs ++ [numB l.code.toNat, numB (bitI l.yes).toNat].flatten := ⟨_, rfl⟩
                        rw [← hys] at hl7 hle7 hO6
                        have Hl7 : Hid (ys.length = numL l.kind + (l.nums.map numL).sum + (numL l.code + numL (bitI l.yes))) := by rw [Hid, hl7, Hxl.out]; rfl
                        clear hl7 hys hat hg hO hAv hE hB hxl Hxl heA hea hec hed hOa hOc hOd f11 f12 hbd hc9 hb9 hszA hltg hltB
                        have hltB := blk_lt hB7
                        have HB7 := Lib.hid hB7
                        clear hB7
                        go_wp2_with (go_at_call 71; refine (texts_calls _ _).mono ?_; rintro e w8 ⟨g3, rfl, hg3, hT, he⟩)
                        have hB8 := blk_ext HB7.out he
                        have hE8 := hE7.trans he
                        have hO8 := hO6.ext he
                        have hAv8 : Av v6 (fun k => k = w.heap.size ∨ k = g3) := by
                          rintro q hq (rfl | rfl)
                          · exact hAv7 _ hq rfl
                          · have := (hO6.blk _ hq).2; omega
                        clear HB7 he hE7 hO6 hAv7 hg3
                        go_loopw [9, 98] (fun v i wr => ∃ (k : Nat) (xs : List Int), k ≤ 3 ∧ i = .int .i64 k ∧ Own (tInt .u8) 5 wr (fun _ => False) (w.heap.size + 1) v xs ∧ Av v (fun k => k = w.heap.size ∨ k = g3) ∧ Ext w wr ∧ Hid (wr.heap[w.heap.size]? = some (.cells (letCs l (.slice A1 n1 c1) (.slice A2 n2 c2)) 34 (0, 0))) ∧ Hid (wr.heap[g3]? = some (.cells #[.pointer (some ⟨w.heap.size, 7, none⟩), .pointer (some ⟨w.heap.size, 8, none⟩), .pointer (some ⟨w.heap.size, 13, none⟩)] 126 (0, 0))) ∧ xs.length ≤ 90 + 1048596 * k ∧ Hid (xs.length = numL l.kind + (l.nums.map numL).sum + (numL l.code + numL (bitI l.yes)) + ((l.txts.take k).map textL).sum)) (fun _ i _ => 3 - (intOf i).toNat)
                        case atStart => exact ⟨0, ys, by omega, rfl, hO8, hAv8, hE8, hB8, hT, by omega, by simpa [Hid] using Hl7.out⟩
                        case round =>
                          clear hO8 hAv8 hE8 hB8 hT Hl7 hle7 hltB
                          clear ys
                          obtain ⟨k, xs, hk, rfl, hO, hAv, hE, hB, hT, hxl, Hxl⟩ := hrel
                          have hltB := blk_lt hB.out
                          have hltg := blk_lt hT.out
                          by_cases hlt : k < 3
                          · obtain ⟨j, s, c1, c2, hs⟩ := letter_texts hB.out hT.out k hlt
                            have hsz1 := hsz s (Letter.mem_txts hs)
                            have Hs := Lib.hid hs
                            clear hs
                            have ht := textL_le hsz1
                            go_wp2_with (first
                              | (go_at_call 66; (with_reducible refine (text_calls s (by omega) _).mono ?_); rintro e w5 ⟨v5, rfl, hO5, he5⟩)
                              | (at_builtin; refine app_u8s (w.heap.size + 1) rfl _ _ rfl (hO.ext he5) hO5.sl rfl rfl (by have := he5.sz; omega) (by rw [textB_len]; omega) ?_; intro v6 w6 hO6 hg hat))
                            go_roundw
                            case rel => exact ⟨k + 1, _, by omega, by go_num, hO6, hAv.next hat (by have := he5.sz; rintro k (rfl | rfl) <;> omega), (hE.trans he5).grown hg (fun q hq => by have := own_ge hO q hq; omega), blk_grown (blk_ext hB.out he5) hg (hAv.ne (.inl rfl)), blk_grown (blk_ext hT.out he5) hg (hAv.ne (.inr rfl)), by rw [List.length_append, textB_len]; omega, by rw [Hid, List.length_append, sum_take_succ _ Hs.out, Hxl.out, textB_len]; exact Nat.add_assoc _ _ _⟩
                            case measure => simp [intOf]; omega
                          · have hk3 : k = 3 := by omega
                            rw [hk3] at Hxl
                            clear hT
                            have hxl : xs.length ≤ 3145900 := by omega
                            clear hk3
                            have cP := (let_cells hB.out).2.2.2.2.2.2.2.2.2.1
                            have hpn : numL n1 ≤ 9 := numL_le (by omega)
                            go_wp2_with (first
                              | (go_at_call 48; (with_reducible refine (num_calls n1 (by omega) _).mono ?_); rintro e w5 ⟨v5, rfl, hO5, he5⟩)
                              | (at_builtin; refine app_u8s (w.heap.size + 1) rfl _ _ rfl (hO.ext he5) hO5.sl rfl rfl (by have := he5.sz; omega) (by change xs.length + numL n1 ≤ _; omega) ?_; intro v6 w6 hO6 hg hat; have cP6 := (let_cells (blk_grown (blk_ext hB.out he5) hg (hAv.ne (.inl rfl)))).2.2.2.2.2.2.2.2.2.1))
                            have hE7 := (hE.trans he5).grown hg (fun q hq => by have := own_ge hO q hq; omega)
                            have hB7 := blk_grown (blk_ext hB.out he5) hg (hAv.ne (.inl rfl))
                            have hAv7 : Av v6 (fun k => k = w.heap.size) := (hAv.mono (fun k hk => .inl hk)).next hat (by have := he5.sz; rintro k rfl; omega)
                            have hl7 : (xs ++ numB n1).length = xs.length + numL n1 := by rw [List.length_append]; rfl
                            obtain ⟨ys, hys⟩ : ∃ ys, ys = xs ++ numB n1 := ⟨_, rfl⟩
                            rw [← hys] at hl7 hO6
                            have hle7 : ys.length ≤ 3145910 := by omega
                            have Hl7 : Hid (ys.length = numL l.kind + (l.nums.map numL).sum + (numL l.code + numL (bitI l.yes)) + (l.txts.map textL).sum + numL n1) := by rw [Hid, hl7, Hxl.out]; rfl
                            clear hl7 hys hat hg hO hAv hE hB hxl Hxl he5 hO5 cP cP6 hltB hltg hpn
                            go_loopw [9, 118] (fun v i wr => ∃ (k : Nat) (xs : List Int), k ≤ n1 ∧ i = .int .i64 k ∧ Own (tInt .u8) 5 wr (fun _ => False) (w.heap.size + 1) v xs ∧ Av v (fun k => k = w.heap.size) ∧ Ext w wr ∧ Hid (wr.heap[w.heap.size]? = some (.cells (letCs l (.slice A1 n1 c1) (.slice A2 n2 c2)) 34 (0, 0))) ∧ xs.length ≤ 3145910 + 2097190 * k ∧ Hid (xs.length = numL l.kind + (l.nums.map numL).sum + (numL l.code + numL (bitI l.yes)) + (l.txts.map textL).sum + numL n1 + ((l.pairs.take k).map pairL).sum)) (fun _ i _ => n1 - (intOf i).toNat)
                            case atStart => exact ⟨0, ys, by omega, rfl, hO6, hAv7, hE7, hB7, by omega, by simpa [Hid] using Hl7.out⟩
                            case round =>
                              clear hO6 hAv7 hE7 hB7 Hl7 hle7
                              clear ys
                              obtain ⟨k, xs, hk, rfl, hO, hAv, hE, hB, hxl, Hxl⟩ := hrel
                              have hltB := blk_lt hB.out
                              have hlet := h.ext hE
                              by_cases hlt : k < n1
                              · obtain ⟨b, o, x, rfl, hb, hx, c1, c2⟩ := hlet.pairs.atPair hlt
                                have hm := Letter.mem_pair hx
                                have hm1 := hsz _ hm.1
                                have hm2 := hsz _ hm.2
                                have ht1 := textL_le hm1
                                have ht2 := textL_le hm2
                                have Hs := Lib.hid hx
                                clear hx hm
                                have p0 : (wr.alloc (.cells #[.string x.key, .string x.val] 79)).cell? ⟨wr.heap.size, 0, none⟩ = some (.string x.key) := blk_cell (blk_new rfl) 0
                                have p1 : (wr.alloc (.cells #[.string x.key, .string x.val] 79)).cell? ⟨wr.heap.size, 1, none⟩ = some (.string x.val) := blk_cell (blk_new rfl) 1
                                have hAv2 : Av u9 (fun k => k = w.heap.size ∨ k = wr.heap.size) := by
                                  rintro q hq (rfl | rfl)
                                  · exact hAv _ hq rfl
                                  · have := (hO.blk _ hq).2; omega
                                go_upto_region 34 with (fail)
                                have hO1 := hO.ext ((Ext.refl wr).alloc (.cells #[.string x.key, .string x.val] 79))
                                go_region_held3 (fun w' => w'.cell? ⟨wr.heap.size, 0, none⟩ = some (.string x.key) ∧ w'.cell? ⟨wr.heap.size, 1, none⟩ = some (.string x.val))
                                  (first | exact ⟨p0, p1⟩ | assumption | exact keep2 (by assumption) (by assumption) | exact keep2 ((Ext.refl _).alloc _) (by assumption) | exact keep2g hg (hAv2.ne (.inr rfl)) (hAv2.ne (.inr rfl)) (by assumption))
                                  (first
                                    | (go_at_call 66; (with_reducible refine (text_calls x.key (by omega) _).mono ?_); rintro e wa ⟨va, rfl, hOa, hea⟩; obtain ⟨Aa, ca, rfl, _, _⟩ := hOa.form)
                                    | (go_at_call 66; (with_reducible refine (text_calls x.val (by omega) _).mono ?_); rintro e wc ⟨vc, rfl, hOc, hec⟩; obtain ⟨Ac, cc, rfl, _, _⟩ := hOc.form)
                                    | (go_at_call 47; refine (join_calls _ (sl_two (blk_new rfl) (hOa.ext (hec.alloc _)).sl (hOc.ext ((Ext.refl _).alloc _)).sl) (by rw [flat2, textB_len, textB_len]; omega)).mono ?_; rintro e wd ⟨vd, rfl, hOd, hed⟩)
                                    | (refine app_u8s_step (w.heap.size + 1) rfl _ _ rfl (hO1.ext (((((Ext.refl _).drew.trans hea).trans hec).alloc _).trans hed)) hOd.sl rfl rfl (Nat.le_trans hltB ((((((Ext.refl wr).alloc _).drew.trans hea).trans hec).alloc _).trans hed).sz) (by rw [flat2, textB_len, textB_len]; omega) ?_; intro v6 w6 hO6 hg hat))
                                have heA : Ext wr wd := ((((((Ext.refl wr).alloc _).drew).trans hea).trans hec).alloc _).trans hed
                                have hszA := heA.sz
                                have hll : (xs ++ [textB x.key, textB x.val].flatten).length = xs.length + pairL x := by rw [List.length_append, flat2, textB_len, textB_len]; rfl
                                have hpl : pairL x ≤ 2097190 := by unfold pairL; omega
                                go_wp2
                                go_roundw
                                case rel => exact ⟨k + 1, _, by omega, by go_num, hO6, hAv.next hat (by rintro k rfl; omega), (hE.trans heA).grown hg (fun q hq => by have := own_ge hO q hq; omega), blk_grown (blk_ext hB.out heA) hg (hAv.ne rfl), by rw [hll]; omega, by rw [Hid, hll, sum_take_succ _ Hs.out, Hxl.out]; exact Nat.add_assoc _ _ _⟩
                                case measure => simp [intOf]; omega
                              · have hkn : k = n1 := by omega
                                have hfl : l.pairs.take k = l.pairs := by rw [hkn, Hl1.out]; exact List.take_length
                                rw [hfl] at Hxl
                                have hxl : xs.length ≤ 632302910 := by omega
                                clear hkn hfl
                                have cI := (let_cells hB.out).2.2.2.2.2.2.2.2.2.2.1
                                have hpn : numL n2 ≤ 9 := numL_le (by omega)
                                go_wp2_with (first
                                  | (go_at_call 48; (with_reducible refine (num_calls n2 (by omega) _).mono ?_); rintro e w5 ⟨v5, rfl, hO5, he5⟩)
                                  | (at_builtin; refine app_u8s (w.heap.size + 1) rfl _ _ rfl (hO.ext he5) hO5.sl rfl rfl (by have := he5.sz; omega) (by change xs.length + numL n2 ≤ _; omega) ?_; intro v6 w6 hO6 hg hat; have cI6 := (let_cells (blk_grown (blk_ext hB.out he5) hg (hAv.ne rfl))).2.2.2.2.2.2.2.2.2.2.1))
                                have hE7 := (hE.trans he5).grown hg (fun q hq => by have := own_ge hO q hq; omega)
                                have hl7 : (xs ++ numB n2).length = xs.length + numL n2 := by rw [List.length_append]; rfl
                                obtain ⟨ys, hys⟩ : ∃ ys, ys = xs ++ numB n2 := ⟨_, rfl⟩
                                rw [← hys] at hl7 hO6
                                have hle7 : ys.length ≤ 632302920 := by omega
                                have Hl7 : Hid (ys.length = numL l.kind + (l.nums.map numL).sum + (numL l.code + numL (bitI l.yes)) + (l.txts.map textL).sum + numL n1 + (l.pairs.map pairL).sum + numL n2) := by rw [Hid, hl7, Hxl.out]
                                have hB7 := blk_grown (blk_ext hB.out he5) hg (hAv.ne rfl)
                                have hAv7 : Av v6 (fun k => k = w.heap.size) := hAv.next hat (by have := he5.sz; rintro k rfl; omega)
                                clear hl7 hys hat hg hO hAv hE hB hxl Hxl he5 hO5 cI cI6 hltB hpn hlet
                                go_loopw [9, 142] (fun v i wr => ∃ (k : Nat) (xs : List Int), k ≤ n2 ∧ i = .int .i64 k ∧ Own (tInt .u8) 5 wr (fun _ => False) (w.heap.size + 1) v xs ∧ Av v (fun k => k = w.heap.size) ∧ Ext w wr ∧ Hid (wr.heap[w.heap.size]? = some (.cells (letCs l (.slice A1 n1 c1) (.slice A2 n2 c2)) 34 (0, 0))) ∧ xs.length ≤ 632302920 + 2097190 * k ∧ Hid (xs.length = numL l.kind + (l.nums.map numL).sum + (numL l.code + numL (bitI l.yes)) + (l.txts.map textL).sum + numL n1 + (l.pairs.map pairL).sum + numL n2 + ((l.intents.take k).map intentL).sum)) (fun _ i _ => n2 - (intOf i).toNat)
                                case atStart => exact ⟨0, ys, by omega, rfl, hO6, hAv7, hE7, hB7, by omega, by simpa [Hid] using Hl7.out⟩
                                case round =>
                                  clear hO6 hE7 hB7 hAv7 Hl7 hle7
                                  clear ys
                                  obtain ⟨k, xs, hk, rfl, hO, hAv, hE, hB, hxl, Hxl⟩ := hrel
                                  have hltB := blk_lt hB.out
                                  have hlet := h.ext hE
                                  by_cases hlt : k < n2
                                  · obtain ⟨b, o, x, rfl, hb, hx, c1, c2, c3⟩ := hlet.intents.atIntent hlt
                                    have hm1 := hsz _ (Letter.mem_intent hx)
                                    have hv := Letter.good_ver Hgood.out.symm hx
                                    have ht1 := textL_le hm1
                                    have hv9 : numL x.version ≤ 9 := numL_le (by omega)
                                    have hgb := bitI_bd x.gone
                                    have hg9 : numL (bitI x.gone) ≤ 9 := numL_le (by omega)
                                    have Hs := Lib.hid hx
                                    clear hx
                                    have p0 : (wr.alloc (.cells #[.string x.entry, .int .i64 x.version, .bool x.gone] 81)).cell? ⟨wr.heap.size, 0, none⟩ = some (.string x.entry) := blk_cell (blk_new rfl) 0
                                    have p1 : (wr.alloc (.cells #[.string x.entry, .int .i64 x.version, .bool x.gone] 81)).cell? ⟨wr.heap.size, 1, none⟩ = some (.int .i64 x.version) := blk_cell (blk_new rfl) 1
                                    have p2 : (wr.alloc (.cells #[.string x.entry, .int .i64 x.version, .bool x.gone] 81)).cell? ⟨wr.heap.size, 2, none⟩ = some (.bool x.gone) := blk_cell (blk_new rfl) 2
                                    have hAv2 : Av u9 (fun k => k = w.heap.size ∨ k = wr.heap.size) := by
                                      rintro q hq (rfl | rfl)
                                      · exact hAv _ hq rfl
                                      · have := (hO.blk _ hq).2; omega
                                    go_upto_region 40 with (fail)
                                    have hO1 := hO.ext ((Ext.refl wr).alloc (.cells #[.string x.entry, .int .i64 x.version, .bool x.gone] 81))
                                    go_region_held3 (fun w' => w'.cell? ⟨wr.heap.size, 0, none⟩ = some (.string x.entry) ∧ w'.cell? ⟨wr.heap.size, 1, none⟩ = some (.int .i64 x.version) ∧ w'.cell? ⟨wr.heap.size, 2, none⟩ = some (.bool x.gone))
                                      (first | exact ⟨p0, p1, p2⟩ | assumption | exact keep3 (by assumption) (by assumption) | exact keep3 ((Ext.refl _).alloc _) (by assumption) | exact keep3g hg (hAv2.ne (.inr rfl)) (hAv2.ne (.inr rfl)) (hAv2.ne (.inr rfl)) (by assumption))
                                      (first
                                        | (go_at_call 66; (with_reducible refine (text_calls x.entry (by omega) _).mono ?_); rintro e wa ⟨va, rfl, hOa, hea⟩; obtain ⟨Aa, ca, rfl, _, _⟩ := hOa.form)
                                        | (go_at_call 70; (with_reducible refine (bitI_calls _ _).mono ?_); rintro e wb ⟨rfl, rfl⟩)
                                        | (go_at_call 48; (with_reducible refine (numI_calls x.version hv.1 (by omega) _).mono ?_); rintro e wb ⟨vb, rfl, hOb, heb⟩; obtain ⟨Ab, cb, rfl, _, _⟩ := hOb.form)
                                        | (go_at_call 48; (with_reducible refine (numI_calls (bitI x.gone) hgb.1 (by omega) _).mono ?_); rintro e wc ⟨vc, rfl, hOc, hec⟩; obtain ⟨Ac, cc, rfl, _, _⟩ := hOc.form)
                                        | (go_at_call 47; refine (join_calls _ (sl_three (blk_new rfl) (hOa.ext ((heb.trans hec).alloc _)).sl (hOb.ext (hec.alloc _)).sl (hOc.ext ((Ext.refl _).alloc _)).sl) (by rw [flat3, textB_len]; change textL x.entry + (numL x.version + numL (bitI x.gone)) ≤ _; omega)).mono ?_; rintro e wd ⟨vd, rfl, hOd, hed⟩)
                                        | (refine app_u8s_step (w.heap.size + 1) rfl _ _ rfl (hO1.ext ((((((Ext.refl _).drew.trans hea).trans heb).trans hec).alloc _).trans hed)) hOd.sl rfl rfl (Nat.le_trans hltB (((((((Ext.refl wr).alloc _).drew.trans hea).trans heb).trans hec).alloc _).trans hed).sz) (by rw [flat3, textB_len]; change _ + (textL x.entry + (numL x.version + numL (bitI x.gone))) ≤ _; omega) ?_; intro v6 w6 hO6 hg hat))
                                    have heA : Ext wr wd := (((((((Ext.refl wr).alloc _).drew).trans hea).trans heb).trans hec).alloc _).trans hed
                                    have hszA := heA.sz
                                    have hll : (xs ++ [textB x.entry, numB x.version.toNat, numB (bitI x.gone).toNat].flatten).length = xs.length + intentL x := by rw [List.length_append, flat3, textB_len, ← Nat.add_assoc (textL x.entry)]; rfl
                                    have hpl : intentL x ≤ 2097190 := by unfold intentL; omega
                                    go_wp2
                                    go_roundw
                                    case rel => exact ⟨k + 1, _, by omega, by go_num, hO6, hAv.next hat (by rintro k rfl; omega), (hE.trans heA).grown hg (fun q hq => by have := own_ge hO q hq; omega), blk_grown (blk_ext hB.out heA) hg (hAv.ne rfl), by rw [hll]; omega, by rw [Hid, hll, sum_take_succ _ Hs.out, Hxl.out]; exact Nat.add_assoc _ _ _⟩
                                    case measure => simp [intOf]; omega
                                  · have hkn : k = n2 := by omega
                                    have hfl : l.intents.take k = l.intents := by rw [hkn, Hl2.out]; exact List.take_length
                                    rw [hfl] at Hxl
                                    have hsize : xs.length = l.size := by rw [Hxl.out, Hl1.out, Hl2.out]; rfl
                                    clear hkn hfl Hxl
                                    obtain ⟨Av', cv, rfl, _, _⟩ := hO.form
                                    have hconv := conv_str 99 9 5 Try.underlying99 Try.underlying5 Try.underlying9 hO.sl
                                    obtain ⟨m, hm⟩ : ∃ m, m = xs.length := ⟨_, rfl⟩
                                    rw [← hm] at hsize hconv ⊢
                                    have Hsize := Lib.hid hsize
                                    clear hsize hm
                                    by_cases hbig : 65536 < m
                                    · go_wp2
                                      go_ret2
                                      exact ⟨_, ret2 rfl (vint (Letter.err_large Hgood.out.symm (.inr (.inr (by rw [← Hsize.out]; exact hbig)))).symm), hE⟩
                                    · go_wp2
                                      go_ret2
                                      exact ⟨_, ret2 rfl (vint (Letter.err_ok Hgood.out.symm (by rw [← Hsize.out, ← Hl1.out, ← Hl2.out]; omega)).symm), hE⟩

set_option maxHeartbeats 1000000 in
theorem check_calls {F : Nat → Prop} (l : Letter) {pv iv : Value} (w : World) (h : LetIn w F l pv iv) (hsz : ∀ s ∈ l.alls, s.size ≤ 1048576) (hp : l.pairs.length ≤ 300) (hi : l.intents.length ≤ 300) : Calls Try.prog 32 #[letV l pv iv] w (Ret w (.int .i64 l.err)) := by
  obtain ⟨A1, c1, rfl, hc1, hn1⟩ := h.pairs.form
  obtain ⟨A2, c2, rfl, hc2, hn2⟩ := h.intents.form
  have H := Lib.hid h
  clear h
  have Hp := Lib.hid hp
  have Hi := Lib.hid hi
  clear hp hi
  go_enter Try.func32, Try.ntmps32
  go_wp2_with fail
  refine (pack_calls l _ (H.out.ext ((Ext.refl w).alloc _)) hsz Hp.out Hi.out).mono ?_
  rintro e w2 ⟨s, rfl, he⟩
  go_wp2
  go_ret
  exact ⟨rfl, ((Ext.refl w).alloc _).trans he⟩
end Go.Proofs.Ytmimncinnflfkaa
