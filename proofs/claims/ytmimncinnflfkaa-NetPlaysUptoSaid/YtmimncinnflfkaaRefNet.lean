/- Layer 14, the document's net: rows of letters under their numbers; At. -/
import Derived.Test.YtmimncinnflfkaaNet4
import Derived.Test.YtmimncinnflfkaaRefPack
set_option linter.all false
namespace Go.Proofs.Ytmimncinnflfkaa
open Go.RowKit
set_option maxRecDepth 100000

/-- A letter under its number, as an element. -/
def tSent : Ty (Int × Letter) where
  sz := 15
  pos := by omega
  K := fun w F x cs => ∃ pv iv, cs = .int .i64 x.1 :: (letCs x.2 pv iv).toList ∧ LetIn w F x.2 pv iv
  len := by rintro _ _ _ _ ⟨pv, iv, rfl, _⟩; rfl
  one := by
    rintro _ _ _ _ ⟨pv, iv, rfl, h⟩ u hu
    obtain ⟨A1, c1, rfl, _⟩ := h.pairs.form
    obtain ⟨A2, c2, rfl, _⟩ := h.intents.form
    simp only [List.mem_cons, List.not_mem_nil, or_false] at hu
    rcases hu with rfl | rfl | rfl | rfl | rfl | rfl | rfl | rfl | rfl | rfl | rfl | rfl | rfl | rfl | rfl <;> rfl
  mono := by rintro _ _ _ _ _ ⟨pv, iv, rfl, h⟩ hF; exact ⟨pv, iv, rfl, h.mono hF⟩
  move := by rintro _ _ _ _ _ ⟨pv, iv, rfl, h⟩ hF; exact ⟨pv, iv, rfl, h.move hF⟩
  bnd := by rintro _ _ _ _ ⟨pv, iv, rfl, h⟩; exact ⟨pv, iv, rfl, h.bnd⟩

theorem Sl.atSent {w : World} {F : Nat → Prop} {xs : List (Int × Letter)} {A : Option Addr} {n c k : Nat} (h : Sl tSent w F (.slice A n c) xs) (hk : k < n) :
    ∃ b o x pv iv, A = some ⟨b, o, none⟩ ∧ F b ∧ xs[k]? = some x ∧ LetIn w F x.2 pv iv ∧ ∀ j u, (Value.int .i64 x.1 :: (letCs x.2 pv iv).toList)[j]? = some u → w.cell? ⟨b, o + k * 15 + j, none⟩ = some u := by
  obtain ⟨b, o, x, cs, hA, hb, hx, ⟨pv, iv, rfl, hL⟩, hc⟩ := h.at hk
  exact ⟨b, o, x, pv, iv, hA, hb, hx, hL, hc⟩

/-- Block q is the document's net: its row v, its last number. -/
structure RefM (w : World) (F : Nat → Prop) (q : Nat) (v : Value) (xs : List (Int × Letter)) (last : Nat) : Prop where
  blk : w.heap[q]? = some (.cells #[v, .int .i64 last] 29 (0, 0))
  own : Own tSent 49 w F (q + 1) v xs
  nF : ¬ F q

/-- What At hands back: a place where the number stands, or -1. -/
def AtPost (xs : List (Int × Letter)) (k : Int) (w : World) : Ending → World → Prop := fun e w' => w' = w ∧ ((∃ (j : Nat) (x : Int × Letter), e = .returned (.int .i64 j) ∧ xs[j]? = some x ∧ x.1 = k) ∨ (e = .returned (.int .i64 (-1)) ∧ ∀ x ∈ xs, x.1 ≠ k))

set_option maxHeartbeats 1000000 in
theorem at_calls {F : Nat → Prop} {q last : Nat} {v : Value} {xs : List (Int × Letter)} (w : World) (h : RefM w F q v xs last) (k : Int) :
    Calls Try.prog 17 #[.pointer (some ⟨q, 0, none⟩), .int .i64 k] w (AtPost xs k w) := by
  have d0 := blk_cell h.blk 0
  simp only [List.getElem?_toArray, List.getElem?_cons_zero] at d0
  have hS := h.own.sl
  obtain ⟨A, c, rfl, hc, hn⟩ := h.own.form
  obtain ⟨n, hl⟩ : ∃ n, n = xs.length := ⟨_, rfl⟩
  rw [← hl] at hc hn hS d0
  have Hl := Lib.hid hl
  clear hl h
  go_enter Try.func17, Try.ntmps17
  go_wp2
  go_loop [5] (fun i => ∃ j : Nat, j ≤ n ∧ i = .int .i64 j ∧ Hid (∀ x ∈ xs.take j, x.1 ≠ k)) (fun i => n - (intOf i).toNat)
  case atStart => exact ⟨0, by omega, rfl, by simp [Hid]⟩
  case round =>
    obtain ⟨j, hj, rfl, Hno⟩ := hrel
    by_cases hlt : j < n
    · obtain ⟨b, o, x, pv, iv, rfl, hb, hx, hL, hcell⟩ := hS.atSent hlt
      have d1 := hcell 0 _ rfl
      rw [Nat.add_zero] at d1
      have Hx := Lib.hid hx
      clear hx hcell hL
      by_cases he : x.1 = k
      · go_wp2
        go_ret
        exact ⟨rfl, .inl ⟨j, x, rfl, Hx.out, he⟩⟩
      · go_wp2
        go_round
        case rel => exact ⟨j + 1, by omega, by go_num, by rw [Hid, List.take_add_one, Hx.out]; intro y hy; rcases List.mem_append.1 hy with hy | hy; exact Hno.out y hy; simp at hy; subst hy; exact he⟩
        case measure => simp [intOf]; omega
    · have hkn : j = n := by omega
      have hfl : xs.take j = xs := by rw [hkn, Hl.out]; exact List.take_length
      rw [hfl] at Hno
      clear hkn hfl
      go_wp2
      go_ret
      exact ⟨rfl, .inr ⟨rfl, Hno.out⟩⟩
end Go.Proofs.Ytmimncinnflfkaa
