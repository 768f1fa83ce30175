/- Layer 14, the statement's first part: what the document tells. -/
import Derived.Test.YtmimncinnflfkaaNet4
set_option linter.all false
namespace Go.Proofs.Ytmimncinnflfkaa
open Go.RowKit
set_option maxRecDepth 100000

def letA : Letter := { Letter.zero with s := ⟨#[97]⟩ }
theorem letA_small : letA.small := ⟨by decide, by decide, fun s hs => by
  have h : letA.alls = [⟨#[97]⟩, ⟨#[]⟩, ⟨#[]⟩] := rfl
  rw [h] at hs
  simp only [List.mem_cons, List.not_mem_nil, or_false] at hs
  rcases hs with rfl | rfl | rfl <;> decide⟩
theorem numL_small {n : Int} (h : n < 128) : numL n = 1 := by
  unfold numL
  rw [numB_small (by omega)]
  rfl
theorem letA_err : letA.err = 0 := by
  refine Letter.err_ok (by decide) ?_
  have h1 : letA.size ≤ 100 := by
    show numL 0 + ([0, 0, 0, 0, 0, 0].map numL).sum + (numL 0 + numL (bitI false)) + ([(⟨#[97]⟩ : ByteArray), ⟨#[]⟩, ⟨#[]⟩].map textL).sum + numL 0 + 0 + numL 0 + 0 ≤ 100
    simp only [List.map_cons, List.map_nil, List.sum_cons, List.sum_nil, textL, numL_small (show (0 : Int) < 128 by decide), numL_small (show bitI false < 128 by decide)]
    have a1 : (⟨#[97]⟩ : ByteArray).size = 1 := rfl
    have a2 : (⟨#[]⟩ : ByteArray).size = 0 := rfl
    rw [a1, a2]
    simp only [numL_small (show ((1 : Nat) : Int) < 128 by decide), numL_small (show ((0 : Nat) : Int) < 128 by decide)]
    omega
  rintro (h | h | h)
  · exact absurd h (by decide)
  · exact absurd h (by decide)
  · omega
theorem letA_in (w : World) : LetIn w (fun _ => False) letA (.slice none 0 0) (.slice none 0 0) := ⟨Sl.nil _ _ _, Sl.nil _ _ _⟩

set_option maxHeartbeats 2000000 in
theorem awake14_calls (w : World) : Calls Try.prog 5 #[] w (Ret w (.bool true)) := by
  go_enter Try.func5, Try.ntmps5
  go_wp2_with fail
  refine (new_calls w).mono ?_
  rintro e w1 ⟨rfl, hN, hE⟩
  go_wp2_with fail
  refine (send_calls w1 hN (by omega) (by simp) letA (letA_in _) letA_small ⟨fun h => h, fun h => h⟩).mono ?_
  rintro e w2 (⟨_, rfl, ⟨pv, iv, hN2⟩, hU2⟩ | ⟨hne, _⟩)
  case inr => exact absurd letA_err hne
  go_wp2_with fail
  refine (twice_calls w2 hN2 (by omega) (by simp) 1 (by decide)).mono ?_
  rintro e w3 (⟨r, hr, _, rfl, ⟨pa, ia, hN3⟩, hU3⟩ | ⟨hne, _⟩)
  case inr => exact absurd rfl (hne ⟨((0 : Nat) : Int) + 1, letA, pv, iv⟩ (by simp))
  have hrl : r.l = letA := by
    simp at hr
    rw [hr]
  rw [hrl] at hN3
  clear hrl hr
  go_wp2_with fail
  refine (deliver_calls w3 hN3 1 (by decide)).mono ?_
  rintro e w4 (⟨r4, hr4, hk4, rfl, hN4, hU4⟩ | ⟨hne, _⟩)
  case inr => exact absurd rfl (hne ⟨((0 : Nat) : Int) + 1, letA, pv, iv⟩ (by simp))
  obtain ⟨q1, q2, q3⟩ := hN3.rows r4 hr4
  have hrl : r4.l = letA := by
    simp at hr4
    rcases hr4 with rfl | rfl <;> rfl
  obtain ⟨rs4, hrs4, hlen⟩ : ∃ rs4 : List Row, NetM w4 (Fx (Fx (fun x => False) w1 w2) w2 w3) (w.heap.size + 1) w.heap.size rs4 (0 + 1 + 1) ∧ rs4.length = 1 := by
    refine ⟨_, hN4, ?_⟩
    rw [hk4]
    rfl
  have hE4 : Ext w w4 := hU4.ext (hU3.ext (hU2.ext hE (fun k hk => by omega)) (fun k hk => by omega)) (fun k hk => by omega)
  obtain ⟨n4, l4, p4, i4⟩ := r4
  dsimp only at hrl q3 ⊢
  subst hrl
  obtain ⟨A1, c1, rfl, _, _⟩ := q3.pairs.form
  obtain ⟨A2, c2, rfl, _, _⟩ := q3.intents.form
  have hs : letA.s.toList = [97] := ByteArray.toList_eq _
  have Hlen := Lib.hid hlen
  clear hlen hN4 hr4 q1 q2 q3 hk4 hN3 hN2 hN hU2 hU3 hU4 hE
  go_wp2_with (go_at_call 21; refine (len_calls _ (hrs4.ext ((Ext.refl w4).alloc _))).mono ?_; rintro e w5 ⟨rfl, rfl⟩; rw [Hlen.out])
  go_ret
  exact ⟨rfl, hE4.alloc _⟩
end Go.Proofs.Ytmimncinnflfkaa
