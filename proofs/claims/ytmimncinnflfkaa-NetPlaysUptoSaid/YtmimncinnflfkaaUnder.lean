/- Layer 14 (net): Under: the numbers of the letters under way, by rising numbers. -/
import Derived.Test.YtmimncinnflfkaaNet4
import Derived.Test.YtmimncinnflfkaaLaidA
set_option linter.all false
namespace Go.Proofs.Ytmimncinnflfkaa
open Go.RowKit Go.Maps Go.Sort Go.Shelf
set_option maxRecDepth 100000

theorem sortsA (m : Nat) : AnyZI.SortsIn Try.prog Try.sortedA_ren Fence.wide m :=
  ⟨fun blk off cap ss W hH hblk hsz => callsIn_wide.2 (AnyM.slices_Sort_int Try.sortA blk off cap ss W hH hblk hsz),
   fun p cap W => callsIn_wide.2 (AnyM.slices_Sort_int_none Try.sortA p cap W)⟩

theorem intKeys_dmap (es : List (Int × Value)) : intKeys (dmap es) = es.map (·.1) := by
  rw [dmap]
  show List.map _ _ = _
  rw [List.map_map]
  rfl
theorem sort_rising {xs ss : List Int} (hx : xs.Pairwise (· < ·)) (hp : ss.Perm xs) : ss.mergeSort (fun x y => decide (x ≤ y)) = xs := by
  have h1 : (ss.mergeSort (fun x y => decide (x ≤ y))).Pairwise (fun x y => decide (x ≤ y) = true) := List.pairwise_mergeSort (by intro a b c; simp; omega) (by intro a b; simp; omega) ss
  have h2 : xs.Pairwise (fun x y => decide (x ≤ y) = true) := hx.imp (fun h => by simp; omega)
  exact ((List.mergeSort_perm ss _).trans hp).eq_of_pairwise (fun a b _ _ h h' => by simp at h h'; omega) h1 h2

set_option maxHeartbeats 1000000 in
theorem under_calls {F : Nat → Prop} {p mb last : Nat} {rs : List Row} (w : World) (h : NetM w F p mb rs last) (hrs : rs.length ≤ 4096) :
    Calls Try.prog 19 #[.pointer (some ⟨p, 0, none⟩)] w (RetOwn (tInt .i64) 3 w (rs.map (·.n))) := by
  obtain ⟨d0, _⟩ := h.cells
  have hown := h.map.2
  have hr := h.map.1
  have hk : intKeys (dmap (rs.map Row.ent)) = rs.map (·.n) := by rw [intKeys_dmap, List.map_map]; rfl
  have hrise : (rs.map (·.n)).Pairwise (· < ·) := by
    have := List.Pairwise.map (R := fun p q : Int × Value => p.1 < q.1) (S := fun x y : Int => x < y) (·.1) (fun _ _ h => h) hr
    rw [List.map_map] at this
    exact this
  have hsz : Maps.size (dmap (rs.map Row.ent)) = rs.length := by rw [size_dmap, List.length_map]
  refine (callsIn_wide (n := 6)).1 ?_
  have hbl := hown.lt
  have hseq : SeqGives Fence.wide 2 Try.prog 62 #[.pointer (some ⟨w.heap.size, 0, none⟩)] encZ (fun ss => ss.Perm (intKeys (dmap (rs.map Row.ent)))) (Maps.size (dmap (rs.map Row.ent))) (w.alloc (.cells #[.map (some mb)] 75)) :=
    AnyZI.keys_gives (ρ := Try.keysA_ren) { Try.keysA with } Fence.wide _ trivial rfl (by omega) w.heap.size mb last _ _ (by simp) (by simp) (by
      obtain ⟨es, clock, hb, Ft, hs, hD⟩ := hown
      exact ⟨es, clock, (Below.heap_alloc _ _ mb hbl).trans hb, Ft, hs, hD⟩)
  have cK : ∀ m W, CallsIn Fence.wide 5 Try.prog 40 #[.map m] W fun e w' => e = .returned (.func (.func 62) #[] #[.pointer (some ⟨W.heap.size, 0, none⟩)]) ∧ w' = W.alloc (.cells #[.map m] 75) := fun m W => AnyZI.keys_in Try.keysA Fence.wide 5 trivial rfl m W
  have cS := AnyZI.sorted_in Try.sortedA Fence.wide 5 trivial trivial trivial trivial rfl (by omega) (sortsA _) (enters_of Try.func61 (by kernel_rfl) rfl) 62 #[.pointer (some ⟨w.heap.size, 0, none⟩)] trivial (enters_of Try.func62 (by kernel_rfl) rfl) _ _ (by rw [hsz]; simp only [maxLen]; omega) (by rw [hsz]; omega) _ hseq
  change CallsIn _ _ Try.prog 39 _ _ _ at cS
  have hfK : Fence.wide.fn 40 := trivial
  have hfS : Fence.wide.fn 39 := trivial
  have Hk := Lib.hid hk
  have Hr := Lib.hid hrise
  clear hk hrise hsz hr hown h
  refine callsIn_of_wp Try.func19 rfl trivial ?_ rfl
  simp only [Try.ntmps19, List.size_toArray, List.length_cons, List.length_nil, Nat.reduceAdd, Nat.reduceSub, Array.replicate_succ, Array.replicate_zero, List.push_toArray, List.append_toArray, List.nil_append, List.cons_append]
  gi_wp2_with (first
    | (gi_at_call 40; refine (cK _ _).mono ?_; rintro e w' ⟨rfl, rfl⟩)
    | (gi_at_call 39; refine cS.mono ?_; rintro e w' ⟨v, ss, rfl, hS, hrow, hnil, hb⟩))
  go_ret
  rw [Hk.out] at hS
  rw [sort_rising Hr.out hS] at hrow
  have hl : ss.length = (rs.map (·.n)).length := hS.length_eq
  rw [hl] at hrow
  exact ⟨v, rfl, nums_own _ (ownsRow_base_a hrow (by simp)), ((Below.refl _ w).alloc (Nat.le_refl _) _).trans (hb.mono (by simp))⟩
end Go.Proofs.Ytmimncinnflfkaa
