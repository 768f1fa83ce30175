/- A map with int keys: its entries by rising keys; the values as they lie. -/
import Derived.Test.YtmimncinnflfkaaCore
import Derived.Test.YtmimncinnflfkaaProg
import Derived.Maps.OwnSet
import Derived.Maps.Keyed
set_option linter.all false
namespace Go.Proofs.Ytmimncinnflfkaa
open Go.RowKit

/-- The datum of a map whose values stand for themselves. -/
def dmap (es : List (Int × Value)) : DataW Value := .map (es.map fun p => (Lit.int .i64 p.1, .held p.2))
def RV : Value → Option (DataW Value × List MemPlace) := fun v => some (.held v, [])
def Rising (es : List (Int × Value)) : Prop := es.Pairwise (fun p q => p.1 < q.1)

theorem sameKey_int (a b : Int) : (Lit.int .i64 a).sameKey (.int .i64 b) = decide (a = b) := by simp [Lit.sameKey]
theorem has_dmap (es : List (Int × Value)) (k : Int) : Maps.has (dmap es) (.int .i64 k) = es.any (fun p => decide (p.1 = k)) := by
  rw [dmap, Maps.has_eq, List.any_map]
  congr 1
  funext p
  exact sameKey_int _ _
theorem size_dmap (es : List (Int × Value)) : Maps.size (dmap es) = es.length := by rw [dmap, Maps.size_eq, List.length_map]
theorem del_dmap (es : List (Int × Value)) (k : Int) : (dmap es).del (.int .i64 k) = dmap (es.filter (fun p => !decide (p.1 = k))) := by
  rw [dmap, DataW.del_eq, dmap, ChangeMaps.delKey, List.filter_map]
  congr 2
  apply List.filter_congr
  intro p _
  simp [ChangeMaps.notKey, Lit.sameKey]
theorem atKey_dmap_some {es : List (Int × Value)} (hr : Rising es) {k : Int} {v : Value} (h : (k, v) ∈ es) (z : DataW Value) : (dmap es).atKey (.int .i64 k) z = .held v := by
  rw [dmap, DataW.atKey]
  simp only [List.find?_map]
  induction es with
  | nil => simp at h
  | cons p r ih =>
    rw [List.find?_cons]
    have hp := List.pairwise_cons.1 hr
    rcases List.mem_cons.1 h with rfl | h
    · simp [Lit.sameKey]
    · have := hp.1 _ h
      have hne : ¬ p.1 = k := by simp at this; omega
      simp only [Function.comp, Lit.sameKey, hne, and_false, decide_false]
      exact ih hp.2 h
theorem atKey_dmap_none {es : List (Int × Value)} {k : Int} (h : ∀ p ∈ es, p.1 ≠ k) (z : DataW Value) : (dmap es).atKey (.int .i64 k) z = z := by
  rw [dmap, DataW.atKey]
  simp only [List.find?_map]
  have : es.find? ((fun p => p.1.sameKey (Lit.int IntKind.i64 k)) ∘ fun p => (Lit.int IntKind.i64 p.1, DataW.held p.2)) = none := by
    rw [List.find?_eq_none]
    intro p hp
    simp [Lit.sameKey, h p hp]
  rw [this]
  rfl
theorem insert_last {es : List (Int × Value)} {k : Int} (v : Value) (h : ∀ p ∈ es, p.1 < k) :
    DataW.insert (Lit.int .i64 k, .held v) (es.map fun p => (Lit.int .i64 p.1, DataW.held p.2)) = (es ++ [(k, v)]).map fun p => (Lit.int .i64 p.1, DataW.held p.2) := by
  induction es with
  | nil => rfl
  | cons p r ih =>
    have := h p (by simp)
    rw [List.map_cons, DataW.insert]
    rw [if_neg (by simp [Lit.before]; omega), ih (fun q hq => h q (by simp [hq]))]
    rfl
theorem put_dmap {es : List (Int × Value)} {k : Int} (v : Value) (h : ∀ p ∈ es, p.1 < k) : (dmap es).put (.int .i64 k) (.held v) = dmap (es ++ [(k, v)]) := by
  rw [dmap, DataW.put_eq, ChangeMaps.putKey]
  have : (es.map fun p => (Lit.int .i64 p.1, DataW.held p.2)).filter (ChangeMaps.notKey (Lit.int .i64 k)) = es.map fun p => (Lit.int .i64 p.1, DataW.held p.2) := by
    rw [List.filter_eq_self]
    intro q hq
    obtain ⟨p, hp, rfl⟩ := List.mem_map.1 hq
    have := h p hp
    simp [ChangeMaps.notKey, Lit.sameKey]
    omega
  rw [this, insert_last v h, dmap]

theorem keyedI : Maps.Keyed Try.prog 3 := Maps.int_keyed Try.underlying3

/-- Block b is a map of these entries; it has never had more than n. -/
def MapI (w : World) (b n : Nat) (es : List (Int × Value)) : Prop := Rising es ∧ w.ownsMap Try.prog 3 RV b n (dmap es)
theorem MapI.move {w w' : World} {b n : Nat} {es : List (Int × Value)} (h : MapI w b n es) (hb : w'.heap[b]? = w.heap[b]?) : MapI w' b n es := by
  obtain ⟨h1, a, c, h2, rest⟩ := h
  exact ⟨h1, a, c, hb.trans h2, rest⟩
theorem MapI.lt {w : World} {b n : Nat} {es : List (Int × Value)} (h : MapI w b n es) : b < w.heap.size := by
  obtain ⟨h1, a, c, h2, rest⟩ := h
  exact blk_lt h2
theorem MapI.ext {w w' : World} {b n : Nat} {es : List (Int × Value)} (h : MapI w b n es) (he : Ext w w') : MapI w' b n es := h.move (he.block b h.lt)
theorem MapI.upd {S : Nat → Prop} {w w' : World} {b n : Nat} {es : List (Int × Value)} (h : MapI w b n es) (he : Upd S w w') (hS : ¬ S b) : MapI w' b n es := h.move (he.block b h.lt hS)
end Go.Proofs.Ytmimncinnflfkaa
