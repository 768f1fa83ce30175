/- Words of this seat's proofs, third part: structs loaded and stored whole, at operations. No program is named here. -/
import Derived.Test.YtmimncinnflfkaaCore
import Derived.Deep.MidRow
import Derived.Deep.WholeRow
set_option linter.all false
namespace Go.Proofs.Ytmimncinnflfkaa
open Go.RowKit

section
variable {P : Program} {ops : Array Oper} {rest : List Oper} {o : Oper} {a : Act} {Q : Exit → Act → World → Prop} {w : World}

/-- A range of a block that is known whole. -/
theorem rng_blk {g : Nat} {cs : Array Value} {t : TypeId} {fr : Nat × Nat} (h : w.heap[g]? = some (.cells cs t fr)) (off : Nat) (xs : List Value) (hx : ∀ j v, xs[j]? = some v → cs[off + j]? = some v) : w.rangeAt g off xs :=
  fun j v hv => by rw [blk_cell h]; exact hx j v hv
theorem rng_ext {w' : World} {b off : Nat} {cs : List Value} (h : w.rangeAt b off cs) (he : Ext w w') : w'.rangeAt b off cs := fun j v hv => he.cell (h j v hv)
theorem rng_upd {S : Nat → Prop} {w' : World} {b off : Nat} {cs : List Value} (h : w.rangeAt b off cs) (he : Upd S w w') (hS : ¬ S b) : w'.rangeAt b off cs := fun j v hv => he.cell (h j v hv) hS

/-- load of a struct: its cells lie in a range. -/
theorem ld_at (hgd : o.guard = none) (ty : TypeId) (x : Operand) (ho : o.op = .load ty x) (b off : Nat) (hx : a.eval x = .pointer (some ⟨b, off, none⟩)) (cs : Array Value) (d : TypeDesc) (hc : w.rangeAt b off cs.toList)
    (hu : P.underlying ty = some d) (hd : d.isRow = true) (hi : (P.info? ty).map (·.size) = some cs.size) (h : wpList P ops Q rest (a.put o.dst (.agg cs)) w) : wpList P ops Q (o :: rest) a w :=
  wpList_load_mid hgd ty x ho b off hx cs.toList d hc hu hd (by simpa using hi) (by simpa using h)
/-- store of a struct into the block that was made last. -/
theorem st_new (hgd : o.guard = none) (ty : TypeId) (x y : Operand) (ho : o.op = .store ty x y) (cs zs : Array Value) (hx : a.eval x = .pointer (some ⟨w.heap.size, 0, none⟩)) (hy : a.eval y = .agg cs)
    (hi : (P.info? ty).map (·.size) = some cs.size) (hz : zs.size = cs.size) (h1 : cs.all (·.oneCell') = true) (h : wpList P ops Q rest (a.put o.dst undef) (w.alloc (.cells cs ty))) : wpList P ops Q (o :: rest) a (w.alloc (.cells zs ty)) := by
  refine wpList_store_row hgd ty x y ho w.heap.size cs hx hy ty zs (heap_alloc_last w _) hi hz h1 ?_
  rw [World.setRow_alloc_new]
  exact h
/-- store of a struct into a block of its own. -/
theorem st_blk (hgd : o.guard = none) (ty : TypeId) (x y : Operand) (ho : o.op = .store ty x y) (g : Nat) (cs zs : Array Value) (hx : a.eval x = .pointer (some ⟨g, 0, none⟩)) (hy : a.eval y = .agg cs) {t : TypeId}
    (hg : w.heap[g]? = some (.cells zs t (0, 0))) (hi : (P.info? ty).map (·.size) = some cs.size) (hz : zs.size = cs.size) (h1 : cs.all (·.oneCell') = true)
    (h : ∀ w', w'.heap[g]? = some (.cells cs t (0, 0)) → Upd (fun k => k = g) w w' → w'.heap.size = w.heap.size → wpList P ops Q rest (a.put o.dst undef) w') : wpList P ops Q (o :: rest) a w := by
  refine wpList_store_row hgd ty x y ho g cs hx hy t zs hg hi hz h1 (h _ ?_ ?_ ?_)
  · have hlt := blk_lt hg
    have h' : w.heap[g] = .cells zs t (0, 0) := by simpa [Array.getElem?_eq_getElem hlt] using hg
    show (w.heap.modify g _)[g]? = _
    rw [Array.getElem?_eq_getElem (by simpa using hlt), Array.getElem_modify_self, h']
  · refine ⟨rfl, rfl, rfl, by simp [World.setRow], fun k hk hn => ?_⟩
    show (w.heap.modify g _)[k]? = _
    rw [Array.getElem?_modify, if_neg (fun e => hn e.symm)]
  · simp [World.setRow]
end
end Go.Proofs.Ytmimncinnflfkaa
