/- Words of this seat's proofs: how data lies in memory (with the blocks that it lies in), what a call may have turned, and what the built-in append does to a slice of the call's own. No program is named here. -/
import Derived.WalkKit
import Derived.ProofKit
import Derived.Maps.AppendAt
import Derived.Lib.Hide
import Derived.Deep.Draws
import Derived.Deep.QuietTactic
import Derived.BigQuiet
import Derived.Deep.RegionHeld3
set_option linter.all false
namespace Go.Proofs.Ytmimncinnflfkaa
open Go.RowKit

/-! ### what has turned -/
/-- Of the blocks that were there, none but those of S has turned. -/
structure Upd (S : Nat → Prop) (w w' : World) : Prop where
  os : w'.os = w.os
  tape : w'.tape = w.tape
  output : w'.output = w.output
  size : w.heap.size ≤ w'.heap.size
  block : ∀ k, k < w.heap.size → ¬ S k → w'.heap[k]? = w.heap[k]?

/-- Nothing that was there has turned. -/
def Ext (w w' : World) : Prop := Below w.heap.size w w'

theorem Ext.refl (w : World) : Ext w w := Below.refl _ _
theorem Ext.trans {a b c : World} (h : Ext a b) (k : Ext b c) : Ext a c :=
  Below.trans h (Below.mono k h.size)
theorem Ext.sz {a b : World} (h : Ext a b) : a.heap.size ≤ b.heap.size := Below.size h
theorem Ext.alloc {a b : World} (h : Ext a b) (o : Obj) : Ext a (b.alloc o) := Below.alloc h h.sz o
theorem Ext.drew {a b : World} (h : Ext a b) : Ext a b.drew := Below.drew h
theorem Ext.drewN {a b : World} (h : Ext a b) (n : Nat) : Ext a (b.drewN n) := ⟨h.os, h.tape, h.output, h.size, h.block⟩
theorem Ext.setCell {a b : World} (h : Ext a b) {p : Addr} (hp : a.heap.size ≤ p.block) (u : Value) : Ext a (b.setCell p u) := Below.setCell h hp u
theorem Ext.grown {a b c : World} {row : Option Nat} (h : Ext a b) (hg : b.grownBy c row) (hr : ∀ k, row = some k → a.heap.size ≤ k) : Ext a c := Below.grown h hg h.sz hr
theorem Ext.block {a b : World} (h : Ext a b) (k : Nat) (hk : k < a.heap.size) : b.heap[k]? = a.heap[k]? := Below.block h k hk
theorem Ext.cell {a b : World} (h : Ext a b) {p : Addr} {v : Value} (hc : a.cell? p = some v) : b.cell? p = some v :=
  (World.cell?_of_block (h.block _ (World.block_lt_of_cell? a p hc))).trans hc
theorem Ext.below {a b : World} (h : Ext a b) : Below a.heap.size a b := h
theorem Ext.of_same {a b : World} (h : a = b) : Ext a b := h ▸ Ext.refl _
theorem Ext.of_drawn {a b : World} (h : ∃ n, b = a.drewN n) : Ext a b := by obtain ⟨n, rfl⟩ := h; exact (Ext.refl _).drewN n

theorem Upd.of_ext {S : Nat → Prop} {a b : World} (h : Ext a b) : Upd S a b := ⟨h.os, h.tape, h.output, h.size, fun k hk _ => h.block k hk⟩
theorem Upd.refl (S : Nat → Prop) (w : World) : Upd S w w := Upd.of_ext (Ext.refl _)
theorem Upd.trans {S S' : Nat → Prop} {a b c : World} (h : Upd S a b) (k : Upd S' b c) (hs : ∀ i, i < a.heap.size → S' i → S i) : Upd S a c :=
  ⟨k.os.trans h.os, k.tape.trans h.tape, k.output.trans h.output, Nat.le_trans h.size k.size, fun i hi hn => (k.block i (Nat.lt_of_lt_of_le hi h.size) (fun h' => hn (hs i hi h'))).trans (h.block i hi hn)⟩
theorem Upd.mono {S S' : Nat → Prop} {a b : World} (h : Upd S a b) (hs : ∀ i, i < a.heap.size → S i → S' i) : Upd S' a b :=
  ⟨h.os, h.tape, h.output, h.size, fun i hi hn => h.block i hi (fun h' => hn (hs i hi h'))⟩
theorem Upd.ext {S : Nat → Prop} {w a b : World} (h : Upd S a b) (h0 : Ext w a) (hs : ∀ i, S i → w.heap.size ≤ i) : Ext w b :=
  ⟨h.os.trans h0.os, h.tape.trans h0.tape, h.output.trans h0.output, Nat.le_trans h0.size h.size, fun k hk => (h.block k (Nat.lt_of_lt_of_le hk h0.size) (fun h' => by have := hs k h'; omega)).trans (h0.block k hk)⟩
theorem Upd.of_grown {a b : World} {row : Option Nat} (h : a.grownBy b row) : Upd (fun k => row = some k) a b :=
  ⟨h.os, h.tape, h.output, h.size, fun k hk hn => h.block k hk (fun e => hn e.symm)⟩
theorem Upd.setCell {S : Nat → Prop} {a b : World} (h : Upd S a b) {p : Addr} (hp : S p.block ∨ a.heap.size ≤ p.block) (u : Value) : Upd S a (b.setCell p u) :=
  ⟨h.os, h.tape, h.output, by simpa [World.setCell] using h.size, fun k hk hn => by
    rw [Below.heap_setCell _ _ _ _ (fun e => by subst e; rcases hp with hp | hp; exact hn hp; omega)]; exact h.block k hk hn⟩
theorem Upd.alloc {S : Nat → Prop} {a b : World} (h : Upd S a b) (o : Obj) : Upd S a (b.alloc o) :=
  h.trans (S' := S) (Upd.of_ext ((Ext.refl b).alloc o)) (fun _ _ h => h)
theorem Upd.drewN {S : Nat → Prop} {a b : World} (h : Upd S a b) (n : Nat) : Upd S a (b.drewN n) := ⟨h.os, h.tape, h.output, h.size, h.block⟩
theorem Upd.cell {S : Nat → Prop} {a b : World} (h : Upd S a b) {p : Addr} {v : Value} (hc : a.cell? p = some v) (hp : ¬ S p.block) : b.cell? p = some v :=
  (World.cell?_of_block (h.block _ (World.block_lt_of_cell? a p hc) hp)).trans hc

/-! ### data in memory -/
/-- A kind of data: how many cells it takes, which cells tell it (with the blocks, among those of F, that it leads to). -/
structure Ty (α : Type) where
  sz : Nat
  pos : 0 < sz
  K : World → (Nat → Prop) → α → List Value → Prop
  len : ∀ {w F x cs}, K w F x cs → cs.length = sz
  one : ∀ {w F x cs}, K w F x cs → ∀ v ∈ cs, v.oneCell' = true
  mono : ∀ {w F F' x cs}, K w F x cs → (∀ k, F k → F' k) → K w F' x cs
  move : ∀ {w w' F x cs}, K w F x cs → (∀ k, F k → k < w.heap.size → w'.heap[k]? = w.heap[k]?) → K w' F x cs
  bnd : ∀ {w F x cs}, K w F x cs → K w (fun k => F k ∧ k < w.heap.size) x cs

def tInt (k : IntKind) : Ty Int where
  sz := 1
  pos := by omega
  K := fun _ _ x cs => cs = [.int k x]
  len := by intro _ _ _ _ h; subst h; rfl
  one := by intro _ _ _ _ h; subst h; simp [Value.oneCell']
  mono := fun h _ => h
  move := fun h _ => h
  bnd := fun h => h
def tBool : Ty Bool where
  sz := 1
  pos := by omega
  K := fun _ _ x cs => cs = [.bool x]
  len := by intro _ _ _ _ h; subst h; rfl
  one := by intro _ _ _ _ h; subst h; simp [Value.oneCell']
  mono := fun h _ => h
  move := fun h _ => h
  bnd := fun h => h
def tStr : Ty ByteArray where
  sz := 1
  pos := by omega
  K := fun _ _ x cs => cs = [.string x]
  len := by intro _ _ _ _ h; subst h; rfl
  one := by intro _ _ _ _ h; subst h; simp [Value.oneCell']
  mono := fun h _ => h
  move := fun h _ => h
  bnd := fun h => h
def tPair {α β : Type} (a : Ty α) (b : Ty β) : Ty (α × β) where
  sz := a.sz + b.sz
  pos := by have := a.pos; omega
  K := fun w F x cs => ∃ c d, cs = c ++ d ∧ a.K w F x.1 c ∧ b.K w F x.2 d
  len := by rintro _ _ _ _ ⟨c, d, rfl, h1, h2⟩; simp [a.len h1, b.len h2]
  one := by
    rintro _ _ _ _ ⟨c, d, rfl, h1, h2⟩ v hv
    rcases List.mem_append.1 hv with hv | hv
    · exact a.one h1 v hv
    · exact b.one h2 v hv
  mono := by rintro _ _ _ _ _ ⟨c, d, rfl, h1, h2⟩ hF; exact ⟨c, d, rfl, a.mono h1 hF, b.mono h2 hF⟩
  move := by rintro _ _ _ _ _ ⟨c, d, rfl, h1, h2⟩ hF; exact ⟨c, d, rfl, a.move h1 hF, b.move h2 hF⟩
  bnd := by rintro _ _ _ _ ⟨c, d, rfl, h1, h2⟩; exact ⟨c, d, rfl, a.bnd h1, b.bnd h2⟩
def tIso {α β : Type} (a : Ty α) (f : β → α) : Ty β where
  sz := a.sz
  pos := a.pos
  K := fun w F x cs => a.K w F (f x) cs
  len := fun h => a.len h
  one := fun h => a.one h
  mono := fun h => a.mono h
  move := fun h => a.move h
  bnd := fun h => a.bnd h

/-- v is a slice that reads as xs; its cells and what they lead to lie in blocks of F. -/
def Sl {α : Type} (d : Ty α) (w : World) (F : Nat → Prop) (v : Value) (xs : List α) : Prop :=
  ∃ A c, v = .slice A xs.length c ∧ xs.length ≤ c ∧ xs.length ≤ 9223372036854775807 ∧
    (0 < xs.length → ∃ b o, A = some ⟨b, o, none⟩ ∧ F b ∧ b < w.heap.size ∧ ∀ i x, xs[i]? = some x → ∃ cs, d.K w F x cs ∧ ∀ j u, cs[j]? = some u → w.cell? ⟨b, o + i * d.sz + j, none⟩ = some u)

section
variable {α : Type} {d : Ty α} {w w' : World} {F F' : Nat → Prop} {v : Value} {xs : List α}
theorem Sl.nil (d : Ty α) (w : World) (F : Nat → Prop) : Sl d w F (.slice none 0 0) [] := ⟨none, 0, rfl, by simp, by simp, fun h => by simp at h⟩
theorem Sl.mono (h : Sl d w F v xs) (hF : ∀ k, F k → F' k) : Sl d w F' v xs := by
  obtain ⟨A, c, rfl, h1, h2, h3⟩ := h
  refine ⟨A, c, rfl, h1, h2, fun hn => ?_⟩
  obtain ⟨b, o, hA, hb, hlt, hc⟩ := h3 hn
  exact ⟨b, o, hA, hF b hb, hlt, fun i x hx => let ⟨cs, k, r⟩ := hc i x hx; ⟨cs, d.mono k hF, r⟩⟩
theorem Sl.move (h : Sl d w F v xs) (hm : ∀ k, F k → k < w.heap.size → w'.heap[k]? = w.heap[k]?) : Sl d w' F v xs := by
  obtain ⟨A, c, rfl, h1, h2, h3⟩ := h
  refine ⟨A, c, rfl, h1, h2, fun hn => ?_⟩
  obtain ⟨b, o, hA, hb, hlt, hc⟩ := h3 hn
  have hbb := hm b hb hlt
  have hlt' : b < w'.heap.size := by
    rw [Array.getElem?_eq_getElem hlt] at hbb
    exact (Array.getElem?_eq_some_iff.1 hbb).1
  exact ⟨b, o, hA, hb, hlt', fun i x hx => let ⟨cs, k, r⟩ := hc i x hx; ⟨cs, d.move k hm, fun j u hu => (World.cell?_of_block hbb).trans (r j u hu)⟩⟩
theorem Sl.bnd (h : Sl d w F v xs) : Sl d w (fun k => F k ∧ k < w.heap.size) v xs := by
  obtain ⟨A, c, rfl, h1, h2, h3⟩ := h
  refine ⟨A, c, rfl, h1, h2, fun hn => ?_⟩
  obtain ⟨b, o, hA, hb, hlt, hc⟩ := h3 hn
  exact ⟨b, o, hA, ⟨hb, hlt⟩, hlt, fun i x hx => let ⟨cs, k, r⟩ := hc i x hx; ⟨cs, d.bnd k, r⟩⟩
theorem Sl.ext (h : Sl d w F v xs) (he : Ext w w') : Sl d w' F v xs := h.move (fun k _ hk => he.block k hk)
theorem Sl.upd {S : Nat → Prop} (h : Sl d w F v xs) (he : Upd S w w') (hS : ∀ k, k < w.heap.size → F k → ¬ S k) : Sl d w' F v xs := h.move (fun k hF hk => he.block k hk (hS k hk hF))
theorem Sl.form (h : Sl d w F v xs) : ∃ A c, v = .slice A xs.length c ∧ xs.length ≤ c ∧ xs.length ≤ 9223372036854775807 := by
  obtain ⟨A, c, rfl, h1, h2, _⟩ := h
  exact ⟨A, c, rfl, h1, h2⟩
theorem Sl.len {A : Option Addr} {n c : Nat} (h : Sl d w F (.slice A n c) xs) : n = xs.length ∧ n ≤ c ∧ n ≤ 9223372036854775807 := by
  obtain ⟨A', c', e, h1, h2, _⟩ := h
  injection e with e1 e2 e3
  subst e2 e3
  exact ⟨rfl, h1, h2⟩
/-- Element k. -/
theorem Sl.at {A : Option Addr} {n c k : Nat} (h : Sl d w F (.slice A n c) xs) (hk : k < n) :
    ∃ b o x cs, A = some ⟨b, o, none⟩ ∧ F b ∧ xs[k]? = some x ∧ d.K w F x cs ∧ ∀ j u, cs[j]? = some u → w.cell? ⟨b, o + k * d.sz + j, none⟩ = some u := by
  obtain ⟨A', c', e, h1, h2, h3⟩ := h
  injection e with e1 e2 e3
  subst e1 e2 e3
  obtain ⟨b, o, hA, hb, hlt, hc⟩ := h3 (by omega)
  obtain ⟨cs, hK, hcs⟩ := hc k _ (List.getElem?_eq_getElem hk)
  exact ⟨b, o, _, cs, hA, hb, List.getElem?_eq_getElem hk, hK, hcs⟩
/-- Element k of one cell. -/
theorem Sl.at1 {A : Option Addr} {n c k : Nat} (h : Sl d w F (.slice A n c) xs) (h1 : d.sz = 1) (hk : k < n) :
    ∃ b o x u, A = some ⟨b, o, none⟩ ∧ F b ∧ xs[k]? = some x ∧ d.K w F x [u] ∧ w.cell? ⟨b, o + k, none⟩ = some u := by
  obtain ⟨b, o, x, cs, hA, hb, hx, hK, hc⟩ := h.at hk
  have hl := d.len hK
  rw [h1] at hl hc
  obtain ⟨u, rfl⟩ := List.length_eq_one_iff.1 hl
  refine ⟨b, o, x, u, hA, hb, hx, hK, ?_⟩
  have := hc 0 u rfl
  rwa [Nat.mul_one, Nat.add_zero] at this
/-- 's[:i]' -/
theorem Sl.take {A : Option Addr} {n c i : Nat} (h : Sl d w F (.slice A n c) xs) (hi : i ≤ n) : Sl d w F (.slice A i c) (xs.take i) := by
  obtain ⟨A', c', e, h1, h2, h3⟩ := h
  injection e with e1 e2 e3
  subst e1 e2 e3
  have hl : (xs.take i).length = i := by simp; omega
  refine ⟨A, c, by rw [hl], by omega, by omega, fun hn => ?_⟩
  obtain ⟨b, o, hA, hb, hlt, hc⟩ := h3 (by omega)
  exact ⟨b, o, hA, hb, hlt, fun j x hx => hc j x (by rw [List.getElem?_take] at hx; split at hx; exact hx; cases hx)⟩
/-- 's[i:]', where an element is left. -/
theorem Sl.drop {b o n c i : Nat} (h : Sl d w F (.slice (some ⟨b, o, none⟩) n c) xs) (hi : i < n) (c' : Nat) (hc' : n - i ≤ c') : Sl d w F (.slice (some ⟨b, o + i * d.sz, none⟩) (n - i) c') (xs.drop i) := by
  obtain ⟨A', c'', e, h1, h2, h3⟩ := h
  injection e with e1 e2 e3
  subst e1 e2 e3
  refine ⟨_, c', by rw [List.length_drop], by rw [List.length_drop]; exact hc', by rw [List.length_drop]; omega, fun hn => ?_⟩
  obtain ⟨b', o', hA, hb, hlt, hc⟩ := h3 (by omega)
  injection hA with hA
  injection hA with hA1 hA2
  subst hA1 hA2
  refine ⟨b, _, rfl, hb, hlt, fun j x hx => ?_⟩
  obtain ⟨cs, hK, hcs⟩ := hc (i + j) x (by rw [List.getElem?_drop] at hx; exact hx)
  refine ⟨cs, hK, fun q u hu => ?_⟩
  have := hcs q u hu
  rwa [Nat.add_mul, ← Nat.add_assoc] at this
/-- No element: whatever address. -/
theorem Sl.empty (d : Ty α) (w : World) (F : Nat → Prop) (A : Option Addr) (c : Nat) : Sl d w F (.slice A 0 c) [] := ⟨A, c, rfl, by simp, by simp, fun h => by simp at h⟩
end

/-- A slice as an element. -/
def tSl {α : Type} (d : Ty α) : Ty (List α) where
  sz := 1
  pos := by omega
  K := fun w F x cs => ∃ v, cs = [v] ∧ Sl d w F v x
  len := by rintro _ _ _ _ ⟨v, rfl, _⟩; rfl
  one := by
    rintro _ _ _ _ ⟨v, rfl, h⟩ u hu
    obtain ⟨A, c, rfl, _⟩ := h.form
    simp at hu; subst hu; rfl
  mono := by rintro _ _ _ _ _ ⟨v, rfl, h⟩ hF; exact ⟨v, rfl, h.mono hF⟩
  move := by rintro _ _ _ _ _ ⟨v, rfl, h⟩ hF; exact ⟨v, rfl, h.move hF⟩
  bnd := by rintro _ _ _ _ ⟨v, rfl, h⟩; exact ⟨v, rfl, h.bnd⟩

/-- Element k of a slice of slices. -/
theorem Sl.atSl {α : Type} {d : Ty α} {w : World} {F : Nat → Prop} {xs : List (List α)} {A : Option Addr} {n c k : Nat} (h : Sl (tSl d) w F (.slice A n c) xs) (hk : k < n) :
    ∃ b o x A' m' c', A = some ⟨b, o, none⟩ ∧ F b ∧ xs[k]? = some x ∧ w.cell? ⟨b, o + k, none⟩ = some (.slice A' m' c') ∧ Sl d w F (.slice A' m' c') x := by
  obtain ⟨b, o, x, u, hA, hb, hx, ⟨v, hu, hv⟩, hc⟩ := h.at1 rfl hk
  injection hu with hu _
  subst hu
  obtain ⟨A', c', rfl, _⟩ := hv.form
  exact ⟨b, o, x, A', _, c', hA, hb, hx, hc, hv⟩

/-! ### a slice of the call's own -/
/-- The cells of a row, element by element. -/
def Reps {α : Type} (d : Ty α) (w : World) (F : Nat → Prop) (xs : List α) (inner : List Value) : Prop :=
  inner.length = xs.length * d.sz ∧ ∀ i x, xs[i]? = some x → d.K w F x ((inner.drop (i * d.sz)).take d.sz)

/-- v is nil or owns its row, in a block from base on; the row reads as xs; what the elements lead to lies in F, and not in the row's block. -/
def Own {α : Type} (d : Ty α) (e : TypeId) (w : World) (F : Nat → Prop) (base : Nat) (v : Value) (xs : List α) : Prop :=
  ∃ inner, w.ownsRow base e d.sz v xs.length inner ∧ Reps d w (fun k => F k ∧ v.ownBlock ≠ some k) xs inner

section
variable {α : Type} {d : Ty α} {e : TypeId} {w w' : World} {F F' : Nat → Prop} {base : Nat} {v : Value} {xs : List α}
theorem Reps.nil (d : Ty α) (w : World) (F : Nat → Prop) : Reps d w F [] [] := ⟨by simp, fun i x h => by simp at h⟩
theorem Reps.mono {inner : List Value} (h : Reps d w F xs inner) (hF : ∀ k, F k → F' k) : Reps d w F' xs inner := ⟨h.1, fun i x hx => d.mono (h.2 i x hx) hF⟩
theorem Reps.move {inner : List Value} (h : Reps d w F xs inner) (hm : ∀ k, F k → k < w.heap.size → w'.heap[k]? = w.heap[k]?) : Reps d w' F xs inner := ⟨h.1, fun i x hx => d.move (h.2 i x hx) hm⟩
theorem Reps.append {ys : List α} {i1 i2 : List Value} (h : Reps d w F xs i1) (k : Reps d w F ys i2) : Reps d w F (xs ++ ys) (i1 ++ i2) := by
  refine ⟨by rw [List.length_append, List.length_append, h.1, k.1, Nat.add_mul], fun i x hx => ?_⟩
  rcases Nat.lt_or_ge i xs.length with hi | hi
  · rw [List.getElem?_append_left hi] at hx
    have := h.2 i x hx
    have hle : (i + 1) * d.sz ≤ xs.length * d.sz := Nat.mul_le_mul_right _ hi
    rw [Nat.add_mul, Nat.one_mul] at hle
    rw [List.drop_append_of_le_length (by rw [h.1]; omega), List.take_append_of_le_length (by rw [List.length_drop, h.1]; omega)]
    exact this
  · rw [List.getElem?_append_right hi] at hx
    have := k.2 _ x hx
    have he : i * d.sz = i1.length + (i - xs.length) * d.sz := by rw [h.1, ← Nat.add_mul]; congr 1; omega
    rw [he, List.drop_append, List.drop_of_length_le (by omega), List.nil_append, Nat.add_sub_cancel_left]
    exact this
theorem Reps.one {x : α} {cs : List Value} (h : d.K w F x cs) : Reps d w F [x] cs := by
  refine ⟨by simp [d.len h], fun i y hy => ?_⟩
  cases i with
  | zero =>
    simp at hy; subst hy
    rw [Nat.zero_mul, List.drop_zero, List.take_of_length_le (by rw [d.len h]; omega)]
    exact h
  | succ i => simp at hy
theorem Own.nil (d : Ty α) (e : TypeId) (w : World) (F : Nat → Prop) (base : Nat) : Own d e w F base (.slice none 0 0) [] := ⟨[], World.ownsRow_nil _ _ _ _, Reps.nil _ _ _⟩
theorem Own.form (h : Own d e w F base v xs) : ∃ A c, v = .slice A xs.length c ∧ xs.length ≤ c ∧ xs.length ≤ 9223372036854775807 := by
  obtain ⟨inner, ho, hr⟩ := h
  rcases ho.2 with ⟨rfl, h0⟩ | ⟨g, cap, cur, rfl, _, _, h1, h2, _⟩
  · exact ⟨none, 0, by rw [h0], by omega, by omega⟩
  · refine ⟨_, cap, rfl, h1, ?_⟩
    simp only [maxLen] at h2
    omega
theorem Own.blk (h : Own d e w F base v xs) : ∀ k, v.ownBlock = some k → base ≤ k ∧ k < w.heap.size := by
  obtain ⟨inner, ho, _⟩ := h
  exact ho.lt
theorem Own.mono (h : Own d e w F base v xs) (hF : ∀ k, F k → F' k) : Own d e w F' base v xs := by
  obtain ⟨inner, ho, hr⟩ := h
  exact ⟨inner, ho, hr.mono (fun k hk => ⟨hF k hk.1, hk.2⟩)⟩
/-- The row and what it leads to are as they were. -/
theorem Own.move (h : Own d e w F base v xs) (hsz : w.heap.size ≤ w'.heap.size) (hm : ∀ k, F k ∨ v.ownBlock = some k → k < w.heap.size → w'.heap[k]? = w.heap[k]?) : Own d e w' F base v xs := by
  obtain ⟨inner, ⟨h1, h2⟩, hr⟩ := h
  refine ⟨inner, ⟨h1, ?_⟩, hr.move (fun k hk => hm k (.inl hk.1))⟩
  rcases h2 with hn | ⟨g, cap, cur, rfl, hb, hg, rest⟩
  · exact .inl hn
  · refine .inr ⟨g, cap, cur, rfl, hb, ?_, rest⟩
    rw [hm g (.inr (by simp [Value.ownBlock])) (Array.getElem?_eq_some_iff.1 hg).1]
    exact hg
theorem Own.ext (h : Own d e w F base v xs) (he : Ext w w') : Own d e w' F base v xs := h.move he.sz (fun k _ hk => he.block k hk)
theorem Own.upd {S : Nat → Prop} (h : Own d e w F base v xs) (he : Upd S w w') (hS : ∀ k, k < w.heap.size → F k ∨ v.ownBlock = some k → ¬ S k) : Own d e w' F base v xs := h.move he.size (fun k hF hk => he.block k hk (hS k hk hF))
theorem Own.low {base' : Nat} (h : Own d e w F base v xs) (hb : base' ≤ base) : Own d e w F base' v xs := by
  obtain ⟨inner, ⟨h1, h2⟩, hr⟩ := h
  refine ⟨inner, ⟨h1, ?_⟩, hr⟩
  rcases h2 with hn | ⟨g, cap, cur, rfl, hb', rest⟩
  · exact .inl hn
  · exact .inr ⟨g, cap, cur, rfl, by omega, rest⟩
/-- What is owned is read. -/
theorem Own.sl (h : Own d e w F base v xs) : Sl d w (fun k => F k ∨ v.ownBlock = some k) v xs := by
  obtain ⟨inner, ho, hr⟩ := h
  rcases ho.2 with ⟨rfl, h0⟩ | ⟨g, cap, cur, rfl, hb, hg, h1, h2, h3, h4⟩
  · exact ⟨none, 0, by rw [h0], by omega, by omega, fun hn => by omega⟩
  · simp only [maxLen] at h2
    refine ⟨_, cap, rfl, h1, by omega, fun hn => ⟨g, 0, rfl, .inr (by simp [Value.ownBlock]), (Array.getElem?_eq_some_iff.1 hg).1, fun i x hx => ⟨_, d.mono (hr.2 i x hx) (fun k hk => .inl hk.1), fun j u hu => ?_⟩⟩⟩
    rw [cell_of_row w g _ cur e (0, 0) hg]
    rw [List.getElem?_take] at hu
    split at hu
    · rename_i hj
      rw [List.getElem?_drop, ← h4, List.getElem?_take] at hu
      split at hu
      · rw [← Array.getElem?_toList, Nat.zero_add]; exact hu
      · cases hu
    · cases hu
end

/-- What v owns is none of S. -/
def Av (v : Value) (S : Nat → Prop) : Prop := ∀ k, v.ownBlock = some k → ¬ S k
theorem Av.next {v v1 : Value} {S : Nat → Prop} {N : Nat} (h : Av v S) (hat : v1.ownBlock = v.ownBlock ∨ ∃ b, v1.ownBlock = some b ∧ N ≤ b) (hS : ∀ k, S k → k < N) : Av v1 S := by
  intro k hk hs
  rcases hat with hat | ⟨b, hb, hle⟩
  · exact h k (by rw [← hat]; exact hk) hs
  · rw [hb] at hk
    injection hk with hk
    have := hS k hs
    omega
theorem Own.av {α : Type} {d : Ty α} {e : TypeId} {w : World} {F S : Nat → Prop} {base : Nat} {v : Value} {xs : List α} (h : Own d e w F base v xs) (hS : ∀ k, S k → k < base ∨ w.heap.size ≤ k) : Av v S := by
  intro k hk hs
  have := h.blk k hk
  have := hS k hs
  omega
theorem Av.mono {v : Value} {S S' : Nat → Prop} (h : Av v S) (hS : ∀ k, S' k → S k) : Av v S' := fun k hk hs => h k hk (hS k hs)
theorem Av.ne {v : Value} {S : Nat → Prop} {g : Nat} (h : Av v S) (hg : S g) : some g ≠ v.ownBlock := fun e => h g e.symm hg

section
variable {P : Program} {ops : Array Oper} {rest : List Oper} {o : Oper} {a : Act} {Q : Exit → Act → World → Prop}

theorem cells_new (w : World) (cs : List Value) (t : TypeId) : ∀ j u, cs[j]? = some u → (w.alloc (.cells cs.toArray t)).cell? ((⟨w.heap.size, 0, none⟩ : Addr).add j) = some u := by
  intro j u hu
  have hadd : (⟨w.heap.size, 0, none⟩ : Addr).add j = ⟨w.heap.size, j, none⟩ := by unfold Addr.add; split <;> simp_all
  rw [hadd, cell_of_row _ _ j cs.toArray t (0, 0) (heap_alloc_new w _)]
  simpa using hu

theorem own_step {α : Type} {d : Ty α} {e : TypeId} {W w1 : World} {F F' : Nat → Prop} {base : Nat} {v v1 : Value} {xs ys : List α} {inner news : List Value}
    (hr : Reps d W (fun k => F k ∧ v.ownBlock ≠ some k) xs inner) (hn : Reps d W F' ys news) (hF' : ∀ k, k < W.heap.size → F' k → F k ∧ v.ownBlock ≠ some k)
    (ho : w1.ownsRow base e d.sz v1 (xs ++ ys).length (inner ++ news)) (hg : W.grownBy w1 v.ownBlock) (hat : v1.ownBlock = v.ownBlock ∨ ∃ b, v1.ownBlock = some b ∧ W.heap.size ≤ b) : Own d e w1 F base v1 (xs ++ ys) := by
  have hmv : ∀ k, (F k ∧ v.ownBlock ≠ some k) ∧ k < W.heap.size → w1.heap[k]? = W.heap[k]? := fun k hk => hg.block k hk.2 (fun e => hk.1.2 e.symm)
  have hne : ∀ k, (F k ∧ v.ownBlock ≠ some k) ∧ k < W.heap.size → F k ∧ v1.ownBlock ≠ some k := by
    intro k hk
    refine ⟨hk.1.1, ?_⟩
    rcases hat with hat | ⟨b, hb, hle⟩
    · rw [hat]; exact hk.1.2
    · rw [hb]; intro e; injection e with e; omega
  refine ⟨inner ++ news, ho, Reps.append ?_ ?_⟩
  · exact ⟨hr.1, fun i x hx => d.mono (d.move (d.bnd (hr.2 i x hx)) (fun k hk _ => hmv k hk)) hne⟩
  · exact ⟨hn.1, fun i x hx => d.mono (d.move (d.mono (d.bnd (hn.2 i x hx)) (fun k hk => (⟨hF' k hk.2 hk.1, hk.2⟩ : (F k ∧ v.ownBlock ≠ some k) ∧ k < W.heap.size))) (fun k hk _ => hmv k hk)) hne⟩

/-- append(v, x), x in a box of its own: the run. -/
theorem app1_run {α : Type} (d : Ty α) {W : World} (base : Nat) (t ty e : TypeId) (z : Value) (bytes : Nat)
    (ht : P.underlying t = some (.slice e)) (hinfo : (P.info? e).map (fun i => (i.zero, i.size, i.bytes)) = some (some z, d.sz, bytes)) (hz : z.cells.size = d.sz) (hb0 : 0 < bytes)
    {F F' : Nat → Prop} {v : Value} {xs : List α} {y : α} {cs : List Value}
    (HO : Own d e W F base v xs) (hK : d.K W F' y cs) (hF : ∀ k, k < W.heap.size → F' k → F k ∧ v.ownBlock ≠ some k) (hbase : base ≤ W.heap.size) (hl : (xs.length + 1) * bytes ≤ 140737488355328) :
    ∃ v1 w1, (Builtin.append_ #[t, t] ty #[v, .slice (some ⟨W.heap.size, 0, none⟩) 1 1]).run P (W.alloc (.cells cs.toArray e)) = .ok v1 w1 ∧ Own d e w1 F base v1 (xs ++ [y]) ∧ W.grownBy w1 v.ownBlock ∧ (v1.ownBlock = v.ownBlock ∨ ∃ b, v1.ownBlock = some b ∧ W.heap.size ≤ b) := by
  obtain ⟨i0, hi, hzz⟩ := Option.map_eq_some_iff.1 hinfo
  simp only [Prod.mk.injEq] at hzz
  obtain ⟨hz0, hz1, hz2⟩ := hzz
  obtain ⟨inner, hown, hr⟩ := HO
  have hlen : xs.length + 1 ≤ 140737488355328 := Nat.le_trans (Nat.le_mul_of_pos_right _ hb0) hl
  obtain ⟨v1, w1, hrun, hown1, hg, _, hat⟩ := run_append_own_at (P := P) (W.alloc (.cells cs.toArray e)) base t ty e i0 z d.sz bytes ht hi hz0 hz1 hz2 hz d.pos v xs.length inner (hown.alloc _) ⟨W.heap.size, 0, none⟩ 1 1 cs (by rw [d.len hK, Nat.one_mul])
    (cells_new W cs e) (d.one hK) (by simp only [maxLen]; omega) hl (by simp; omega)
  have hg' : W.grownBy w1 v.ownBlock := World.grownBy.trans (World.grownBy_alloc W _ _) hg
  have hat' : v1.ownBlock = v.ownBlock ∨ ∃ b, v1.ownBlock = some b ∧ W.heap.size ≤ b := by
    rcases hat with hat | hat
    · exact .inl hat
    · exact .inr ⟨_, hat, by simp⟩
  exact ⟨v1, w1, hrun, own_step hr (Reps.one hK) hF (by simpa using hown1) hg' hat', hg', hat'⟩

/-- A builtin append whose run is known, in the three places where it may stand. -/
theorem append_wp {W w1 : World} {K : Act → World → Prop} {s x : Operand} {t u : TypeId} {v vx v1 : Value}
    (ho : o.op = .call { callee := .builtin .append, args := #[s, x], argTypes := #[t, u] }) (hs : a.eval s = v) (hx : a.eval x = vx)
    (hr : (Builtin.append_ #[t, u] o.type #[v, vx]).run P W = .ok v1 w1) (h : K (a.put o.dst v1) w1) : o.wp P a W K Q := by
  unfold Oper.wp execOp
  simp only [ho, resolve, invoke, builtin, Sem.run_bind, Sem.run_pure, Result.andThen_ok, List.map_toArray, List.map_cons, List.map_nil, hs, hx, hr]
  exact h
theorem append_list {W w1 : World} {s x : Operand} {t u : TypeId} {v vx v1 : Value} (hgd : o.guard = none)
    (ho : o.op = .call { callee := .builtin .append, args := #[s, x], argTypes := #[t, u] }) (hs : a.eval s = v) (hx : a.eval x = vx)
    (hr : (Builtin.append_ #[t, u] o.type #[v, vx]).run P W = .ok v1 w1) (h : wpList P ops Q rest (a.put o.dst v1) w1) : wpList P ops Q (o :: rest) a W :=
  wpList_plain hgd fun _ hK => append_wp ho hs hx hr (hK _ _ h)
theorem append_step {W w1 : World} {K : Act → World → Prop} {E : Prop} {s x : Operand} {t u : TypeId} {v vx v1 : Value} (hgd : o.guard = none)
    (ho : o.op = .call { callee := .builtin .append, args := #[s, x], argTypes := #[t, u] }) (hs : a.eval s = v) (hx : a.eval x = vx)
    (hr : (Builtin.append_ #[t, u] o.type #[v, vx]).run P W = .ok v1 w1) (h : K (a.put o.dst v1) w1) : if Region.wanted o (yielded ops a.tmps) = true then o.wp P a W K Q else E := by
  rw [if_pos (by simp [Region.wanted, hgd])]
  exact append_wp ho hs hx hr h
end

/-! ### blocks that are known whole -/
theorem blk_lt {w : World} {g : Nat} {o : Obj} (h : w.heap[g]? = some o) : g < w.heap.size := by
  rcases Nat.lt_or_ge g w.heap.size with h' | h'
  · exact h'
  · simp [Array.getElem?_eq_none h'] at h
theorem blk_free {w : World} {g : Nat} {cs : Array Value} {t : TypeId} (h : w.heap[g]? = some (.cells cs t (0, 0))) (j : Nat) : w.frozen? ⟨g, j, none⟩ = false := by simp [World.frozen?, h]
theorem blk_cell {w : World} {g : Nat} {cs : Array Value} {t : TypeId} {fr : Nat × Nat} (h : w.heap[g]? = some (.cells cs t fr)) (j : Nat) : w.cell? ⟨g, j, none⟩ = cs[j]? := cell_of_row w g j cs t fr h
theorem blk_set {w : World} {g : Nat} {cs : Array Value} {t : TypeId} {fr : Nat × Nat} (h : w.heap[g]? = some (.cells cs t fr)) (j : Nat) (v : Value) : (w.setCell ⟨g, j, none⟩ v).heap[g]? = some (.cells (cs.setIfInBounds j v) t fr) := by
  have hlt := blk_lt h
  have h' : w.heap[g] = .cells cs t fr := by simpa [Array.getElem?_eq_getElem hlt] using h
  show (w.heap.modify g _)[g]? = _
  rw [Array.getElem?_eq_getElem (by simpa using hlt), Array.getElem_modify_self, h']
  rfl
theorem blk_ext {w w' : World} {g : Nat} {o : Obj} (h : w.heap[g]? = some o) (he : Ext w w') : w'.heap[g]? = some o := (he.block g (blk_lt h)).trans h
theorem blk_upd {S : Nat → Prop} {w w' : World} {g : Nat} {o : Obj} (h : w.heap[g]? = some o) (he : Upd S w w') (hS : ¬ S g) : w'.heap[g]? = some o := (he.block g (blk_lt h) hS).trans h
theorem blk_grown {w w' : World} {g : Nat} {o : Obj} {row : Option Nat} (h : w.heap[g]? = some o) (hg : w.grownBy w' row) (hne : some g ≠ row) : w'.heap[g]? = some o := (hg.block g (blk_lt h) hne).trans h

theorem blk_new {w : World} {o : Obj} {g : Nat} (h : g = w.heap.size) : (w.alloc o).heap[g]? = some o := by subst h; exact heap_alloc_new w o
theorem blk_old {w : World} {o o' : Obj} {g : Nat} (h : w.heap[g]? = some o) : (w.alloc o').heap[g]? = some o := blk_ext h ((Ext.refl w).alloc o')
theorem blk_sz (w : World) (o : Obj) : (w.alloc o).heap.size = w.heap.size + 1 := by simp

/-! ### ends of calls -/
/-- It returns v; nothing that was there has turned. -/
def Ret (w : World) (v : Value) : Ending → World → Prop := fun e w' => e = .returned v ∧ Ext w w'
/-- It returns v, has drawn orders, and made nothing. -/
def RetQ (w : World) (v : Value) : Ending → World → Prop := fun e w' => e = .returned v ∧ ∃ n, w' = w.drewN n
/-- It returns a slice of its own that reads as xs. -/
def RetOwn {α : Type} (d : Ty α) (e : TypeId) (w : World) (xs : List α) : Ending → World → Prop := fun en w' => ∃ v, en = .returned v ∧ Own d e w' (fun _ => False) w.heap.size v xs ∧ Ext w w'
theorem ret1 {a a' : Value} (h1 : a = a') : Ending.returned a = Ending.returned a' := by rw [h1]
theorem ret2 {a b a' b' : Value} (h1 : a = a') (h2 : b = b') : Ending.returned (.tuple #[a, b]) = Ending.returned (.tuple #[a', b']) := by rw [h1, h2]
theorem ret3 {a b c a' b' c' : Value} (h1 : a = a') (h2 : b = b') (h3 : c = c') : Ending.returned (.tuple #[a, b, c]) = Ending.returned (.tuple #[a', b', c']) := by rw [h1, h2, h3]
theorem vint {k : IntKind} {a b : Int} (h : a = b) : Value.int k a = Value.int k b := by rw [h]
theorem vbool {a b : Bool} (h : a = b) : Value.bool a = Value.bool b := by rw [h]
theorem RetQ.ret {w : World} {v : Value} {e : Ending} {w' : World} (h : RetQ w v e w') : Ret w v e w' := ⟨h.1, Ext.of_drawn h.2⟩

end Go.Proofs.Ytmimncinnflfkaa
