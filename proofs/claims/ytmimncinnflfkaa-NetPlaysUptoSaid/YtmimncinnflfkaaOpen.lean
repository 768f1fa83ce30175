/- From what an argument reads as (the rows' own reading) to the words of these proofs: which list, which texts; how long they are. -/
import Derived.Test.YtmimncinnflfkaaRows
import Derived.Test.YtmimncinnflfkaaCore
import Derived.Deep.Slices
import Derived.ChangeArms
import Derived.Carry
import Derived.Deep.MidRow
import Derived.ProofKit
import Derived.JoinedCond
set_option linter.all false
namespace Go.Proofs.Ytmimncinnflfkaa
open Go.RowKit Go.ChangeShapes Go.WideShapes

theorem bulk_one {H : Type} (d : DataW H) : 1 ≤ Rows.uptoBulk d := by
  cases d with
  | lit l => cases l <;> simp [Rows.uptoBulk]
  | nil => simp [Rows.uptoBulk]
  | ptr d => simp [Rows.uptoBulk]
  | slice elems spare => simp [Rows.uptoBulk]
  | agg parts => simp [Rows.uptoBulk]
  | iface t d => simp [Rows.uptoBulk]
  | map entries => simp [Rows.uptoBulk]
  | held h => simp [Rows.uptoBulk]
theorem bulk_part {H : Type} {d : DataW H} {l : List (DataW H)} (h : d ∈ l) : Rows.uptoBulk d ≤ Rows.uptoBulkAll l := by
  induction l with
  | nil => cases h
  | cons x r ih =>
    simp only [Rows.uptoBulkAll]
    rcases List.mem_cons.1 h with e | e
    · subst e; omega
    · have := ih e; omega
theorem bulk_len {H : Type} (l : List (DataW H)) : l.length ≤ Rows.uptoBulkAll l := by
  induction l with
  | nil => simp [Rows.uptoBulkAll]
  | cons x r ih => have := bulk_one x; simp only [Rows.uptoBulkAll, List.length_cons]; omega

/-- Whatever reads at type t is told by d; G: what the reading's bulk bounds. -/
structure Opn {α : Type} (P : Program) (d : Ty α) (t : TypeId) (G : α → Nat → Prop) : Prop where
  sz : P.cellsOf t = d.sz
  op : ∀ {H : Type} (enc : TypeId × Value → H) (w : World) (spare : Nat → Bool) (held : Bool) (fuel : Nat) (cs : List Value) (x : DataW H × List MemPlace), DataW.trod enc P w 0 spare held fuel t cs = some x → ∃ a, d.K w (fun _ => True) a cs ∧ G a (Rows.uptoBulk x.1)
  mono : ∀ {a n m}, G a n → n ≤ m → G a m

section
variable {P : Program} {t : TypeId}
theorem opn_int {k : IntKind} (ht : P.underlying t = some (.int k)) (hc : P.cellsOf t = 1) : Opn P (tInt k) t (fun a _ => (Lit.int k a).wf = true) :=
  ⟨hc, fun _ _ _ _ _ _ _ h => let ⟨n, h1, _, h3⟩ := DataW.trod_int ht h; ⟨n, h1, h3⟩, fun h _ => h⟩
theorem opn_bool (ht : P.underlying t = some .bool) (hc : P.cellsOf t = 1) : Opn P tBool t (fun _ _ => True) :=
  ⟨hc, fun _ _ _ _ _ _ _ h => let ⟨b, h1, _⟩ := DataW.trod_bool ht h; ⟨b, h1, trivial⟩, fun h _ => h⟩
theorem opn_str (ht : P.underlying t = some .string) (hc : P.cellsOf t = 1) : Opn P tStr t (fun s n => s.size + 1 ≤ n) :=
  ⟨hc, fun _ _ _ _ _ _ _ h => by
    obtain ⟨s, h1, h2, _⟩ := DataW.trod_string ht h
    refine ⟨s, h1, ?_⟩
    subst h2
    simp only [Rows.uptoBulk, Array.length_toList]
    exact Nat.le_refl _, fun h hm => Nat.le_trans h hm⟩
theorem addr_plain {w : World} {a : Addr} {v : Value} (h : w.cell? a = some v) : ∃ b o, a = ⟨b, o, none⟩ := by
  obtain ⟨b, off, spot⟩ := a
  have hspot : spot = none := World.cell?_spot h
  subst hspot
  exact ⟨b, off, rfl⟩
theorem opn_slice {α : Type} {d : Ty α} {e : TypeId} {G : α → Nat → Prop} (ho : Opn P d e G) (ht : P.underlying t = some (.slice e)) (hc : P.cellsOf t = 1) : Opn P (tSl d) t (fun xs n => xs.length + 1 ≤ n ∧ ∀ x ∈ xs, G x n) := by
  refine ⟨hc, fun {H} enc w spare held fuel cs x h => ?_, fun h hm => ⟨Nat.le_trans h.1 hm, fun x hx => ho.mono (h.2 x hx) hm⟩⟩
  rcases Go.Deep.open_slice ht h with ⟨rfl, rfl⟩ | ⟨a, len, cap, m, n, D, Pl, rfl, _, hlc, hcm, hm, rfl, hel⟩
  · exact ⟨[], ⟨_, rfl, Sl.nil _ _ _⟩, by simp [Rows.uptoBulk], fun x hx => by cases hx⟩
  · have hlm : len ≤ m := by rw [hm]; split <;> omega
    have h1 : ∀ i, i < len → ∃ x cs', w.cells? 0 (a.add (i * d.sz)) d.sz = some cs' ∧ d.K w (fun _ => True) x cs' ∧ G x (Rows.uptoBulk (D i)) := by
      intro i hi
      obtain ⟨cs', h2, h3⟩ := hel i (by omega)
      rw [ho.sz] at h2
      obtain ⟨x, h4, h5⟩ := ho.op enc w spare held n cs' _ h3
      exact ⟨x, cs', h2, h4, h5⟩
    have h6 : ∃ xs : List α, xs.length = len ∧ ∀ i x, xs[i]? = some x → ∃ cs', w.cells? 0 (a.add (i * d.sz)) d.sz = some cs' ∧ d.K w (fun _ => True) x cs' ∧ G x (Rows.uptoBulk (D i)) := by
      clear h hm hcm hlc hlm hel
      induction len with
      | zero => exact ⟨[], rfl, fun i x hx => by simp at hx⟩
      | succ k ih =>
        obtain ⟨xs, hl, hxs⟩ := ih (fun i hi => h1 i (by omega))
        obtain ⟨x, cs', r⟩ := h1 k (by omega)
        refine ⟨xs ++ [x], by simp [hl], fun i y hy => ?_⟩
        rcases Nat.lt_or_ge i xs.length with hi | hi
        · rw [List.getElem?_append_left hi] at hy
          exact hxs i y hy
        · rw [List.getElem?_append_right hi] at hy
          have hi2 : i - xs.length = 0 := by
            have := (List.getElem?_eq_some_iff.1 hy).1
            simp at this; omega
          rw [hi2] at hy
          have : i = k := by omega
          subst this
          obtain rfl := Option.some.inj hy
          exact ⟨cs', r⟩
    obtain ⟨xs, hl, hxs⟩ := h6
    have hcells : ∀ i cs', w.cells? 0 (a.add (i * d.sz)) d.sz = some cs' → ∀ j u, cs'[j]? = some u → w.cell? ((a.add (i * d.sz)).add j) = some u := by
      intro i cs' hcs j u hu
      rw [World.cells?] at hcs
      split at hcs
      · have hlen := mapM_some_length hcs
        have hj := (List.getElem?_eq_some_iff.1 hu).1
        have := mapM_some_get hcs j j (by rw [List.length_range] at hlen; exact List.getElem?_eq_some_iff.2 ⟨by simp; omega, by simp⟩)
        rw [this, hu]
      · cases hcs
    have hbulk : xs.length + 1 ≤ Rows.uptoBulk (DataW.slice ((List.range len).map D) ((List.range (m - len)).map fun j => D (len + j))) := by
      simp only [Rows.uptoBulk]
      have := bulk_len ((List.range len).map D)
      simp at this
      omega
    refine ⟨xs, ⟨_, rfl, a, cap, by rw [hl], by omega, by simp only [maxLen] at hcm; omega, fun hn => ?_⟩, hbulk, fun x hx => ?_⟩
    · obtain ⟨x0, hx0⟩ : ∃ x, xs[0]? = some x := ⟨_, List.getElem?_eq_getElem hn⟩
      obtain ⟨cs0, hc0, hk0, _⟩ := hxs 0 x0 hx0
      have hp := d.pos
      have hl0 := d.len hk0
      have h00 := hcells 0 cs0 hc0 0 _ (List.getElem?_eq_getElem (by omega))
      rw [Nat.zero_mul] at h00
      have h01 : w.cell? a = some (cs0[0]'(by omega)) := by simpa [Addr.add] using h00
      obtain ⟨b, o, rfl⟩ := addr_plain h01
      refine ⟨b, o, rfl, trivial, ?_, fun i x hx => ?_⟩
      · exact World.block_lt_of_cell? w _ h01
      · obtain ⟨cs', hc', hk', _⟩ := hxs i x hx
        refine ⟨cs', hk', fun j u hu => ?_⟩
        have := hcells i cs' hc' j u hu
        rwa [Addr.add_mid, Addr.add_mid] at this
    · obtain ⟨i, hi⟩ := List.mem_iff_getElem?.1 hx
      obtain ⟨_, _, _, hg⟩ := hxs i x hi
      refine ho.mono hg ?_
      have hil : i < len := by rw [← hl]; exact (List.getElem?_eq_some_iff.1 hi).1
      have := bulk_part (d := D i) (l := (List.range len).map D) (List.mem_map.2 ⟨i, List.mem_range.2 hil, rfl⟩)
      simp only [Rows.uptoBulk]
      omega

/-- A struct's field. -/
theorem fld {H : Type} {enc : TypeId × Value → H} {w : World} {spare : Nat → Bool} {held : Bool} {fs : Array Field} {cs : List Value} {xs : List (DataW H × List MemPlace)} {n : Nat} (hl : xs.length = fs.size)
    (h : ∀ (i : Nat) (f : Field), fs[i]? = some f → DataW.trod enc P w 0 spare held n f.type ((cs.drop f.offset).take (P.cellsOf f.type)) = xs[i]?) (i : Nat) (f : Field) (hf : fs[i]? = some f) {α : Type} {d : Ty α} {G : α → Nat → Prop} (ho : Opn P d f.type G) :
    ∃ a, d.K w (fun _ => True) a ((cs.drop f.offset).take d.sz) ∧ G a (Rows.uptoBulk (DataW.agg (xs.map (·.1)))) := by
  have hi : i < xs.length := by rw [hl]; exact (Array.getElem?_eq_some_iff.1 hf).1
  have h1 := h i f hf
  rw [List.getElem?_eq_getElem hi, ho.sz] at h1
  obtain ⟨a, h2, h3⟩ := ho.op enc w spare held n _ _ h1
  refine ⟨a, h2, ho.mono h3 ?_⟩
  have := bulk_part (d := (xs[i]).1) (l := xs.map (·.1)) (List.mem_map.2 ⟨_, List.getElem_mem hi, rfl⟩)
  simp only [Rows.uptoBulk]
  omega
end

/-! ### a law's row -/
theorem trodAll_below {H : Type} {enc : TypeId × Value → H} {P : Program} (hl : laidOutB P = true) {W W' : World} (hb : Below W.heap.size W W') : ∀ (ts : List TypeId) (vs : List Value) (ds : List (DataW H)) (ps : List MemPlace),
    (∀ t ∈ ts, P.readableRec t = true ∧ t < P.types.size) → DataW.TrodAll enc P W 0 (fun _ => true) true ts vs ds ps → (∀ x ∈ ps, x.block < W.heap.size) → DataW.TrodAll enc P W' 0 (fun b => decide (b < W.heap.size)) true ts vs ds ps
  | [], [], [], _, _, h, _ => h
  | t :: ts, v :: vs, d :: ds, _, hr, h, hp => by
    obtain ⟨p, q, h1, h2, rfl⟩ := h
    exact ⟨p, q, Below.trod hl (hr t (List.mem_cons_self ..)).1 (hr t (List.mem_cons_self ..)).2 h1 hb (fun x hx => hp x (List.mem_append_left _ hx)), trodAll_below hl hb ts vs ds q (fun t ht => hr t (List.mem_cons_of_mem _ ht)) h2 (fun x hx => hp x (List.mem_append_right _ hx)), rfl⟩
  | [], _ :: _, _, _, _, h, _ => h.elim
  | [], [], _ :: _, _, _, h, _ => h.elim
  | _ :: _, [], _, _, _, h, _ => h.elim
  | _ :: _, _ :: _, [], _, _, h, _ => h.elim
end Go.Proofs.Ytmimncinnflfkaa
