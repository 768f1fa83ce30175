/- Layer 14, the document's net: Deliver. -/
import Derived.Test.YtmimncinnflfkaaRefNet5
set_option linter.all false
namespace Go.Proofs.Ytmimncinnflfkaa
open Go.RowKit
set_option maxRecDepth 100000

/-- A slice to be read, whose elements lead to blocks of F (its own block may be any). -/
def Src {α : Type} (d : Ty α) (w : World) (F : Nat → Prop) (v : Value) (ys : List α) : Prop :=
  ∃ A c, v = .slice A ys.length c ∧ ys.length ≤ c ∧ ys.length ≤ 9223372036854775807 ∧ (0 < ys.length → ∃ b o news, A = some ⟨b, o, none⟩ ∧ Reps d w F ys news ∧ ∀ j u, news[j]? = some u → w.cell? ⟨b, o + j, none⟩ = some u)

section
variable {α : Type} {d : Ty α} {w : World} {F : Nat → Prop} {xs : List α}
theorem Reps.take {inner : List Value} (h : Reps d w F xs inner) (m : Nat) (hm : m ≤ xs.length) : Reps d w F (xs.take m) (inner.take (m * d.sz)) := by
  refine ⟨?_, fun i x hx => ?_⟩
  · rw [List.length_take, List.length_take, h.1]
    have := Nat.mul_le_mul_right d.sz hm
    rw [Nat.min_eq_left this, Nat.min_eq_left hm]
  · rw [List.getElem?_take] at hx
    split at hx
    · rename_i hi
      have := h.2 i x hx
      have hle : (i + 1) * d.sz ≤ m * d.sz := Nat.mul_le_mul_right _ hi
      rw [Nat.add_mul, Nat.one_mul] at hle
      rw [List.drop_take, List.take_take, Nat.min_eq_left (by omega)]
      exact this
    · cases hx
theorem Reps.drop {inner : List Value} (h : Reps d w F xs inner) (m : Nat) : Reps d w F (xs.drop m) (inner.drop (m * d.sz)) := by
  refine ⟨by rw [List.length_drop, List.length_drop, h.1, Nat.sub_mul], fun i x hx => ?_⟩
  rw [List.getElem?_drop] at hx
  have := h.2 _ x hx
  rw [List.drop_drop]
  rwa [Nat.add_mul] at this
/-- What an owned slice shows. -/
theorem Own.cells {e : TypeId} {base b n c : Nat} (h : Own d e w F base (.slice (some ⟨b, 0, none⟩) n c) xs) : n = xs.length ∧ xs.length ≤ c ∧ xs.length ≤ 9223372036854775807 ∧ ∃ news, Reps d w (fun k => F k ∧ b ≠ k) xs news ∧ ∀ j u, news[j]? = some u → w.cell? ⟨b, j, none⟩ = some u := by
  have hf := h.form
  obtain ⟨inner, ho, hr⟩ := h
  rcases ho.2 with ⟨e', _⟩ | ⟨g, cap, cur, e', hb, hg, h1, h2, h3, h4⟩
  · cases e'
  · injection e' with e1 e2 e3
    injection e1 with e1
    injection e1 with e1
    subst e1 e3
    obtain ⟨A', c', e'', hc, hn⟩ := hf
    injection e'' with q1 q2 q3
    subst q3
    refine ⟨q2, hc, hn, inner, hr.mono (fun k hk => ⟨hk.1, fun e => hk.2 (by rw [← e]; rfl)⟩), fun j u hu => ?_⟩
    rw [cell_of_row w b _ cur _ (0, 0) hg]
    rw [← h4, List.getElem?_take] at hu
    split at hu
    · rw [← Array.getElem?_toList]; exact hu
    · cases hu
theorem Own.srcTake {e : TypeId} {base b n c m : Nat} (h : Own d e w F base (.slice (some ⟨b, 0, none⟩) n c) xs) (hm : m ≤ n) : Src d w F (.slice (some ⟨b, 0, none⟩) m c) (xs.take m) := by
  obtain ⟨h1, h2, h3, news, h4, h5⟩ := h.cells
  have hl : (xs.take m).length = m := by rw [List.length_take]; omega
  refine ⟨_, c, by rw [hl], by omega, by omega, fun _ => ⟨b, 0, _, rfl, (h4.mono (fun k hk => hk.1)).take m (by omega), fun j u hu => ?_⟩⟩
  rw [List.getElem?_take] at hu
  split at hu
  · rw [Nat.zero_add]; exact h5 j u hu
  · cases hu
theorem Own.srcDrop {e : TypeId} {base b n c m : Nat} (h : Own d e w F base (.slice (some ⟨b, 0, none⟩) n c) xs) (A : Option Addr) (c' : Nat) (hc' : n - m ≤ c') (hA : m < n → A = some ⟨b, m * d.sz, none⟩) : Src d w F (.slice A (n - m) c') (xs.drop m) := by
  obtain ⟨h1, h2, h3, news, h4, h5⟩ := h.cells
  have hl : (xs.drop m).length = n - m := by rw [List.length_drop, h1]
  refine ⟨_, c', by rw [hl], by omega, by omega, fun hn => ⟨b, m * d.sz, _, hA (by omega), (h4.mono (fun k hk => hk.1)).drop m, fun j u hu => ?_⟩⟩
  rw [List.getElem?_drop] at hu
  exact h5 _ u hu
theorem Src.nil {A : Option Addr} {c : Nat} {m : Nat} (h : xs.length ≤ m) : Src d w F (.slice A 0 c) (xs.drop m) := by
  rw [List.drop_of_length_le h]
  exact ⟨A, c, rfl, by simp, by simp, fun h => by simp at h⟩
theorem Src.mono {F' : Nat → Prop} {v : Value} (h : Src d w F v xs) (hF : ∀ k, F k → F' k) : Src d w F' v xs := by
  obtain ⟨A, c, e, h1, h2, h3⟩ := h
  exact ⟨A, c, e, h1, h2, fun hn => let ⟨b, o, news, hA, hr, hc⟩ := h3 hn; ⟨b, o, news, hA, hr.mono hF, hc⟩⟩
theorem Src.upd {w' : World} {S : Nat → Prop} {b n c : Nat} {o : Nat} (h : Src d w F (.slice (some ⟨b, o, none⟩) n c) xs) (he : Upd S w w') (hS : ∀ k, k < w.heap.size → F k → ¬ S k) (hb : ¬ S b) : Src d w' F (.slice (some ⟨b, o, none⟩) n c) xs := by
  obtain ⟨A, c', e, h1, h2, h3⟩ := h
  refine ⟨A, c', e, h1, h2, fun hn => ?_⟩
  obtain ⟨b', o', news, hA, hr, hc⟩ := h3 hn
  injection e with e1 e2 e3
  subst e1
  injection hA with hA
  injection hA with hA1 hA2
  subst hA1 hA2
  refine ⟨b, o, news, rfl, hr.move (fun k hk hkl => he.block k hkl (hS k hkl hk)), fun j u hu => he.cell (hc j u hu) hb⟩
end

section
variable {P : Program}
/-- append(v, ys...), the elements' blocks told apart from the row's: the run. -/
theorem appS_run {α : Type} (d : Ty α) {W : World} (base : Nat) (t ty e : TypeId) (z : Value) (bytes : Nat)
    (ht : P.underlying t = some (.slice e)) (hinfo : (P.info? e).map (fun i => (i.zero, i.size, i.bytes)) = some (some z, d.sz, bytes)) (hz : z.cells.size = d.sz) (hb0 : 0 < bytes)
    {F : Nat → Prop} {v u : Value} {xs ys : List α}
    (HO : Own d e W F base v xs) (HR : Src d W (fun k => F k ∧ v.ownBlock ≠ some k) u ys) (hbase : base ≤ W.heap.size) (hl : (xs.length + ys.length) * bytes ≤ 140737488355328) :
    ∃ v1 w1, (Builtin.append_ #[t, t] ty #[v, u]).run P W = .ok v1 w1 ∧ Own d e w1 F base v1 (xs ++ ys) ∧ W.grownBy w1 v.ownBlock ∧ (v1.ownBlock = v.ownBlock ∨ ∃ b, v1.ownBlock = some b ∧ W.heap.size ≤ b) := by
  obtain ⟨i0, hi, hzz⟩ := Option.map_eq_some_iff.1 hinfo
  simp only [Prod.mk.injEq] at hzz
  obtain ⟨hz0, hz1, hz2⟩ := hzz
  obtain ⟨A, c, rfl, hc1, hc2, h3⟩ := HR
  have HO' := HO
  obtain ⟨inner, hown, hr⟩ := HO
  have hlen : xs.length + ys.length ≤ 140737488355328 := Nat.le_trans (Nat.le_mul_of_pos_right _ hb0) hl
  rcases Nat.eq_zero_or_pos ys.length with h0 | h0
  · obtain rfl : ys = [] := List.eq_nil_of_length_eq_zero h0
    have hld : ∀ ad : Addr, (loadCells ad 0).run P W = .ok #[] W := fun ad => run_loadCells_list (P := P) W ad [] (fun j v h => by simp at h)
    have hrun : (Builtin.append_ #[t, t] ty #[v, .slice A 0 c]).run P W = .ok v W := by
      rcases hown.2 with ⟨rfl, hn⟩ | ⟨g, cap, cur, rfl, _, _, hnc, _⟩
      · cases A <;> simp [Builtin.append_, run_underlying ht, sizeOf, typeInfo, hi, Builtin.lenOf, Builtin.firstCells, storeCells, hld]
      · cases A <;> simp [Builtin.append_, run_underlying ht, sizeOf, typeInfo, hi, Builtin.lenOf, Builtin.firstCells, hnc, storeCells, hld]
    exact ⟨v, W, hrun, by rw [List.append_nil]; exact HO', World.grownBy.refl W _, .inl rfl⟩
  · obtain ⟨b, off, news, rfl, hrn, hcn⟩ := h3 h0
    have hone : ∀ u ∈ news, u.oneCell' = true := by
      intro u hu
      obtain ⟨q, hq, rfl⟩ := List.mem_iff_getElem.1 hu
      have hp := d.pos
      have hql : q / d.sz < ys.length := by rw [Nat.div_lt_iff_lt_mul hp, ← hrn.1]; exact hq
      have hk := hrn.2 (q / d.sz) _ (List.getElem?_eq_getElem hql)
      refine d.one hk _ ?_
      rw [List.mem_iff_getElem?]
      refine ⟨q % d.sz, ?_⟩
      rw [List.getElem?_take, if_pos (Nat.mod_lt _ hp), List.getElem?_drop, Nat.mul_comm, Nat.div_add_mod, List.getElem?_eq_getElem hq]
    obtain ⟨v1, w1, hrun, hown1, hg, _, hat⟩ := run_append_own_at (P := P) W base t ty e i0 z d.sz bytes ht hi hz0 hz1 hz2 hz d.pos v xs.length inner hown ⟨b, off, none⟩ ys.length c news hrn.1
      (fun j u hu => by rw [add0]; exact hcn j u hu) hone (by simp only [maxLen]; omega) hl hbase
    have hat' : v1.ownBlock = v.ownBlock ∨ ∃ b, v1.ownBlock = some b ∧ W.heap.size ≤ b := by
      rcases hat with hat | hat
      · exact .inl hat
      · exact .inr ⟨_, hat, Nat.le_refl _⟩
    exact ⟨v1, w1, hrun, own_step hr hrn (fun _ _ h => h) (by simpa using hown1) hg hat', hg, hat'⟩
end
section
variable {ops : Array Oper} {rest : List Oper} {o : Oper} {a : Act} {Q : Exit → Act → World → Prop}
theorem app_sentS {W : World} (base : Nat) (hgd : o.guard = none) (s x : Operand)
    (ho : o.op = .call { callee := .builtin .append, args := #[s, x], argTypes := #[27, 27] })
    {F : Nat → Prop} {v u : Value} {xs ys : List (Int × Letter)} (HO : Own tSent 49 W F base v xs) (HR : Src tSent W (fun k => F k ∧ v.ownBlock ≠ some k) u ys) (hs : a.eval s = v) (hx : a.eval x = u)
    (hbase : base ≤ W.heap.size) (hl : xs.length + ys.length ≤ 1000000)
    (h : ∀ v1 w1, Own tSent 49 w1 F base v1 (xs ++ ys) → W.grownBy w1 v.ownBlock → (v1.ownBlock = v.ownBlock ∨ ∃ b, v1.ownBlock = some b ∧ W.heap.size ≤ b) → wpList Try.prog ops Q rest (a.put o.dst v1) w1) :
    wpList Try.prog ops Q (o :: rest) a W := by
  obtain ⟨v1, w1, hr, h1, h2, h3⟩ := appS_run (P := Try.prog) tSent base 27 o.type 49 _ 176 Try.underlying27 info_sent rfl (by decide) HO HR hbase (by omega)
  exact append_list hgd ho hs hx hr (h v1 w1 h1 h2 h3)
end
end Go.Proofs.Ytmimncinnflfkaa
