/- Words of this seat's proofs, second part: append of a whole slice, of a string; conversions. No program is named here. -/
import Derived.Test.YtmimncinnflfkaaCore
import Derived.Lib.AppendStr
import Derived.Lib.ConvBytes
import Derived.Laws.BytesArg
set_option linter.all false
namespace Go.Proofs.Ytmimncinnflfkaa
open Go.RowKit

section
variable {α : Type} {d : Ty α} {w : World} {F : Nat → Prop} {xs : List α}
/-- The cells of a slice that is read, in one list. -/
theorem Sl.inner {b o n c : Nat} (h : Sl d w F (.slice (some ⟨b, o, none⟩) n c) xs) : ∃ news, Reps d w F xs news ∧ ∀ j u, news[j]? = some u → w.cell? ⟨b, o + j, none⟩ = some u := by
  have hat : ∀ i x, xs[i]? = some x → ∃ cs, d.K w F x cs ∧ ∀ j u, cs[j]? = some u → w.cell? ⟨b, o + i * d.sz + j, none⟩ = some u := by
    obtain ⟨A, c', e, h1, h2, h3⟩ := h
    injection e with e1 e2 e3
    subst e1 e2 e3
    intro i x hx
    have hi := (List.getElem?_eq_some_iff.1 hx).1
    obtain ⟨b', o', hA, _, _, hc⟩ := h3 (by omega)
    injection hA with hA
    injection hA with hA1 hA2
    subst hA1 hA2
    exact hc i x hx
  have hp := d.pos
  let f : Nat → Value := fun j => (w.cell? ⟨b, o + j, none⟩).getD undef
  have hcell : ∀ j, j < xs.length * d.sz → w.cell? ⟨b, o + j, none⟩ = some (f j) := by
    intro j hj
    have hi : j / d.sz < xs.length := by rw [Nat.div_lt_iff_lt_mul hp]; exact hj
    obtain ⟨cs, hK, hc⟩ := hat _ _ (List.getElem?_eq_getElem hi)
    have hm : j % d.sz < cs.length := by rw [d.len hK]; exact Nat.mod_lt _ hp
    have := hc _ _ (List.getElem?_eq_getElem hm)
    rw [Nat.add_assoc, Nat.mul_comm, Nat.div_add_mod] at this
    simp only [f, this, Option.getD_some]
  refine ⟨(List.range (xs.length * d.sz)).map f, ⟨by simp, fun i x hx => ?_⟩, fun j u hu => ?_⟩
  · obtain ⟨cs, hK, hc⟩ := hat i x hx
    have hi := (List.getElem?_eq_some_iff.1 hx).1
    have hle : (i + 1) * d.sz ≤ xs.length * d.sz := Nat.mul_le_mul_right _ hi
    rw [Nat.add_mul, Nat.one_mul] at hle
    have he : (((List.range (xs.length * d.sz)).map f).drop (i * d.sz)).take d.sz = cs := by
      apply List.ext_getElem
      · simp [d.len hK]; omega
      · intro j h1 h2
        simp only [List.getElem_take, List.getElem_drop, List.getElem_map, List.getElem_range]
        have := hc j _ (List.getElem?_eq_getElem h2)
        rw [Nat.add_assoc] at this
        simp only [f, this, Option.getD_some]
    rw [he]
    exact hK
  · rw [List.getElem?_map] at hu
    obtain ⟨q, hq, rfl⟩ := Option.map_eq_some_iff.1 hu
    obtain ⟨hlt, rfl⟩ := List.getElem?_eq_some_iff.1 hq
    simp only [List.getElem_range]
    exact hcell j (by simpa using hlt)
end

section
variable {P : Program} {ops : Array Oper} {rest : List Oper} {o : Oper} {a : Act} {Q : Exit → Act → World → Prop}

theorem add0 (b o j : Nat) : (⟨b, o, none⟩ : Addr).add j = ⟨b, o + j, none⟩ := by unfold Addr.add; split <;> simp_all

/-- append(v, ys...): the run. -/
theorem appN_run {α : Type} (d : Ty α) {W : World} (base : Nat) (t ty e : TypeId) (z : Value) (bytes : Nat)
    (ht : P.underlying t = some (.slice e)) (hinfo : (P.info? e).map (fun i => (i.zero, i.size, i.bytes)) = some (some z, d.sz, bytes)) (hz : z.cells.size = d.sz) (hb0 : 0 < bytes)
    {F F' : Nat → Prop} {v u : Value} {xs ys : List α}
    (HO : Own d e W F base v xs) (HR : Sl d W F' u ys) (hF : ∀ x cs, d.K W F' x cs → d.K W (fun k => F k ∧ v.ownBlock ≠ some k) x cs) (hbase : base ≤ W.heap.size) (hl : (xs.length + ys.length) * bytes ≤ 140737488355328) :
    ∃ v1 w1, (Builtin.append_ #[t, t] ty #[v, u]).run P W = .ok v1 w1 ∧ Own d e w1 F base v1 (xs ++ ys) ∧ W.grownBy w1 v.ownBlock ∧ (v1.ownBlock = v.ownBlock ∨ ∃ b, v1.ownBlock = some b ∧ W.heap.size ≤ b) := by
  obtain ⟨i0, hi, hzz⟩ := Option.map_eq_some_iff.1 hinfo
  simp only [Prod.mk.injEq] at hzz
  obtain ⟨hz0, hz1, hz2⟩ := hzz
  obtain ⟨A, c, rfl, hc1, hc2⟩ := HR.form
  have HO' := HO
  obtain ⟨inner, hown, hr⟩ := HO
  have hlen : xs.length + ys.length ≤ 140737488355328 := Nat.le_trans (Nat.le_mul_of_pos_right _ hb0) hl
  rcases Nat.eq_zero_or_pos ys.length with h0 | h0
  · obtain rfl : ys = [] := List.eq_nil_of_length_eq_zero h0
    have hld : ∀ ad : Addr, (loadCells ad 0).run P W = .ok #[] W := fun ad => run_loadCells_list (P := P) W ad [] (fun j v h => by simp at h)
    have hrun : (Builtin.append_ #[t, t] ty #[v, .slice A 0 c]).run P W = .ok v W := by
      rcases hown.2 with ⟨rfl, hn⟩ | ⟨g, cap, cur, rfl, _, _, hnc, _⟩
      · cases A <;> simp [Builtin.append_, run_underlying ht, sizeOf, typeInfo, hi, Builtin.lenOf, Builtin.firstCells, storeCells, hld]
      · cases A <;> simp [Builtin.append_, run_underlying ht, sizeOf, typeInfo, hi, Builtin.lenOf, Builtin.firstCells, hnc, storeCells, hld]
    exact ⟨v, W, hrun, by rw [List.append_nil]; exact HO', World.grownBy.refl W _, .inl rfl⟩
  · obtain ⟨A', c', e', _, _, h3⟩ := id HR
    injection e' with e1 e2 e3
    subst e1 e3
    obtain ⟨b, off, rfl, _⟩ := h3 h0
    obtain ⟨news, hrn, hcn⟩ := HR.inner
    have hrn' : Reps d W (fun k => F k ∧ v.ownBlock ≠ some k) ys news := ⟨hrn.1, fun i x hx => hF x _ (hrn.2 i x hx)⟩
    have hone : ∀ u ∈ news, u.oneCell' = true := by
      intro u hu
      obtain ⟨q, hq, rfl⟩ := List.mem_iff_getElem.1 hu
      have hp := d.pos
      have hql : q / d.sz < ys.length := by rw [Nat.div_lt_iff_lt_mul hp, ← hrn.1]; exact hq
      have hk := hrn.2 (q / d.sz) _ (List.getElem?_eq_getElem hql)
      refine d.one hk _ ?_
      rw [List.mem_iff_getElem?]
      refine ⟨q % d.sz, ?_⟩
      rw [List.getElem?_take, if_pos (Nat.mod_lt _ hp), List.getElem?_drop, Nat.mul_comm, Nat.div_add_mod, List.getElem?_eq_getElem hq]
    obtain ⟨v1, w1, hrun, hown1, hg, _, hat⟩ := run_append_own_at (P := P) W base t ty e i0 z d.sz bytes ht hi hz0 hz1 hz2 hz d.pos v xs.length inner hown ⟨b, off, none⟩ ys.length c news hrn.1
      (fun j u hu => by rw [add0]; exact hcn j u hu) hone (by simp only [maxLen]; omega) hl hbase
    have hat' : v1.ownBlock = v.ownBlock ∨ ∃ b, v1.ownBlock = some b ∧ W.heap.size ≤ b := by
      rcases hat with hat | hat
      · exact .inl hat
      · exact .inr ⟨_, hat, Nat.le_refl _⟩
    exact ⟨v1, w1, hrun, own_step hr hrn' (fun _ _ h => h) (by simpa using hown1) hg hat', hg, hat'⟩

/-- The bytes of a string, as numbers. -/
def bytesOf (s : ByteArray) : List Int := s.data.toList.map fun c => (c.toNat : Int)
theorem bytesOf_length (s : ByteArray) : (bytesOf s).length = s.size := by unfold bytesOf; rw [List.length_map, Array.length_toList]; rfl

theorem own_nums {e : TypeId} {w : World} {F : Nat → Prop} {base : Nat} {v : Value} {xs : List Int} {k : IntKind} (h : Own (tInt k) e w F base v xs) : w.ownsRow base e 1 v xs.length (xs.map (Value.int k)) := by
  obtain ⟨inner, ho, hr⟩ := h
  have hi : inner = xs.map (Value.int k) := by
    have hl : inner.length = xs.length := by have := hr.1; rwa [show (tInt k).sz = 1 from rfl, Nat.mul_one] at this
    apply List.ext_getElem
    · simp [hl]
    · intro i h1 h2
      have hx : xs[i]? = some (xs[i]'(by omega)) := List.getElem?_eq_getElem (by omega)
      have hk : (inner.drop (i * 1)).take 1 = [Value.int k (xs[i]'(by omega))] := hr.2 i _ hx
      rw [Nat.mul_one] at hk
      have h0 : ((inner.drop i).take 1)[0]? = some (Value.int k (xs[i]'(by omega))) := by rw [hk]; rfl
      rw [List.getElem?_take, if_pos (by omega), List.getElem?_drop, Nat.add_zero, List.getElem?_eq_getElem h1] at h0
      rw [List.getElem_map]
      exact Option.some.inj h0
  rw [← hi]
  exact ho
theorem nums_own {e : TypeId} {w : World} {base : Nat} {v : Value} {xs : List Int} {k : IntKind} (F : Nat → Prop) (h : w.ownsRow base e 1 v xs.length (xs.map (Value.int k))) : Own (tInt k) e w F base v xs := by
  refine ⟨_, h, ⟨by rw [show (tInt k).sz = 1 from rfl, Nat.mul_one, List.length_map], fun i x hx => ?_⟩⟩
  obtain ⟨hi, rfl⟩ := List.getElem?_eq_some_iff.1 hx
  show (((xs.map (Value.int k)).drop (i * 1)).take 1) = [Value.int k xs[i]]
  rw [Nat.mul_one, List.drop_eq_getElem_cons (by simpa using hi)]
  simp

/-- string(b). -/
theorem conv_str {P : Program} {w : World} {F : Nat → Prop} {v : Value} {xs : List Int} (src dst e : TypeId) (hs : P.underlying src = some (.slice e)) (he : P.underlying e = some (.int .u8)) (hd : P.underlying dst = some .string)
    (h : Sl (tInt .u8) w F v xs) : (convert src dst v).run P w = .ok (.string (strOfNums xs)) w := by
  obtain ⟨A, c, rfl, hc1, hc2⟩ := h.form
  rcases Nat.eq_zero_or_pos xs.length with h0 | h0
  · obtain rfl : xs = [] := List.eq_nil_of_length_eq_zero h0
    cases A with
    | none => exact run_convert_bytes_nil w src e hs he 0 c dst hd
    | some ad =>
      have hl : (loadCells ad 0).run P w = .ok #[] w := run_loadCells_list (P := P) w ad [] (fun j v h => by simp at h)
      rw [show (([] : List Int).length) = 0 from rfl, run_convert_bytes_string w src dst e _ 0 c hs he hd]
      simp [Conv.bytesToString, hl, strOfNums, ByteArray.empty, ByteArray.emptyWithCapacity]
      rfl
  · obtain ⟨A', c', e', _, _, h3⟩ := id h
    injection e' with e1 e2 e3
    subst e1 e3
    obtain ⟨b, off, rfl, _, _, hat⟩ := h3 h0
    refine run_convert_bytes_arg w src e hs he b off xs.length c xs rfl (fun i hi => ?_) dst hd
    obtain ⟨cs, rfl, hc⟩ := hat i _ (List.getElem?_eq_getElem hi)
    have := hc 0 _ rfl
    rw [Nat.add_assoc, show i * (tInt .u8).sz + 0 = i from by show i * 1 + 0 = i; omega] at this
    rw [this, List.getD_eq_getElem?_getD, List.getElem?_eq_getElem hi]
    rfl

/-- append(v, s...) of a string: behind 'at_builtin'. -/
theorem appStr {W : World} (base : Nat) (hgd : o.guard = none) (s x : Operand) (t u e : TypeId)
    (ho : o.op = .call { callee := .builtin .append, args := #[s, x], argTypes := #[t, u] })
    (ht : P.underlying t = some (.slice e)) (hu : P.underlying u = some .string) (hinfo : (P.info? e).map (fun i => (i.zero, i.size, i.bytes)) = some (some (.int .u8 0), 1, 1))
    {F : Nat → Prop} {v : Value} {xs : List Int} {y : ByteArray} (hs : a.eval s = v) (hx : a.eval x = .string y)
    (HO : Own (tInt .u8) e W F base v xs) (hbase : base ≤ W.heap.size) (hl : xs.length + y.size ≤ 140737488355328)
    (h : ∀ v1 w1, Own (tInt .u8) e w1 F base v1 (xs ++ bytesOf y) → W.grownBy w1 v.ownBlock → wpList P ops Q rest (a.put o.dst v1) w1) :
    wpList P ops Q (o :: rest) a W := by
  obtain ⟨i0, hi, hzz⟩ := Option.map_eq_some_iff.1 hinfo
  simp only [Prod.mk.injEq] at hzz
  obtain ⟨hz0, hz1, hz2⟩ := hzz
  refine Lib.wpList_append_own_string W hgd s x t u ho base e i0 ht hu hi hz0 hz1 hz2 v xs.length (xs.map (Value.int .u8)) hs (own_nums HO) y hx (by unfold maxLen; omega) hl hbase ?_
  intro v1 w1 hown hg _
  have hl2 : (xs ++ bytesOf y).length = xs.length + y.size := by rw [List.length_append, bytesOf_length]
  have hc : (xs ++ bytesOf y).map (Value.int .u8) = xs.map (Value.int .u8) ++ Lib.strCells y := by
    rw [List.map_append]
    congr 1
    simp [bytesOf, Lib.strCells]
  exact h v1 w1 (nums_own F (by rw [hl2, hc]; exact hown)) hg
end

end Go.Proofs.Ytmimncinnflfkaa
