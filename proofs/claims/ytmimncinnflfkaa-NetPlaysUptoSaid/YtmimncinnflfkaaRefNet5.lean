/- Layer 14, the document's net: Under, Deliver. -/
import Derived.Test.YtmimncinnflfkaaRefNet4
set_option linter.all false
namespace Go.Proofs.Ytmimncinnflfkaa
open Go.RowKit
set_option maxRecDepth 100000

theorem info_int : (Try.prog.info? 3).map (fun i => (i.zero, i.size, i.bytes)) = some (some (.int .i64 0), 1, 8) := by kernel_rfl
section
variable {ops : Array Oper} {rest : List Oper} {o : Oper} {a : Act} {Q : Exit → Act → World → Prop}
/-- append(v, x) on whole numbers. -/
theorem app_int {W : World} (base : Nat) (hgd : o.guard = none) (s x : Operand)
    (ho : o.op = .call { callee := .builtin .append, args := #[s, x], argTypes := #[51, 51] })
    {F : Nat → Prop} {v : Value} {xs : List Int} {y : Int} (HO : Own (tInt .i64) 3 W F base v xs) (hs : a.eval s = v) (hx : a.eval x = .slice (some ⟨W.heap.size, 0, none⟩) 1 1)
    (hbase : base ≤ W.heap.size) (hl : xs.length + 1 ≤ 17592186044416)
    (h : ∀ v1 w1, Own (tInt .i64) 3 w1 F base v1 (xs ++ [y]) → W.grownBy w1 v.ownBlock → (v1.ownBlock = v.ownBlock ∨ ∃ b, v1.ownBlock = some b ∧ W.heap.size ≤ b) → wpList Try.prog ops Q rest (a.put o.dst v1) w1) :
    wpList Try.prog ops Q (o :: rest) a (W.alloc (.cells #[.int .i64 y] 3)) := by
  obtain ⟨v1, w1, hr, h1, h2, h3⟩ := app1_run (P := Try.prog) (tInt .i64) base 51 o.type 3 (.int .i64 0) 8 Try.underlying51 info_int rfl (by decide) (F' := fun _ => False) (y := y) (cs := [.int .i64 y]) HO rfl (fun _ _ h => h.elim) hbase (by omega)
  exact append_list hgd ho hs hx hr (h v1 w1 h1 h2 h3)
end

set_option maxHeartbeats 1000000 in
theorem runder_calls {F : Nat → Prop} {q last : Nat} {v : Value} {xs : List (Int × Letter)} (w : World) (h : RefM w F q v xs last) (hxs : xs.length ≤ 4096) :
    Calls Try.prog 20 #[.pointer (some ⟨q, 0, none⟩)] w (RetOwn (tInt .i64) 3 w (xs.map (·.1))) := by
  obtain ⟨d0, _⟩ := h.cells
  obtain ⟨A, c, hv, hc, hn⟩ := h.own.form
  obtain ⟨n, hln⟩ : ∃ n, n = xs.length := ⟨_, rfl⟩
  rw [← hln] at hv hc hn hxs
  have Hln := Lib.hid hln
  clear hln
  have Hv := Lib.hid hv
  go_enter Try.func20, Try.ntmps20
  go_wp2
  go_loopw [3, 4] (fun u i wr => ∃ k : Nat, k ≤ n ∧ i = .int .i64 k ∧ Own (tInt .i64) 3 wr (fun _ => False) w.heap.size u ((xs.map (·.1)).take k) ∧ Ext w wr) (fun _ i _ => n - (intOf i).toNat)
  case atStart => exact ⟨0, by omega, rfl, Own.nil _ _ _ _ _, Ext.refl _⟩
  case round =>
    obtain ⟨k, hk, rfl, hO, he⟩ := hrel
    have e0 := he.cell d0
    clear d0
    rw [Hv.out] at e0
    have hkl : ((xs.map (·.1)).take k).length ≤ 4096 := by rw [List.length_take]; omega
    by_cases hlt : k < n
    · have hx : xs[k]? = some (xs[k]'(by rw [← Hln.out]; exact hlt)) := List.getElem?_eq_getElem _
      obtain ⟨b, pv, iv, n', c', hv', _, _, hcs⟩ := h.sl k _ hx
      generalize xs[k]'(by rw [← Hln.out]; exact hlt) = x at hx hcs
      rw [hv] at hv'
      injection hv' with hA _ _
      subst hA
      have d1 := he.cell (hcs 0 _ rfl)
      rw [Nat.add_zero] at d1
      have ht : (xs.map (·.1)).take (k + 1) = (xs.map (·.1)).take k ++ [x.1] := by rw [List.take_add_one, List.getElem?_map, hx]; rfl
      have Ht := Lib.hid ht
      clear ht hx hcs h hv
      go_wp2_with (at_builtin; refine app_int w.heap.size rfl _ _ rfl hO rfl rfl he.sz (by omega) ?_; intro v1 w1 ho1 hg _)
      go_roundw
      case rel => exact ⟨k + 1, by omega, by go_num, by rw [Ht.out]; exact ho1, he.grown hg (own_ge hO)⟩
      case measure => simp [intOf]; omega
    · have hkn : k = n := by omega
      have hfl : (xs.map (·.1)).take k = xs.map (·.1) := by rw [hkn, Hln.out, List.take_of_length_le (by simp)]
      rw [hfl] at hO
      clear hkn hfl hv h
      go_wp2
      go_ret
      exact ⟨_, rfl, hO, he⟩
end Go.Proofs.Ytmimncinnflfkaa
