/- Layer 14, the document's net: append of a row. -/
import Derived.Test.YtmimncinnflfkaaRefNet
set_option linter.all false
namespace Go.Proofs.Ytmimncinnflfkaa
open Go.RowKit
set_option maxRecDepth 100000

theorem info_sent : (Try.prog.info? 49).map (fun i => (i.zero, i.size, i.bytes)) = some (some (.agg #[.int .i64 0, .int .i64 0, .int .i64 0, .int .i64 0, .int .i64 0, .int .i64 0, .int .i64 0, .int .i64 0, .string ⟨#[]⟩, .string ⟨#[]⟩, .slice none 0 0, .slice none 0 0, .int .i64 0, .bool false, .string ⟨#[]⟩]), 15, 176) := by kernel_rfl

section
variable {ops : Array Oper} {rest : List Oper} {o : Oper} {a : Act} {Q : Exit → Act → World → Prop}
theorem app_sents_step {W : World} {K : Act → World → Prop} {E : Prop} (base : Nat) (hgd : o.guard = none) (s x : Operand)
    (ho : o.op = .call { callee := .builtin .append, args := #[s, x], argTypes := #[27, 27] })
    {F F' : Nat → Prop} {v u : Value} {xs ys : List (Int × Letter)} (HO : Own tSent 49 W F base v xs) (HR : Sl tSent W F' u ys) (hF : ∀ k, k < W.heap.size → F' k → F k ∧ v.ownBlock ≠ some k) (hs : a.eval s = v) (hx : a.eval x = u)
    (hbase : base ≤ W.heap.size) (hl : xs.length + ys.length ≤ 1000000)
    (h : ∀ v1 w1, Own tSent 49 w1 F base v1 (xs ++ ys) → W.grownBy w1 v.ownBlock → (v1.ownBlock = v.ownBlock ∨ ∃ b, v1.ownBlock = some b ∧ W.heap.size ≤ b) → K (a.put o.dst v1) w1) :
    if Region.wanted o (yielded ops a.tmps) = true then o.wp Try.prog a W K Q else E := by
  obtain ⟨v1, w1, hr, h1, h2, h3⟩ := appN_run (P := Try.prog) tSent base 27 o.type 49 _ 176 Try.underlying27 info_sent rfl (by decide) HO HR (fun x cs hk => tSent.mono (tSent.bnd hk) (fun k hk => hF k hk.2 hk.1)) hbase (by omega)
  exact append_step hgd ho hs hx hr (h v1 w1 h1 h2 h3)
/-- append of one letter under its number, in a box of its own. -/
theorem app_sent1_step {W Wb : World} {K : Act → World → Prop} {E : Prop} (base : Nat) (hgd : o.guard = none) (s x : Operand)
    (ho : o.op = .call { callee := .builtin .append, args := #[s, x], argTypes := #[27, 27] })
    {F : Nat → Prop} {v : Value} {xs : List (Int × Letter)} (m : Int) (l : Letter) (pv iv : Value) (hW : Wb = W.alloc (.cells (Value.int .i64 m :: (letCs l pv iv).toList).toArray 49)) (HO : Own tSent 49 W F base v xs) (HL : LetIn W F l pv iv) (hF : ∀ k, F k → v.ownBlock ≠ some k) (hs : a.eval s = v) (hx : a.eval x = .slice (some ⟨W.heap.size, 0, none⟩) 1 1)
    (hbase : base ≤ W.heap.size) (hl : xs.length + 1 ≤ 1000000)
    (h : ∀ v1 w1, Own tSent 49 w1 F base v1 (xs ++ [(m, l)]) → W.grownBy w1 v.ownBlock → (v1.ownBlock = v.ownBlock ∨ ∃ b, v1.ownBlock = some b ∧ W.heap.size ≤ b) → K (a.put o.dst v1) w1) :
    if Region.wanted o (yielded ops a.tmps) = true then o.wp Try.prog a Wb K Q else E := by
  obtain ⟨v1, w1, hr, h1, h2, h3⟩ := app1_run (P := Try.prog) tSent (F := F) (F' := F) base 27 o.type 49 _ 176 Try.underlying27 info_sent rfl (by decide) (y := (m, l)) (cs := Value.int .i64 m :: (letCs l pv iv).toList) HO ⟨pv, iv, rfl, HL⟩ (fun k _ hk => ⟨hk, hF k hk⟩) hbase (by omega)
  subst hW
  exact append_step hgd ho hs hx hr (h v1 w1 h1 h2 h3)
end
end Go.Proofs.Ytmimncinnflfkaa
