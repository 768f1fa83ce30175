/- The document's side of layers 1 and 13: small functions; of the sameness of two letters the equal case alone. -/
import Derived.Test.YtmimncinnflfkaaLetterPack
import Derived.Laws.StructEq
set_option linter.all false
namespace Go.Proofs.Ytmimncinnflfkaa
open Go.RowKit
set_option maxRecDepth 100000

/-! ### '==' of structs -/
section
variable {P : Program} {d : Nat} {xs ys : Array Value} {f : Field} {fs : List Field} {a b : Value} {r s : Bool} {w : World}
theorem eqf_last (hn : (f.name == "_") = false) (ha : (part f.type xs f.offset).run P w = .ok a w) (hb : (part f.type ys f.offset).run P w = .ok b w) (he : (Op.equalIn d f.type a b).run P w = .ok r w) : (Op.eqFields d xs ys [f]).run P w = .ok r w := by
  have hn' : f.name ≠ "_" := by simpa using hn
  simp only [Op.eqFields, if_pos hn', Sem.run_bind, ha, hb, he, Result.andThen_ok]
  cases r <;> simp
theorem eqf_cons (hn : (f.name == "_") = false) (ha : (part f.type xs f.offset).run P w = .ok a w) (hb : (part f.type ys f.offset).run P w = .ok b w) (he : (Op.equalIn d f.type a b).run P w = .ok r w) (hr : (Op.eqFields d xs ys fs).run P w = .ok s w) : (Op.eqFields d xs ys (f :: fs)).run P w = .ok (r && s) w := by
  have hn' : f.name ≠ "_" := by simpa using hn
  rw [Op.eqFields]
  simp only [if_pos hn', Sem.run_bind, ha, hb, he, Result.andThen_ok]
  cases r
  · simp
  · simpa using hr
theorem eqA_of {t : TypeId} {fs : Array Field} (hu : P.underlying t = some (.struct fs)) (hp : P.stoodInHeld t = false) (h : (Op.eqFields d xs ys fs.toList).run P w = .ok r w) : (Op.equalIn (d + 1) t (.agg xs) (.agg ys)).run P w = .ok r w := by
  have hf : P.fieldsOf t = fs := by simp [Program.fieldsOf, hu]
  rw [run_equalIn_struct (P := P) w d t xs ys (by rw [hf]; exact hu) hp, hf]
  exact h
end
theorem eqA_pair (d : Nat) (w : World) (x0 y0 x1 y1 : ByteArray) :
    (Op.equalIn (d + 2) 79 (.agg #[.string x0, .string x1]) (.agg #[.string y0, .string y1])).run Try.prog w = .ok (x0.toList == y0.toList && (x1.toList == y1.toList)) w := by
  refine eqA_of Try.underlying79 (by kernel_rfl) ?_
  refine eqf_cons (by rfl) (by go_simp; rfl) (by go_simp; rfl) (by go_simp) ?_
  exact eqf_last (by rfl) (by go_simp; rfl) (by go_simp; rfl) (by go_simp)
theorem eqA_intent (d : Nat) (w : World) (x0 y0 : ByteArray) (x1 y1 : Int) (x2 y2 : Bool) :
    (Op.equalIn (d + 2) 81 (.agg #[.string x0, .int .i64 x1, .bool x2]) (.agg #[.string y0, .int .i64 y1, .bool y2])).run Try.prog w = .ok (x0.toList == y0.toList && ((x1 == y1) && (x2 == y2))) w := by
  refine eqA_of Try.underlying81 (by kernel_rfl) ?_
  refine eqf_cons (by rfl) (by go_simp; rfl) (by go_simp; rfl) (by go_simp) ?_
  refine eqf_cons (by rfl) (by go_simp; rfl) (by go_simp; rfl) (by go_simp) ?_
  exact eqf_last (by rfl) (by go_simp; rfl) (by go_simp; rfl) (by go_simp)
theorem neq_pair (w : World) (x : Pair) : (binOp .neq 79 (.agg #[.string x.key, .string x.val]) (.agg #[.string x.key, .string x.val])).run Try.prog w = .ok (.bool false) w := by
  rw [run_neq_struct, show (10000 : Nat) = 9998 + 2 from rfl, eqA_pair]
  simp
theorem neq_intent (w : World) (x : Intent) : (binOp .neq 81 (.agg #[.string x.entry, .int .i64 x.version, .bool x.gone]) (.agg #[.string x.entry, .int .i64 x.version, .bool x.gone])).run Try.prog w = .ok (.bool false) w := by
  rw [run_neq_struct, show (10000 : Nat) = 9998 + 2 from rfl, eqA_intent]
  simp

/-! ### layer 1 -/
/-- A slice that a literal has made. -/
theorem own_one {w : World} {g base : Nat} {e : TypeId} {k : IntKind} {y : Int} (F : Nat → Prop) (hg : w.heap[g]? = some (.cells #[.int k y] e (0, 0))) (hb : base ≤ g) : Own (tInt k) e w F base (.slice (some ⟨g, 0, none⟩) 1 1) [y] :=
  nums_own F ⟨rfl, .inr ⟨g, 1, _, rfl, hb, hg, by simp, by simp [maxLen], by simp, by simp⟩⟩

theorem rnum_calls (k : Nat) : ∀ (n : Nat), n ≤ k → n ≤ 9223372036854775807 → ∀ w : World, Calls Try.prog 53 #[.int .i64 n] w (RetOwn (tInt .u8) 5 w (numB n)) := by
  induction k with
  | zero =>
    intro n hk hn w
    obtain rfl : n = 0 := by omega
    go_enter Try.func53, Try.ntmps53
    go_wp2
    go_ret
    refine ⟨_, rfl, ?_, (Ext.refl w).alloc _⟩
    rw [numB_small (by omega)]
    exact own_one _ (blk_new rfl) (Nat.le_refl _)
  | succ k ih =>
    intro n hk hn w
    by_cases hs : n < 128
    · go_enter Try.func53, Try.ntmps53
      go_wp2
      go_ret
      refine ⟨_, rfl, ?_, (Ext.refl w).alloc _⟩
      rw [numB_small hs]
      exact own_one _ (blk_new rfl) (Nat.le_refl _)
    · have h9 := numB_le9 hn
      rw [numB_big hs, List.length_cons] at h9
      go_enter Try.func53, Try.ntmps53
      go_wp2_with (first
        | (go_at_call 53; refine (ih (n / 128) (by omega) (by omega) _).mono ?_; rintro e w1 ⟨v, rfl, hO, he⟩)
        | (at_builtin; refine app_u8s w.heap.size rfl _ _ rfl (own_one (fun _ => False) (blk_ext (blk_new rfl) he) (Nat.le_refl _)) hO.sl rfl rfl (by have := ((Ext.refl w).alloc _).trans he |>.sz; exact this) (by simp only [List.length_cons, List.length_nil]; omega) ?_; intro v1 w2 ho1 hg hat))
      go_ret
      refine ⟨_, rfl, ?_, (((Ext.refl w).alloc _).trans he).grown hg (fun q hq => by have h : w.heap.size = q := Option.some.inj hq; omega)⟩
      rw [numB_big hs]
      exact ho1
theorem rnumN_calls (n : Nat) (hn : n ≤ 9223372036854775807) (w : World) : Calls Try.prog 53 #[.int .i64 n] w (RetOwn (tInt .u8) 5 w (numB n)) := rnum_calls n n (Nat.le_refl _) hn w
theorem rnumI_calls (n : Int) (h0 : 0 ≤ n) (hn : n ≤ 9223372036854775807) (w : World) : Calls Try.prog 53 #[.int .i64 n] w (RetOwn (tInt .u8) 5 w (numB n.toNat)) := by
  obtain ⟨m, rfl⟩ := Int.eq_ofNat_of_zero_le h0
  exact rnumN_calls m (by omega) w
set_option maxHeartbeats 1000000 in
theorem rtext_calls (s : ByteArray) (hs : s.size ≤ 70368744177664) (w : World) : Calls Try.prog 55 #[.string s] w (RetOwn (tInt .u8) 5 w (textB s)) := by
  have h9 := numB_le9 (n := s.size) (by omega)
  go_enter Try.func55, Try.ntmps55
  go_wp2_with (first
    | (go_at_call 53; refine (rnumN_calls s.size (by omega) _).mono ?_; rintro e w1 ⟨v, rfl, hO, he⟩)
    | (at_builtin; refine app_str w.heap.size rfl _ _ rfl hO rfl rfl he.sz (by omega) ?_; intro v1 w2 ho1 hg))
  go_ret
  exact ⟨_, rfl, ho1, he.grown hg (own_ge hO)⟩

/-! ### layer 13: small ones -/
theorem rnumber_calls (n : Int) (w : World) : Calls Try.prog 52 #[.int .i64 n] w fun e w' => e = .returned (.bool (wi n maxN)) ∧ w = w' := by
  by_cases h : 0 ≤ n <;> by_cases h' : n ≤ 1099511627776
  all_goals
    go_enter Try.func52, Try.ntmps52
    go_wp2
    go_ret
    refine ⟨ret1 (vbool (b := wi n maxN) (Bool.eq_iff_iff.2 ?_)), rfl⟩
    rw [wi_iff, maxN]
    first | (simp only [true_iff]; exact ⟨by omega, by omega⟩) | (simp only [Bool.false_eq_true, false_iff]; omega) | (simp only [decide_eq_true_eq]; omega)
theorem rflag_calls (b : Bool) (w : World) : Calls Try.prog 54 #[.bool b] w (RetOwn (tInt .u8) 5 w [bitI b]) := by
  cases b
  all_goals
    go_enter Try.func54, Try.ntmps54
    go_wp2
    go_ret
    exact ⟨_, rfl, own_one _ (blk_new rfl) (Nat.le_refl _), (Ext.refl w).alloc _⟩
/-- The numbers that the document goes through. -/
def Letter.seven (l : Letter) : List Int := [l.src, l.dst, l.a, l.b, l.c, l.d, l.code]
theorem sl_nums {w : World} {g : Nat} {e : TypeId} {k : IntKind} {xs : List Int} {n : Nat} (hn : n = xs.length) (hm : n ≤ 1000) (hg : w.heap[g]? = some (.cells (xs.map (Value.int k)).toArray e (0, 0))) : Sl (tInt k) w (fun q => q = g) (.slice (some ⟨g, 0, none⟩) n n) xs := by
  subst hn
  exact ⟨_, _, rfl, Nat.le_refl _, by omega, fun _ => ⟨g, 0, rfl, rfl, blk_lt hg, fun i x hx => ⟨_, rfl, fun j u hu => by
    match j, hu with
    | 0, hu =>
      obtain rfl := Option.some.inj hu
      rw [blk_cell hg]
      show ((xs.map (Value.int k)).toArray)[0 + i * 1 + 0]? = _
      simp [hx]⟩⟩⟩
theorem rnumbers_calls (l : Letter) (pv iv : Value) (A1 A2 : Option Addr) (n1 c1 n2 c2 : Nat) (hp : pv = .slice A1 n1 c1) (hi : iv = .slice A2 n2 c2) (w : World) : Calls Try.prog 37 #[letV l pv iv] w fun e w' => ∃ g, e = .returned (.slice (some ⟨g, 0, none⟩) 7 7) ∧ w.heap.size ≤ g ∧ Sl (tInt .i64) w' (fun q => q = g) (.slice (some ⟨g, 0, none⟩) 7 7) l.seven ∧ Ext w w' := by
  subst hp hi
  go_enter Try.func37, Try.ntmps37
  go_wp2
  go_ret
  exact ⟨_, rfl, by simp, sl_nums rfl (by omega) (blk_new (by simp)), ((Ext.refl w).alloc _).alloc _⟩
end Go.Proofs.Ytmimncinnflfkaa
