/- 'shelfmarklaw14.NetPlays', where what it reads is of bulk at most 1048576: it returns true, and its argument reads as it did.
   Conditions: those of the given row 'netPlaysUptoRow'; none beside them. -/
import Derived.Test.YtmimncinnflfkaaPlays14
import Derived.Test.YtmimncinnflfkaaOpenLet
import Derived.OpenShut
set_option linter.all false
namespace Go.Proofs.Ytmimncinnflfkaa.netPlays
open Go.ChangeShapes Go.WideShapes Go.ChangeAt Go.RowKit
set_option maxRecDepth 100000

theorem oAct : Opn Try.prog tAct 36 (fun a n => (∀ s ∈ a.l.alls, s.size ≤ n) ∧ (Lit.int .i64 a.n).wf = true) := by
  refine ⟨by kernel_rfl, fun {H} enc w spare held fuel cs x h => ?_, fun h hm => ⟨fun s hs => Nat.le_trans (h.1 s hs) hm, h.2⟩⟩
  obtain ⟨xs, n, _, rfl, hl, hx, hf⟩ := DataW.trod_struct Try.underlying36 h
  rw [show Try.prog.cellsOf 36 = 16 from by kernel_rfl] at hl
  match cs, hl with
  | [c0, c1, c2, c3, c4, c5, c6, c7, c8, c9, c10, c11, c12, c13, c14, c15], _ =>
    obtain ⟨a0, h0, g0⟩ := fld hx hf 0 _ rfl oInt
    obtain ⟨a1, h1, g1⟩ := fld hx hf 1 _ rfl oLetter
    obtain ⟨a2, h2, g2⟩ := fld hx hf 2 _ rfl oInt
    have e0 : [c0] = [.int .i64 a0] := h0
    have e2 : [c15] = [.int .i64 a2] := h2
    obtain ⟨pv, iv, e1, s1⟩ : ∃ pv iv, [c1, c2, c3, c4, c5, c6, c7, c8, c9, c10, c11, c12, c13, c14] = (letCs a1 pv iv).toList ∧ LetIn w (fun _ => True) a1 pv iv := h1
    injection e0 with e0 _; injection e2 with e2 _
    refine ⟨⟨a0, a1, a2⟩, ⟨pv, iv, ?_, s1⟩, g1, g2⟩
    show c0 :: [c1, c2, c3, c4, c5, c6, c7, c8, c9, c10, c11, c12, c13, c14] ++ [c15] = .int .i64 a0 :: (letCs a1 pv iv).toList ++ [.int .i64 a2]
    rw [e0, e1, e2]
theorem oActs : Opn Try.prog (tSl tAct) 22 (fun xs n => xs.length + 1 ≤ n ∧ ∀ x ∈ xs, (∀ s ∈ x.l.alls, s.size ≤ n) ∧ (Lit.int .i64 x.n).wf = true) := opn_slice oAct Try.underlying22 (by kernel_rfl)

theorem own : ownKnob Try.prog.godebug = none := by kernel_rfl
theorem laidOut : laidOutB Try.prog = true := by kernel_rfl

theorem contract (H : Type) (enc : TypeId × Value → H) (W : World) (base : Nat) (args : Array Value) (ds gs : List (DataW H)) (before : List MemPlace)
    (hval : ∀ (j : Nat) t v, Try.f3.params[j]? = some t → args[j]? = some v → Value.okWide Try.prog W .any base t v)
    (hW : DataW.Whole enc Try.prog Try.f3.params.toList Rows.netPlaysSpec.vars false W args.toList ds gs before) (hk : Rows.uptoSmall H (ds ++ gs) = true) :
    Calls Try.prog 3 args W fun e W' => ∃ v, e = .returned v ∧ Rows.netPlaysSpec.post enc Try.prog Try.f3 false true false false W args v W' := by
  have hW' := hW
  have hlt := hW.lt
  obtain ⟨p, q, hA0, hV, rfl, hfz, hnd⟩ := hW
  have hA : DataW.TrodAll enc Try.prog W 0 (fun _ => true) true Try.f3.params.toList args.toList ds p := hA0
  rw [Try.params3] at hA hval
  obtain ⟨v0, vs0, d0, ds0, p0, q0, hargs, rfl, rfl, h0, r0⟩ := trodAll_cons hA
  obtain ⟨rfl, rfl, rfl⟩ := trodAll_nil r0
  obtain rfl : args = #[v0] := by cases args; simp_all
  obtain ⟨rfl, rfl⟩ := trodVars_none hV
  obtain ⟨fuel, hf⟩ := h0
  obtain ⟨acts, ⟨v, hv, hS⟩, hlen, hall⟩ := oActs.op enc W _ _ fuel _ _ hf
  have hv0 : v0 = v := by
    obtain ⟨A, n, c, rfl⟩ := okWide_slice Try.underlying22 (hval 0 22 v0 rfl rfl)
    injection hv
  subst hv0
  have hb : Rows.uptoBulk d0 ≤ 1048576 := by
    have h := of_decide_eq_true hk
    simp only [List.append_nil, Rows.uptoBulkAll] at h
    omega
  refine (netPlays_calls W hS (fun a ha => ⟨fun s hs => Nat.le_trans ((hall a ha).1 s hs) hb, (hall a ha).2⟩)).mono fun e W' hr => ?_
  obtain ⟨he, hg⟩ := hr
  refine ⟨_, he, [d0], [], p0 ++ [] ++ [], [], p0 ++ [], [], hW', ?_, ?_, rfl, Below.frame hg _, fun h => by cases h⟩
  · exact trodAll_cons_mk (shut_bool Try.underlying4 _) trodAll_mk0
  · exact trodAll_below laidOut hg _ _ _ _ (fun t ht => by rw [List.mem_singleton.1 ht]; exact ⟨by kernel_rfl, of_decide_eq_true (by kernel_rfl)⟩) (show DataW.TrodAll enc Try.prog W 0 (fun _ => true) true [22] [v0] [d0] (p0 ++ []) from hA) (fun x hx => hlt x (by simpa using hx))

theorem lifted (os : Os) (started : os.Started) (H : Type) (enc : TypeId × Value → H) (F : Stop.Interp) :
    ReturnsInHanded {} Try.checked os 3 .any ((Rows.OpenSpec.upto Rows.netPlaysSpec).pre6 enc Try.prog Try.f3 Rows.netPlaysUptoRow.domain false) (((Rows.OpenSpec.upto Rows.netPlaysSpec).at F).post enc Try.prog Try.f3 false true false false) := by
  refine returnsInHanded_of_cond (C := Try.checked) (s := Rows.OpenSpec.upto Rows.netPlaysSpec) (k := Rows.uptoSmall) rfl own started (by kernel_rfl) Try.func3
    (OpenSpec.witness (enc := enc) (C := Try.checked) (s := Rows.OpenSpec.upto Rows.netPlaysSpec) (k := Rows.uptoSmall) rfl false ⟨#[], #[.slice none 0 0], []⟩ 8 (by kernel_rfl) (by kernel_rfl) (by kernel_rfl)
      (x := ([.nil], [], [])) (by kernel_rfl) rfl (by kernel_rfl)) ?_
  intro W base args ds gs before hval hW _ hk _
  exact contract H enc W base args ds gs before hval hW hk

theorem over : Rows.netPlaysUptoRow.holds Try.pinned (Rows.OpenSpec.upto Rows.netPlaysSpec) :=
  OpenClaim.holds_of_cond 3 Try.f3 rfl rfl rfl rfl rfl rfl rfl ⟨rfl, rfl, rfl, rfl, rfl⟩ rfl rfl rfl rfl rfl (by kernel_rfl) Try.func3 (by kernel_rfl)
    (of_decide_eq_true (by kernel_rfl)) (by unfold Func.isWrapper; first | (rw [if_pos (by decide +kernel)]; kernel_rfl) | (rw [if_neg (by decide +kernel)]; exact ⟨rfl, rfl⟩))
    (fun os started H enc _ F => lifted os started H enc F)

theorem proved : Rows.NetPlaysUptoSaid :=
  over
end Go.Proofs.Ytmimncinnflfkaa.netPlays
