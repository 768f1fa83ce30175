/- What an argument that holds letters reads as. -/
import Derived.Test.YtmimncinnflfkaaOpen
import Derived.Test.YtmimncinnflfkaaLetter
set_option linter.all false
namespace Go.Proofs.Ytmimncinnflfkaa
open Go.RowKit Go.ChangeShapes Go.WideShapes
set_option maxRecDepth 100000

theorem cells_int : Try.prog.cellsOf 3 = 1 := by kernel_rfl
theorem cells_errno : Try.prog.cellsOf 32 = 1 := by kernel_rfl
theorem cells_str : Try.prog.cellsOf 9 = 1 := by kernel_rfl
theorem cells_bool : Try.prog.cellsOf 4 = 1 := by kernel_rfl
theorem oInt : Opn Try.prog (tInt .i64) 3 (fun a _ => (Lit.int .i64 a).wf = true) := opn_int Try.underlying3 cells_int
theorem oErr : Opn Try.prog (tInt .i64) 32 (fun a _ => (Lit.int .i64 a).wf = true) := opn_int Try.underlying32 cells_errno
theorem oStr : Opn Try.prog tStr 9 (fun s n => s.size + 1 ≤ n) := opn_str Try.underlying9 cells_str
theorem oBool : Opn Try.prog tBool 4 (fun _ _ => True) := opn_bool Try.underlying4 cells_bool

theorem oPair : Opn Try.prog tPairs 79 (fun p n => p.key.size ≤ n ∧ p.val.size ≤ n) := by
  refine ⟨by kernel_rfl, fun {H} enc w spare held fuel cs x h => ?_, fun h hm => ⟨Nat.le_trans h.1 hm, Nat.le_trans h.2 hm⟩⟩
  obtain ⟨xs, n, _, rfl, hl, hx, hf⟩ := DataW.trod_struct Try.underlying79 h
  rw [show Try.prog.cellsOf 79 = 2 from by kernel_rfl] at hl
  match cs, hl with
  | [c0, c1], _ =>
    obtain ⟨a0, h0, g0⟩ := fld hx hf 0 _ rfl oStr
    obtain ⟨a1, h1, g1⟩ := fld hx hf 1 _ rfl oStr
    have e0 : [c0] = [.string a0] := h0
    have e1 : [c1] = [.string a1] := h1
    injection e0 with e0 _; injection e1 with e1 _
    subst e0 e1
    exact ⟨⟨a0, a1⟩, rfl, by show a0.size ≤ _; exact Nat.le_of_succ_le g0, by show a1.size ≤ _; exact Nat.le_of_succ_le g1⟩
theorem oIntent : Opn Try.prog tIntent 81 (fun p n => p.entry.size ≤ n) := by
  refine ⟨by kernel_rfl, fun {H} enc w spare held fuel cs x h => ?_, fun h hm => Nat.le_trans h hm⟩
  obtain ⟨xs, n, _, rfl, hl, hx, hf⟩ := DataW.trod_struct Try.underlying81 h
  rw [show Try.prog.cellsOf 81 = 3 from by kernel_rfl] at hl
  match cs, hl with
  | [c0, c1, c2], _ =>
    obtain ⟨a0, h0, g0⟩ := fld hx hf 0 _ rfl oStr
    obtain ⟨a1, h1, g1⟩ := fld hx hf 1 _ rfl oInt
    obtain ⟨a2, h2, g2⟩ := fld hx hf 2 _ rfl oBool
    have e0 : [c0] = [.string a0] := h0
    have e1 : [c1] = [.int .i64 a1] := h1
    have e2 : [c2] = [.bool a2] := h2
    injection e0 with e0 _; injection e1 with e1 _; injection e2 with e2 _
    subst e0 e1 e2
    exact ⟨⟨a0, a1, a2⟩, rfl, by show a0.size ≤ _; exact Nat.le_of_succ_le g0⟩
theorem cells_pairs : Try.prog.cellsOf 30 = 1 := by kernel_rfl
theorem cells_intents : Try.prog.cellsOf 31 = 1 := by kernel_rfl
theorem oPairs : Opn Try.prog (tSl tPairs) 30 (fun xs n => xs.length + 1 ≤ n ∧ ∀ x ∈ xs, x.key.size ≤ n ∧ x.val.size ≤ n) := opn_slice oPair Try.underlying30 cells_pairs
theorem oIntents : Opn Try.prog (tSl tIntent) 31 (fun xs n => xs.length + 1 ≤ n ∧ ∀ x ∈ xs, x.entry.size ≤ n) := opn_slice oIntent Try.underlying31 cells_intents

/-- A letter as an element. -/
def tLetter : Ty Letter where
  sz := 14
  pos := by omega
  K := fun w F x cs => ∃ pv iv, cs = (letCs x pv iv).toList ∧ LetIn w F x pv iv
  len := by rintro _ _ _ _ ⟨pv, iv, rfl, _⟩; rfl
  one := by
    rintro _ _ _ _ ⟨pv, iv, rfl, h⟩ u hu
    obtain ⟨A1, c1, rfl, _⟩ := h.pairs.form
    obtain ⟨A2, c2, rfl, _⟩ := h.intents.form
    simp only [List.mem_cons, List.not_mem_nil, or_false] at hu
    rcases hu with rfl | rfl | rfl | rfl | rfl | rfl | rfl | rfl | rfl | rfl | rfl | rfl | rfl | rfl <;> rfl
  mono := by rintro _ _ _ _ _ ⟨pv, iv, rfl, h⟩ hF; exact ⟨pv, iv, rfl, h.mono hF⟩
  move := by rintro _ _ _ _ _ ⟨pv, iv, rfl, h⟩ hF; exact ⟨pv, iv, rfl, h.move hF⟩
  bnd := by rintro _ _ _ _ ⟨pv, iv, rfl, h⟩; exact ⟨pv, iv, rfl, h.bnd⟩

theorem alls_le {l : Letter} {n : Nat} (h1 : l.s.size ≤ n) (h2 : l.t.size ≤ n) (h3 : l.body.size ≤ n) (hp : ∀ p ∈ l.pairs, p.key.size ≤ n ∧ p.val.size ≤ n) (hi : ∀ p ∈ l.intents, p.entry.size ≤ n) : ∀ s ∈ l.alls, s.size ≤ n := by
  intro s hs
  rw [Letter.alls, List.mem_append, List.mem_append, List.mem_flatMap, List.mem_map] at hs
  rcases hs with (hs | ⟨p, hp', hs⟩) | ⟨x, hx, rfl⟩
  · simp only [Letter.txts, List.mem_cons, List.not_mem_nil, or_false] at hs
    rcases hs with rfl | rfl | rfl <;> assumption
  · simp only [List.mem_cons, List.not_mem_nil, or_false] at hs
    rcases hs with rfl | rfl
    · exact (hp p hp').1
    · exact (hp p hp').2
  · exact hi x hx

theorem oLetter : Opn Try.prog tLetter 34 (fun l n => ∀ s ∈ l.alls, s.size ≤ n) := by
  refine ⟨by kernel_rfl, fun {H} enc w spare held fuel cs x h => ?_, fun h hm s hs => Nat.le_trans (h s hs) hm⟩
  obtain ⟨xs, n, _, rfl, hl, hx, hf⟩ := DataW.trod_struct Try.underlying34 h
  rw [show Try.prog.cellsOf 34 = 14 from by kernel_rfl] at hl
  match cs, hl with
  | [c0, c1, c2, c3, c4, c5, c6, c7, c8, c9, c10, c11, c12, c13], _ =>
    obtain ⟨a0, h0, g0⟩ := fld hx hf 0 _ rfl oInt
    obtain ⟨a1, h1, g1⟩ := fld hx hf 1 _ rfl oInt
    obtain ⟨a2, h2, g2⟩ := fld hx hf 2 _ rfl oInt
    obtain ⟨a3, h3, g3⟩ := fld hx hf 3 _ rfl oInt
    obtain ⟨a4, h4, g4⟩ := fld hx hf 4 _ rfl oInt
    obtain ⟨a5, h5, g5⟩ := fld hx hf 5 _ rfl oInt
    obtain ⟨a6, h6, g6⟩ := fld hx hf 6 _ rfl oInt
    obtain ⟨a7, h7, g7⟩ := fld hx hf 7 _ rfl oStr
    obtain ⟨a8, h8, g8⟩ := fld hx hf 8 _ rfl oStr
    obtain ⟨a9, h9, g9⟩ := fld hx hf 9 _ rfl oPairs
    obtain ⟨a10, h10, g10⟩ := fld hx hf 10 _ rfl oIntents
    obtain ⟨a11, h11, g11⟩ := fld hx hf 11 _ rfl oErr
    obtain ⟨a12, h12, g12⟩ := fld hx hf 12 _ rfl oBool
    obtain ⟨a13, h13, g13⟩ := fld hx hf 13 _ rfl oStr
    have e0 : [c0] = [.int .i64 a0] := h0
    have e1 : [c1] = [.int .i64 a1] := h1
    have e2 : [c2] = [.int .i64 a2] := h2
    have e3 : [c3] = [.int .i64 a3] := h3
    have e4 : [c4] = [.int .i64 a4] := h4
    have e5 : [c5] = [.int .i64 a5] := h5
    have e6 : [c6] = [.int .i64 a6] := h6
    have e7 : [c7] = [.string a7] := h7
    have e8 : [c8] = [.string a8] := h8
    obtain ⟨v9, e9, s9⟩ : ∃ v, [c9] = [v] ∧ Sl tPairs w (fun _ => True) v a9 := h9
    obtain ⟨v10, e10, s10⟩ : ∃ v, [c10] = [v] ∧ Sl tIntent w (fun _ => True) v a10 := h10
    have e11 : [c11] = [.int .i64 a11] := h11
    have e12 : [c12] = [.bool a12] := h12
    have e13 : [c13] = [.string a13] := h13
    injection e0 with e0 _
    injection e1 with e1 _
    injection e2 with e2 _
    injection e3 with e3 _
    injection e4 with e4 _
    injection e5 with e5 _
    injection e6 with e6 _
    injection e7 with e7 _
    injection e8 with e8 _
    injection e9 with e9 _
    injection e10 with e10 _
    injection e11 with e11 _
    injection e12 with e12 _
    injection e13 with e13 _
    subst e0 e1 e2 e3 e4 e5 e6 e7 e8 e9 e10 e11 e12 e13
    exact ⟨⟨a0, a1, a2, a3, a4, a5, a6, a7, a8, a9, a10, a11, a12, a13⟩, ⟨_, _, rfl, s9, s10⟩, alls_le (Nat.le_of_succ_le g7) (Nat.le_of_succ_le g8) (Nat.le_of_succ_le g13) g9.2 g10.2⟩
end Go.Proofs.Ytmimncinnflfkaa
