/- Layer 14 (net): Look. -/
import Derived.Test.YtmimncinnflfkaaNet3
set_option linter.all false
namespace Go.Proofs.Ytmimncinnflfkaa
open Go.RowKit
set_option maxRecDepth 100000

set_option maxHeartbeats 2000000 in
theorem look_aux {F : Nat → Prop} {p mb last : Nat} {rs : List Row} (w : World) (h : NetM w F p mb rs last) (k : Int) (l : Letter) {pv iv : Value} (b : Bool) (hl : LetIn w F l pv iv) (hs : l.small)
    (hrun : (Instr.lookup 75 (.map (some mb)) (.int .i64 k) true).run Try.prog (w.alloc (.cells (letCs Letter.zero (.slice none 0 0) (.slice none 0 0)) 34)) = .ok (.tuple #[letV l pv iv, .bool b]) (w.alloc (.cells (letCs Letter.zero (.slice none 0 0) (.slice none 0 0)) 34))) :
    Calls Try.prog 16 #[.pointer (some ⟨p, 0, none⟩), .int .i64 k] w fun e w' => ∃ pv iv, e = .returned (.tuple #[letV l pv iv, .bool b]) ∧ LetIn w' (fun k => w.heap.size ≤ k) l pv iv ∧ Ext w w' := by
  obtain ⟨d0, d1⟩ := h.cells
  obtain ⟨hp, hmb⟩ := h.lt
  obtain ⟨A1, c1, rfl, _, _⟩ := hl.pairs.form
  obtain ⟨A2, c2, rfl, _, _⟩ := hl.intents.form
  obtain ⟨n1, hl1⟩ : ∃ n1, n1 = l.pairs.length := ⟨_, rfl⟩
  obtain ⟨n2, hl2⟩ : ∃ n2, n2 = l.intents.length := ⟨_, rfl⟩
  rw [← hl1, ← hl2] at hl hrun
  have Hl1 := Lib.hid hl1
  have Hl2 := Lib.hid hl2
  clear hl1 hl2
  have hE0 : Ext w (w.alloc (.cells (letCs Letter.zero (.slice none 0 0) (.slice none 0 0)) 34)) := (Ext.refl w).alloc _
  have hZ : (w.alloc (.cells (letCs Letter.zero (.slice none 0 0) (.slice none 0 0)) 34)).heap[w.heap.size]? = some (.cells (letCs Letter.zero (.slice none 0 0) (.slice none 0 0)) 34 (0, 0)) := blk_new rfl
  have hE1 := hE0.alloc (.cells (letCs l (.slice A1 n1 c1) (.slice A2 n2 c2)) 34)
  have hZ1 := blk_old (o' := .cells (letCs l (.slice A1 n1 c1) (.slice A2 n2 c2)) 34) hZ
  go_enter Try.func16, Try.ntmps16
  go_wp2_with (first
    | (at_lookup; refine wpList_lookup_run rfl _ _ 75 rfl mb _ _ rfl rfl hrun ?_)
    | (go_at_call 38; refine (copy_calls l _ (hl.ext hE1) (by have := hs.1; omega) (by have := hs.2.1; omega)).mono ?_; rintro e w2 ⟨pa, ia, rfl, hLa, hea⟩; obtain ⟨A3, c3, rfl, _, _⟩ := hLa.pairs.form; obtain ⟨A4, c4, rfl, _, _⟩ := hLa.intents.form; have hZ2 := blk_ext hZ1 hea; obtain ⟨g0, g1, g2, g3, g4, g5, g6, g7, g8, g9, g10, g11, g12, g13⟩ := let_cells hZ2; have hfz := blk_free hZ2))
  have hR := setLet_blk hZ2 l (.slice A3 l.pairs.length c3) (.slice A4 l.intents.length c4)
  have hU4 := setLet_upd w2 w.heap.size l (.slice A3 l.pairs.length c3) (.slice A4 l.intents.length c4)
  refine bodyPost_ret (results_cell_tmp_row rfl _ _ w.heap.size _ _ _ _ rfl hR Try.underlying34 rfl info_letter) rfl ?_
  refine ⟨_, _, rfl, (hLa.upd hU4 (fun k _ hk e => ?_)).mono (fun k hk => ?_), hU4.ext (hE1.trans hea) (fun k hk => by omega)⟩
  · simp at hk; omega
  · simp at hk; omega
theorem Letter.zero_small : Letter.zero.small := ⟨by decide, by decide, fun s hs => by
  have h : Letter.zero.alls = [⟨#[]⟩, ⟨#[]⟩, ⟨#[]⟩] := rfl
  rw [h] at hs
  have : s = ⟨#[]⟩ := by simpa using hs
  subst this
  decide⟩
theorem look_calls {F : Nat → Prop} {p mb last : Nat} {rs : List Row} (w : World) (h : NetM w F p mb rs last) (k : Int) (hw : (Lit.int .i64 k).wf = true) :
    Calls Try.prog 16 #[.pointer (some ⟨p, 0, none⟩), .int .i64 k] w fun e w' => ∃ l b pv iv, ((b = true ∧ ∃ r ∈ rs, r.n = k ∧ r.l = l) ∨ (b = false ∧ (∀ r ∈ rs, r.n ≠ k) ∧ l = Letter.zero)) ∧ e = .returned (.tuple #[letV l pv iv, .bool b]) ∧ LetIn w' (fun k => w.heap.size ≤ k) l pv iv ∧ Ext w w' := by
  rcases mapLook (h.ext ((Ext.refl w).alloc (.cells (letCs Letter.zero (.slice none 0 0) (.slice none 0 0)) 34))).map hw with ⟨v, hv, hrun⟩ | ⟨hn, hrun⟩
  · obtain ⟨r, hr, hk, rfl⟩ := h.find hv
    obtain ⟨q1, q2, q3⟩ := h.rows r hr
    refine (look_aux w h k r.l true q3 q2 hrun).mono ?_
    rintro e w' ⟨pv, iv, he, hL, hE⟩
    exact ⟨_, _, pv, iv, .inl ⟨rfl, r, hr, hk, rfl⟩, he, hL, hE⟩
  · refine (look_aux w h k Letter.zero false ⟨Sl.nil _ _ _, Sl.nil _ _ _⟩ Letter.zero_small hrun).mono ?_
    rintro e w' ⟨pv, iv, he, hL, hE⟩
    exact ⟨_, _, pv, iv, .inr ⟨rfl, fun r hr => hn r.ent (List.mem_map.2 ⟨r, hr, rfl⟩), rfl⟩, he, hL, hE⟩
end Go.Proofs.Ytmimncinnflfkaa
