/- Layer 13: Copy: a letter whose lists are new memory. -/
import Derived.Test.YtmimncinnflfkaaLetterPack
import Derived.Lib.SliceRun
set_option linter.all false
namespace Go.Proofs.Ytmimncinnflfkaa
open Go.RowKit
set_option maxRecDepth 100000

theorem info_pair : (Try.prog.info? 79).map (fun i => (i.zero, i.size, i.bytes)) = some (some (.agg #[.string ⟨#[]⟩, .string ⟨#[]⟩]), 2, 32) := by kernel_rfl
theorem info_intent : (Try.prog.info? 81).map (fun i => (i.zero, i.size, i.bytes)) = some (some (.agg #[.string ⟨#[]⟩, .int .i64 0, .bool false]), 3, 32) := by kernel_rfl

/-- An empty slice that a literal has made. -/
theorem own_zero {α : Type} (d : Ty α) {w : World} {g base : Nat} {e : TypeId} (F : Nat → Prop) (hg : w.heap[g]? = some (.cells #[] e (0, 0))) (hb : base ≤ g) : Own d e w F base (.slice (some ⟨g, 0, none⟩) 0 0) [] :=
  ⟨[], ⟨by simp, .inr ⟨g, 0, _, rfl, hb, hg, by simp, by simp [maxLen], by simp, by simp⟩⟩, Reps.nil _ _ _⟩

section
variable {ops : Array Oper} {rest : List Oper} {o : Oper} {a : Act} {Q : Exit → Act → World → Prop}
theorem app_pairs {W : World} (base : Nat) (hgd : o.guard = none) (s x : Operand)
    (ho : o.op = .call { callee := .builtin .append, args := #[s, x], argTypes := #[30, 30] })
    {F F' : Nat → Prop} {v u : Value} {xs ys : List Pair} (HO : Own tPairs 79 W F base v xs) (HR : Sl tPairs W F' u ys) (hs : a.eval s = v) (hx : a.eval x = u)
    (hbase : base ≤ W.heap.size) (hl : xs.length + ys.length ≤ 4398046511104)
    (h : ∀ v1 w1, Own tPairs 79 w1 F base v1 (xs ++ ys) → W.grownBy w1 v.ownBlock → (v1.ownBlock = v.ownBlock ∨ ∃ b, v1.ownBlock = some b ∧ W.heap.size ≤ b) → wpList Try.prog ops Q rest (a.put o.dst v1) w1) :
    wpList Try.prog ops Q (o :: rest) a W := by
  obtain ⟨v1, w1, hr, h1, h2, h3⟩ := appN_run (P := Try.prog) tPairs base 30 o.type 79 _ 32 Try.underlying30 info_pair rfl (by decide) HO HR (fun _ _ h => h) hbase (by omega)
  exact append_list hgd ho hs hx hr (h v1 w1 h1 h2 h3)
theorem app_intents {W : World} (base : Nat) (hgd : o.guard = none) (s x : Operand)
    (ho : o.op = .call { callee := .builtin .append, args := #[s, x], argTypes := #[31, 31] })
    {F F' : Nat → Prop} {v u : Value} {xs ys : List Intent} (HO : Own tIntent 81 W F base v xs) (HR : Sl tIntent W F' u ys) (hs : a.eval s = v) (hx : a.eval x = u)
    (hbase : base ≤ W.heap.size) (hl : xs.length + ys.length ≤ 4398046511104)
    (h : ∀ v1 w1, Own tIntent 81 w1 F base v1 (xs ++ ys) → W.grownBy w1 v.ownBlock → (v1.ownBlock = v.ownBlock ∨ ∃ b, v1.ownBlock = some b ∧ W.heap.size ≤ b) → wpList Try.prog ops Q rest (a.put o.dst v1) w1) :
    wpList Try.prog ops Q (o :: rest) a W := by
  obtain ⟨v1, w1, hr, h1, h2, h3⟩ := appN_run (P := Try.prog) tIntent base 31 o.type 81 _ 32 Try.underlying31 info_intent rfl (by decide) HO HR (fun _ _ h => h) hbase (by omega)
  exact append_list hgd ho hs hx hr (h v1 w1 h1 h2 h3)
end

/-- It returns a slice in new memory that reads as xs. -/
def RetNew {α : Type} (d : Ty α) (w : World) (xs : List α) : Ending → World → Prop := fun en w' => ∃ v, en = .returned v ∧ Sl d w' (fun k => w.heap.size ≤ k) v xs ∧ Ext w w'

theorem Sl.none_nil {α : Type} {d : Ty α} {w : World} {F : Nat → Prop} {xs : List α} {n c : Nat} (h : Sl d w F (.slice none n c) xs) : n = 0 ∧ xs = [] := by
  obtain ⟨A, c', e, h1, h2, h3⟩ := h
  injection e with e1 e2 e3
  subst e1 e2
  rcases Nat.eq_zero_or_pos xs.length with h0 | h0
  · exact ⟨h0, List.eq_nil_of_length_eq_zero h0⟩
  · obtain ⟨_, _, h, _⟩ := h3 h0
    cases h

theorem clonePairs_calls {F : Nat → Prop} {v : Value} {xs : List Pair} (w : World) (h : Sl tPairs w F v xs) (hn : xs.length ≤ 100000) : Calls Try.prog 57 #[v] w (RetNew tPairs w xs) := by
  obtain ⟨A, c, rfl, hc, _⟩ := h.form
  cases A with
  | none =>
    obtain ⟨h0, rfl⟩ := h.none_nil
    rw [h0]
    have hq := fun (w : World) (A : Option Addr) (n c : Nat) => Lib.run_eql_slice_nil (P := Try.prog) w 30 79 A n c 0 0 Try.underlying30
    go_enter Try.func57, Try.ntmps57
    go_wp2
    go_ret
    exact ⟨_, rfl, Sl.nil _ _ _, Ext.refl _⟩
  | some A =>
    have HO := own_zero tPairs (w := w.alloc (.cells #[] 79)) (base := w.heap.size) (fun _ => False) (blk_new rfl) (Nat.le_refl _)
    have HR := h.ext ((Ext.refl w).alloc (.cells #[] 79))
    obtain ⟨n, hl⟩ : ∃ n, n = xs.length := ⟨_, rfl⟩
    rw [← hl] at h HR hc hn ⊢
    have Hl := Lib.hid hl
    clear hl
    have hq := fun (w : World) (A : Option Addr) (n c : Nat) => Lib.run_eql_slice_nil (P := Try.prog) w 30 79 A n c 0 0 Try.underlying30
    go_enter Try.func57, Try.ntmps57
    go_wp2_with (at_builtin; refine app_pairs w.heap.size rfl _ _ rfl HO HR rfl rfl (by simp) (by rw [← Hl.out]; simp only [List.length_nil]; omega) ?_; intro v1 w1 hO1 hg _)
    go_ret
    refine ⟨_, rfl, ?_, ((Ext.refl w).alloc _).grown hg (own_ge HO)⟩
    exact hO1.sl.mono (fun k hk => by rcases hk with hk | hk; exact hk.elim; exact own_ge hO1 k hk)
theorem cloneIntents_calls {F : Nat → Prop} {v : Value} {xs : List Intent} (w : World) (h : Sl tIntent w F v xs) (hn : xs.length ≤ 100000) : Calls Try.prog 59 #[v] w (RetNew tIntent w xs) := by
  obtain ⟨A, c, rfl, hc, _⟩ := h.form
  cases A with
  | none =>
    obtain ⟨h0, rfl⟩ := h.none_nil
    rw [h0]
    have hq := fun (w : World) (A : Option Addr) (n c : Nat) => Lib.run_eql_slice_nil (P := Try.prog) w 31 81 A n c 0 0 Try.underlying31
    go_enter Try.func59, Try.ntmps59
    go_wp2
    go_ret
    exact ⟨_, rfl, Sl.nil _ _ _, Ext.refl _⟩
  | some A =>
    have HO := own_zero tIntent (w := w.alloc (.cells #[] 81)) (base := w.heap.size) (fun _ => False) (blk_new rfl) (Nat.le_refl _)
    have HR := h.ext ((Ext.refl w).alloc (.cells #[] 81))
    obtain ⟨n, hl⟩ : ∃ n, n = xs.length := ⟨_, rfl⟩
    rw [← hl] at h HR hc hn ⊢
    have Hl := Lib.hid hl
    clear hl
    have hq := fun (w : World) (A : Option Addr) (n c : Nat) => Lib.run_eql_slice_nil (P := Try.prog) w 31 81 A n c 0 0 Try.underlying31
    go_enter Try.func59, Try.ntmps59
    go_wp2_with (at_builtin; refine app_intents w.heap.size rfl _ _ rfl HO HR rfl rfl (by simp) (by rw [← Hl.out]; simp only [List.length_nil]; omega) ?_; intro v1 w1 hO1 hg _)
    go_ret
    refine ⟨_, rfl, ?_, ((Ext.refl w).alloc _).grown hg (own_ge HO)⟩
    exact hO1.sl.mono (fun k hk => by rcases hk with hk | hk; exact hk.elim; exact own_ge hO1 k hk)

/-- 's[:len(s):len(s)]' reads the same. -/
theorem Sl.clip {α : Type} {d : Ty α} {w : World} {F : Nat → Prop} {xs : List α} {A : Option Addr} {n c : Nat} (h : Sl d w F (.slice A n c) xs) : Sl d w F (.slice A n n) xs := by
  obtain ⟨A', c', e, h1, h2, h3⟩ := h
  injection e with e1 e2 e3
  subst e1 e2
  exact ⟨A, xs.length, rfl, Nat.le_refl _, h2, h3⟩
theorem clipPairs_calls {F : Nat → Prop} {v : Value} {xs : List Pair} (w : World) (h : Sl tPairs w F v xs) : Calls Try.prog 56 #[v] w fun e w' => ∃ v', e = .returned v' ∧ Sl tPairs w F v' xs ∧ w' = w := by
  obtain ⟨A, c, rfl, hc, hn⟩ := h.form
  obtain ⟨n, hl⟩ : ∃ n, n = xs.length := ⟨_, rfl⟩
  rw [← hl] at h hc hn ⊢
  have Hl := Lib.hid hl
  clear hl
  go_enter Try.func56, Try.ntmps56
  go_wp2
  go_ret
  exact ⟨_, rfl, h.clip, rfl⟩
theorem clipIntents_calls {F : Nat → Prop} {v : Value} {xs : List Intent} (w : World) (h : Sl tIntent w F v xs) : Calls Try.prog 58 #[v] w fun e w' => ∃ v', e = .returned v' ∧ Sl tIntent w F v' xs ∧ w' = w := by
  obtain ⟨A, c, rfl, hc, hn⟩ := h.form
  obtain ⟨n, hl⟩ : ∃ n, n = xs.length := ⟨_, rfl⟩
  rw [← hl] at h hc hn ⊢
  have Hl := Lib.hid hl
  clear hl
  go_enter Try.func58, Try.ntmps58
  go_wp2
  go_ret
  exact ⟨_, rfl, h.clip, rfl⟩

/-- The letter without anything. -/
def Letter.zero : Letter := { kind := 0, src := 0, dst := 0, a := 0, b := 0, c := 0, d := 0, s := ⟨#[]⟩, t := ⟨#[]⟩, pairs := [], intents := [], code := 0, yes := false, body := ⟨#[]⟩ }
/-- A letter laid into block g, cell by cell. -/
abbrev setLet (w : World) (g : Nat) (l : Letter) (pv iv : Value) : World :=
  (((((((((((((w.setCell ⟨g, 0, none⟩ (.int .i64 l.kind)).setCell ⟨g, 1, none⟩ (.int .i64 l.src)).setCell ⟨g, 2, none⟩ (.int .i64 l.dst)).setCell ⟨g, 3, none⟩ (.int .i64 l.a)).setCell ⟨g, 4, none⟩ (.int .i64 l.b)).setCell ⟨g, 5, none⟩ (.int .i64 l.c)).setCell ⟨g, 6, none⟩ (.int .i64 l.d)).setCell ⟨g, 7, none⟩ (.string l.s)).setCell ⟨g, 8, none⟩ (.string l.t)).setCell ⟨g, 9, none⟩ pv).setCell ⟨g, 10, none⟩ iv).setCell ⟨g, 11, none⟩ (.int .i64 l.code)).setCell ⟨g, 12, none⟩ (.bool l.yes)).setCell ⟨g, 13, none⟩ (.string l.body)
theorem setLet_blk {w : World} {g : Nat} {l0 : Letter} {p0 i0 : Value} {T : TypeId} (h : w.heap[g]? = some (.cells (letCs l0 p0 i0) T (0, 0))) (l : Letter) (pv iv : Value) : (setLet w g l pv iv).heap[g]? = some (.cells (letCs l pv iv) T (0, 0)) :=
by
  have h' := blk_set (blk_set (blk_set (blk_set (blk_set (blk_set (blk_set (blk_set (blk_set (blk_set (blk_set (blk_set (blk_set (blk_set h 0 (.int .i64 l.kind)) 1 (.int .i64 l.src)) 2 (.int .i64 l.dst)) 3 (.int .i64 l.a)) 4 (.int .i64 l.b)) 5 (.int .i64 l.c)) 6 (.int .i64 l.d)) 7 (.string l.s)) 8 (.string l.t)) 9 pv) 10 iv) 11 (.int .i64 l.code)) 12 (.bool l.yes)) 13 (.string l.body)
  simp only [letCs, List.setIfInBounds_toArray, List.set_cons_succ, List.set_cons_zero] at h'
  exact h'
theorem setLet_upd (w : World) (g : Nat) (l : Letter) (pv iv : Value) : Upd (fun k => k = g) w (setLet w g l pv iv) := by
  unfold setLet
  repeat (refine Upd.setCell (S := fun k => k = g) ?_ (.inl rfl) _)
  exact Upd.refl _ _
theorem info_letter : (Try.prog.info? 34).map (·.size) = some 14 := by kernel_rfl
/-- It returns the letter; its lists are new memory. -/
def RetLet (l : Letter) (w : World) : Ending → World → Prop := fun en w' => ∃ pv iv, en = .returned (letV l pv iv) ∧ LetIn w' (fun k => w.heap.size ≤ k) l pv iv ∧ Ext w w'

set_option maxHeartbeats 2000000 in
theorem copy_calls {F : Nat → Prop} (l : Letter) {pv iv : Value} (w : World) (h : LetIn w F l pv iv) (hp : l.pairs.length ≤ 100000) (hi : l.intents.length ≤ 100000) : Calls Try.prog 38 #[letV l pv iv] w (RetLet l w) := by
  obtain ⟨A1, c1, rfl, hc1, hn1⟩ := h.pairs.form
  obtain ⟨A2, c2, rfl, hc2, hn2⟩ := h.intents.form
  obtain ⟨n1, hl1⟩ : ∃ n1, n1 = l.pairs.length := ⟨_, rfl⟩
  obtain ⟨n2, hl2⟩ : ∃ n2, n2 = l.intents.length := ⟨_, rfl⟩
  rw [← hl1] at hc1 hn1 h hp ⊢
  rw [← hl2] at hc2 hn2 h hi ⊢
  have Hl1 := Lib.hid hl1
  have Hl2 := Lib.hid hl2
  clear hl1 hl2
  go_enter Try.func38, Try.ntmps38
  have hW2 : Ext w ((w.alloc (.cells (letCs l (.slice A1 n1 c1) (.slice A2 n2 c2)) 34)).alloc (.cells (letCs Letter.zero (.slice none 0 0) (.slice none 0 0)) 34)) := ((Ext.refl w).alloc _).alloc _
  have hB : ((w.alloc (.cells (letCs l (.slice A1 n1 c1) (.slice A2 n2 c2)) 34)).alloc (.cells (letCs Letter.zero (.slice none 0 0) (.slice none 0 0)) 34)).heap[w.heap.size]? = some (.cells (letCs l (.slice A1 n1 c1) (.slice A2 n2 c2)) 34 (0, 0)) := blk_old (blk_new rfl)
  have hC : ((w.alloc (.cells (letCs l (.slice A1 n1 c1) (.slice A2 n2 c2)) 34)).alloc (.cells (letCs Letter.zero (.slice none 0 0) (.slice none 0 0)) 34)).heap[w.heap.size + 1]? = some (.cells (letCs Letter.zero (.slice none 0 0) (.slice none 0 0)) 34 (0, 0)) := blk_new (by simp)
  go_wp2_with fail
  refine (clonePairs_calls _ (h.pairs.ext hW2) (by rw [← Hl1.out]; exact hp)).mono ?_
  rintro e w1 ⟨v1, rfl, hS1, he1⟩
  obtain ⟨Av, cv, rfl, _, _⟩ := hS1.form
  go_wp2_with fail
  refine (clipPairs_calls _ hS1).mono ?_
  rintro e w1' ⟨v1', rfl, hS1', rfl⟩
  have hB1 := blk_ext hB he1
  have hC1 := blk_ext hC he1
  have hE1 := hW2.trans he1
  have hsz := he1.sz
  obtain ⟨Av', cv', rfl, _, _⟩ := hS1'.form
  rw [← Hl1.out] at hS1' ⊢
  have q := let_cells hB1
  obtain ⟨f0, f1, f2, f3, f4, f5, f6, f7, f8, f9, f10, f11, f12, f13⟩ := q
  have hfz := blk_free hB1
  clear hS1 hB hC he1 hW2
  have hU : Upd (fun k => k = w.heap.size) w1' (w1'.setCell ⟨w.heap.size, 9, none⟩ (.slice Av' n1 cv')) := Upd.setCell (S := fun k => k = w.heap.size) (p := ⟨w.heap.size, 9, none⟩) (Upd.refl _ _) (.inl rfl) _
  have hB3 : (w1'.setCell ⟨w.heap.size, 9, none⟩ (.slice Av' n1 cv')).heap[w.heap.size]? = some (.cells (letCs l (.slice Av' n1 cv') (.slice A2 n2 c2)) 34 (0, 0)) := blk_set hB1 9 _
  have hC3 := blk_upd hC1 hU (by omega)
  have hS3 := (hS1'.mono (F' := fun k => w.heap.size + 2 ≤ k) (fun k hk => by simpa using hk)).upd hU (fun k _ hk e => by omega)
  have hE3 : Ext w (w1'.setCell ⟨w.heap.size, 9, none⟩ (.slice Av' n1 cv')) := hE1.setCell (p := ⟨w.heap.size, 9, none⟩) (Nat.le_refl _) _
  have hsz3 : w.heap.size + 2 ≤ (w1'.setCell ⟨w.heap.size, 9, none⟩ (.slice Av' n1 cv')).heap.size := blk_lt hC3
  go_wp2_with fail
  clear hB1 hC1 hU hE1 hsz f0 f1 f2 f3 f4 f5 f6 f7 f8 f9 f10 f11 f12 f13 hfz hS1'
  generalize (w1'.setCell ⟨w.heap.size, 9, none⟩ (.slice Av' n1 cv')) = w3 at *
  refine (cloneIntents_calls _ (h.intents.ext hE3) (by rw [← Hl2.out]; exact hi)).mono ?_
  rintro e w4 ⟨v4, rfl, hS4, he4⟩
  obtain ⟨A5, c5, rfl, _, _⟩ := hS4.form
  have hB4 := blk_ext hB3 he4
  have hC4 := blk_ext hC3 he4
  have hE4 := hE3.trans he4
  have hS34 := hS3.ext he4
  go_wp2_with fail
  refine (clipIntents_calls _ hS4).mono ?_
  rintro e w4' ⟨v4', rfl, hS4', rfl⟩
  obtain ⟨A6, c6, rfl, _, _⟩ := hS4'.form
  rw [← Hl2.out] at hS4' ⊢
  obtain ⟨f0, f1, f2, f3, f4, f5, f6, f7, f8, f9, f10, f11, f12, f13⟩ := let_cells hB4
  obtain ⟨g0, g1, g2, g3, g4, g5, g6, g7, g8, g9, g10, g11, g12, g13⟩ := let_cells hC4
  have hfz := blk_free hB4
  have hfy := blk_free hC4
  go_wp2
  have hU : Upd (fun k => k = w.heap.size) w4' (w4'.setCell ⟨w.heap.size, 10, none⟩ (.slice A6 n2 c6)) := Upd.setCell (S := fun k => k = w.heap.size) (p := ⟨w.heap.size, 10, none⟩) (Upd.refl _ _) (.inl rfl) _
  have hB5 : (w4'.setCell ⟨w.heap.size, 10, none⟩ (.slice A6 n2 c6)).heap[w.heap.size + 1]? = some (.cells (letCs Letter.zero (.slice none 0 0) (.slice none 0 0)) 34 (0, 0)) := blk_upd hC4 hU (by omega)
  have hsz4 := he4.sz
  have hS5 := (hS34.upd hU (fun k _ hk e => by omega)).upd (setLet_upd _ (w.heap.size + 1) l (.slice Av' n1 cv') (.slice A6 n2 c6)) (fun k _ hk e => by omega)
  have hS6 := (hS4'.upd hU (fun k _ hk e => by omega)).upd (setLet_upd _ (w.heap.size + 1) l (.slice Av' n1 cv') (.slice A6 n2 c6)) (fun k _ hk e => by omega)
  have hE6 := (setLet_upd (w4'.setCell ⟨w.heap.size, 10, none⟩ (.slice A6 n2 c6)) (w.heap.size + 1) l (.slice Av' n1 cv') (.slice A6 n2 c6)).ext (hU.ext hE4 (fun k hk => by omega)) (fun k hk => by omega)
  have hR := setLet_blk hB5 l (.slice Av' n1 cv') (.slice A6 n2 c6)
  refine bodyPost_ret (results_cell_row rfl _ _ (w.heap.size + 1) _ _ _ _ rfl hR Try.underlying34 rfl info_letter) rfl ?_
  exact ⟨_, _, rfl, ⟨hS5.mono (fun k hk => by omega), hS6.mono (fun k hk => by omega)⟩, hE6⟩
end Go.Proofs.Ytmimncinnflfkaa
