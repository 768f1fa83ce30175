/- The document's side of layers 13 and 14: of the sameness of two things the equal case alone; Light. -/
import Derived.Test.YtmimncinnflfkaaRefA
set_option linter.all false
namespace Go.Proofs.Ytmimncinnflfkaa
open Go.RowKit
set_option maxRecDepth 100000

theorem Sl.atInt {w : World} {F : Nat → Prop} {q : IntKind} {xs : List Int} {A : Option Addr} {n c k : Nat} (h : Sl (tInt q) w F (.slice A n c) xs) (hk : k < n) :
    ∃ b o x, A = some ⟨b, o, none⟩ ∧ F b ∧ xs[k]? = some x ∧ w.cell? ⟨b, o + k, none⟩ = some (.int q x) := by
  obtain ⟨b, o, x, u, hA, hb, hx, hu, d1⟩ := h.at1 rfl hk
  obtain rfl : u = .int q x := by injection hu
  exact ⟨b, o, x, hA, hb, hx, d1⟩

set_option maxHeartbeats 1000000 in
theorem sameIntents_calls {F1 F2 : Nat → Prop} {v1 v2 : Value} {xs : List Intent} (w : World) (h1 : Sl tIntent w F1 v1 xs) (h2 : Sl tIntent w F2 v2 xs) : Calls Try.prog 36 #[v1, v2] w (Ret w (.bool true)) := by
  obtain ⟨A1, c1, rfl, hc1, hn1⟩ := h1.form
  obtain ⟨A2, c2, rfl, hc2, hn2⟩ := h2.form
  obtain ⟨n, hl⟩ : ∃ n, n = xs.length := ⟨_, rfl⟩
  rw [← hl] at h1 h2 hc1 hc2 hn1 hn2 ⊢
  have Hl := Lib.hid hl
  clear hl
  go_enter Try.func36, Try.ntmps36
  go_wp2
  go_loopw [5] (fun i wr => ∃ k : Nat, k ≤ n ∧ i = .int .i64 k ∧ Ext w wr) (fun i _ => n - (intOf i).toNat)
  case atStart => exact ⟨0, by omega, rfl, Ext.refl _⟩
  case round =>
    obtain ⟨k, hk, rfl, hE⟩ := hrel
    by_cases hlt : k < n
    · obtain ⟨b, o, x, rfl, hb, hx, d1, d2, d3⟩ := (h1.ext hE).atIntent hlt
      obtain ⟨b', o', x', rfl, hb', hx', e1, e2, e3⟩ := (h2.ext hE).atIntent hlt
      obtain rfl := Option.some.inj (hx.symm.trans hx')
      clear hx hx'
      have hq := fun w => neq_intent w x
      go_wp2
      go_quiet (fail)
      go_wp2
      go_roundw
      case rel => exact ⟨k + 1, by omega, by go_num, by first | exact hE | exact hE.drew | exact hE.drewN _⟩
      case measure => simp [intOf]; omega
    · go_wp2
      go_ret
      exact ⟨rfl, hE⟩

set_option maxHeartbeats 1000000 in
theorem sameInts_calls {F1 F2 : Nat → Prop} {v1 v2 : Value} {xs : List Int} (w : World) (h1 : Sl (tInt .i64) w F1 v1 xs) (h2 : Sl (tInt .i64) w F2 v2 xs) : Calls Try.prog 18 #[v1, v2] w (Ret w (.bool true)) := by
  obtain ⟨A1, c1, rfl, hc1, hn1⟩ := h1.form
  obtain ⟨A2, c2, rfl, hc2, hn2⟩ := h2.form
  obtain ⟨n, hl⟩ : ∃ n, n = xs.length := ⟨_, rfl⟩
  rw [← hl] at h1 h2 hc1 hc2 hn1 hn2 ⊢
  have Hl := Lib.hid hl
  clear hl
  go_enter Try.func18, Try.ntmps18
  go_wp2
  go_loopw [5] (fun i wr => ∃ k : Nat, k ≤ n ∧ i = .int .i64 k ∧ Ext w wr) (fun i _ => n - (intOf i).toNat)
  case atStart => exact ⟨0, by omega, rfl, Ext.refl _⟩
  case round =>
    obtain ⟨k, hk, rfl, hE⟩ := hrel
    by_cases hlt : k < n
    · obtain ⟨b, o, x, rfl, hb, hx, d1⟩ := (h1.ext hE).atInt hlt
      obtain ⟨b', o', x', rfl, hb', hx', e1⟩ := (h2.ext hE).atInt hlt
      obtain rfl := Option.some.inj (hx.symm.trans hx')
      clear hx hx'
      go_wp2
      go_quiet (fail)
      go_wp2
      go_roundw
      case rel => exact ⟨k + 1, by omega, by go_num, by first | exact hE | exact hE.drew | exact hE.drewN _⟩
      case measure => simp [intOf]; omega
    · go_wp2
      go_ret
      exact ⟨rfl, hE⟩

/-- The cells of a letter, one by one. -/
abbrev LetC (w : World) (b : Nat) (l : Letter) (pv iv : Value) : Prop := w.cell? ⟨b, 0, none⟩ = some (.int .i64 l.kind) ∧ w.cell? ⟨b, 1, none⟩ = some (.int .i64 l.src) ∧ w.cell? ⟨b, 2, none⟩ = some (.int .i64 l.dst) ∧ w.cell? ⟨b, 3, none⟩ = some (.int .i64 l.a) ∧ w.cell? ⟨b, 4, none⟩ = some (.int .i64 l.b) ∧ w.cell? ⟨b, 5, none⟩ = some (.int .i64 l.c) ∧ w.cell? ⟨b, 6, none⟩ = some (.int .i64 l.d) ∧
    w.cell? ⟨b, 7, none⟩ = some (.string l.s) ∧ w.cell? ⟨b, 8, none⟩ = some (.string l.t) ∧ w.cell? ⟨b, 9, none⟩ = some pv ∧ w.cell? ⟨b, 10, none⟩ = some iv ∧ w.cell? ⟨b, 11, none⟩ = some (.int .i64 l.code) ∧ w.cell? ⟨b, 12, none⟩ = some (.bool l.yes) ∧ w.cell? ⟨b, 13, none⟩ = some (.string l.body)
theorem keepL {w w' : World} {b : Nat} {l : Letter} {pv iv : Value} (he : Ext w w') (h : LetC w b l pv iv) : LetC w' b l pv iv := by
  obtain ⟨f0, f1, f2, f3, f4, f5, f6, f7, f8, f9, f10, f11, f12, f13⟩ := h
  exact ⟨he.cell f0, he.cell f1, he.cell f2, he.cell f3, he.cell f4, he.cell f5, he.cell f6, he.cell f7, he.cell f8, he.cell f9, he.cell f10, he.cell f11, he.cell f12, he.cell f13⟩
theorem keep28 {w w' : World} {b b' : Nat} {l l' : Letter} {pv iv pv' iv' : Value} (he : Ext w w') (h : LetC w b l pv iv ∧ LetC w b' l' pv' iv') : LetC w' b l pv iv ∧ LetC w' b' l' pv' iv' := ⟨keepL he h.1, keepL he h.2⟩

set_option maxHeartbeats 2000000 in
theorem same_calls {F1 F2 : Nat → Prop} {l : Letter} {p1 i1 p2 i2 : Value} (w : World) (h1 : LetIn w F1 l p1 i1) (h2 : LetIn w F2 l p2 i2) : Calls Try.prog 12 #[letV l p1 i1, letV l p2 i2] w (Ret w (.bool true)) := by
  obtain ⟨A1, c1, rfl, hc1, hn1⟩ := h1.pairs.form
  obtain ⟨A2, c2, rfl, hc2, hn2⟩ := h1.intents.form
  obtain ⟨A3, c3, rfl, hc3, hn3⟩ := h2.pairs.form
  obtain ⟨A4, c4, rfl, hc4, hn4⟩ := h2.intents.form
  obtain ⟨n, hl⟩ : ∃ n, n = l.pairs.length := ⟨_, rfl⟩
  obtain ⟨m, hm⟩ : ∃ m, m = l.intents.length := ⟨_, rfl⟩
  rw [← hl] at h1 h2 hc1 hc3 hn1 hn3 ⊢
  rw [← hm] at h1 h2 hc2 hc4 hn2 hn4 ⊢
  have Hl := Lib.hid hl
  clear hl hm
  go_enter Try.func12, Try.ntmps12
  go_wp2_with (go_at_call 36; refine (sameIntents_calls _ (h1.intents.ext (((Ext.refl w).alloc _).alloc _)) (h2.intents.ext (((Ext.refl w).alloc _).alloc _))).mono ?_; rintro e w1 ⟨rfl, he⟩)
  have hE : Ext w w1 := (((Ext.refl w).alloc _).alloc _).trans he
  have hB1 : w1.heap[w.heap.size]? = some (.cells (letCs l (.slice A1 n c1) (.slice A2 m c2)) 34 (0, 0)) := blk_ext (blk_old (blk_new rfl)) he
  have hB2 : w1.heap[w.heap.size + 1]? = some (.cells (letCs l (.slice A3 n c3) (.slice A4 m c4)) 34 (0, 0)) := blk_ext (blk_new (by simp)) he
  clear he
  go_loopw [5] (fun i wr => ∃ k : Nat, k ≤ n ∧ i = .int .i64 k ∧ Ext w wr ∧ Hid (wr.heap[w.heap.size]? = some (.cells (letCs l (.slice A1 n c1) (.slice A2 m c2)) 34 (0, 0))) ∧ Hid (wr.heap[w.heap.size + 1]? = some (.cells (letCs l (.slice A3 n c3) (.slice A4 m c4)) 34 (0, 0)))) (fun i _ => n - (intOf i).toNat)
  case atStart => exact ⟨0, by omega, rfl, hE, hB1, hB2⟩
  case round =>
    clear hE hB1 hB2
    obtain ⟨k, hk, rfl, hE, hB1, hB2⟩ := hrel
    by_cases hlt : k < n
    · obtain ⟨b, o, x, rfl, hb, hx, d1, d2⟩ := (h1.pairs.ext hE).atPair hlt
      obtain ⟨b', o', x', rfl, hb', hx', e1, e2⟩ := (h2.pairs.ext hE).atPair hlt
      obtain rfl := Option.some.inj (hx.symm.trans hx')
      clear hx hx'
      have g1 := (let_cells hB1.out).2.2.2.2.2.2.2.2.2.1
      have g2 := (let_cells hB2.out).2.2.2.2.2.2.2.2.2.1
      have hq := fun w => neq_pair w x
      go_wp2
      go_quiet (fail)
      go_wp2
      go_roundw
      case rel => exact ⟨k + 1, by omega, by go_num, by first | exact hE | exact hE.drew | exact hE.drewN _, by first | exact hB1 | exact blk_ext hB1.out (Ext.refl _).drew | exact blk_ext hB1.out ((Ext.refl _).drewN _), by first | exact hB2 | exact blk_ext hB2.out (Ext.refl _).drew | exact blk_ext hB2.out ((Ext.refl _).drewN _)⟩
      case measure => simp [intOf]; omega
    · have f := let_cells hB1.out
      have g := let_cells hB2.out
      obtain ⟨f0, f1, f2, f3, f4, f5, f6, f7, f8, f9, f10, f11, f12, f13⟩ := f
      obtain ⟨g0, g1, g2, g3, g4, g5, g6, g7, g8, g9, g10, g11, g12, g13⟩ := g
      go_upto_region 8 with (fail)
      go_region_held3 (fun w' => (w'.cell? ⟨w.heap.size, 0, none⟩ = some (.int .i64 l.kind) ∧ w'.cell? ⟨w.heap.size, 1, none⟩ = some (.int .i64 l.src) ∧ w'.cell? ⟨w.heap.size, 2, none⟩ = some (.int .i64 l.dst) ∧ w'.cell? ⟨w.heap.size, 3, none⟩ = some (.int .i64 l.a) ∧ w'.cell? ⟨w.heap.size, 4, none⟩ = some (.int .i64 l.b) ∧ w'.cell? ⟨w.heap.size, 5, none⟩ = some (.int .i64 l.c) ∧ w'.cell? ⟨w.heap.size, 6, none⟩ = some (.int .i64 l.d) ∧ w'.cell? ⟨w.heap.size, 7, none⟩ = some (.string l.s) ∧ w'.cell? ⟨w.heap.size, 8, none⟩ = some (.string l.t) ∧ w'.cell? ⟨w.heap.size, 9, none⟩ = some (.slice A1 n c1) ∧ w'.cell? ⟨w.heap.size, 10, none⟩ = some (.slice A2 m c2) ∧ w'.cell? ⟨w.heap.size, 11, none⟩ = some (.int .i64 l.code) ∧ w'.cell? ⟨w.heap.size, 12, none⟩ = some (.bool l.yes) ∧ w'.cell? ⟨w.heap.size, 13, none⟩ = some (.string l.body)) ∧ (w'.cell? ⟨w.heap.size + 1, 0, none⟩ = some (.int .i64 l.kind) ∧ w'.cell? ⟨w.heap.size + 1, 1, none⟩ = some (.int .i64 l.src) ∧ w'.cell? ⟨w.heap.size + 1, 2, none⟩ = some (.int .i64 l.dst) ∧ w'.cell? ⟨w.heap.size + 1, 3, none⟩ = some (.int .i64 l.a) ∧ w'.cell? ⟨w.heap.size + 1, 4, none⟩ = some (.int .i64 l.b) ∧ w'.cell? ⟨w.heap.size + 1, 5, none⟩ = some (.int .i64 l.c) ∧ w'.cell? ⟨w.heap.size + 1, 6, none⟩ = some (.int .i64 l.d) ∧ w'.cell? ⟨w.heap.size + 1, 7, none⟩ = some (.string l.s) ∧ w'.cell? ⟨w.heap.size + 1, 8, none⟩ = some (.string l.t) ∧ w'.cell? ⟨w.heap.size + 1, 9, none⟩ = some (.slice A3 n c3) ∧ w'.cell? ⟨w.heap.size + 1, 10, none⟩ = some (.slice A4 m c4) ∧ w'.cell? ⟨w.heap.size + 1, 11, none⟩ = some (.int .i64 l.code) ∧ w'.cell? ⟨w.heap.size + 1, 12, none⟩ = some (.bool l.yes) ∧ w'.cell? ⟨w.heap.size + 1, 13, none⟩ = some (.string l.body)))
        (first | exact ⟨⟨f0, f1, f2, f3, f4, f5, f6, f7, f8, f9, f10, f11, f12, f13⟩, ⟨g0, g1, g2, g3, g4, g5, g6, g7, g8, g9, g10, g11, g12, g13⟩⟩ | assumption | exact keep28 (by assumption) (by assumption))
        (first
          | (go_at_call 37; (with_reducible refine (rnumbers_calls l (.slice A1 n c1) (.slice A2 m c2) _ _ _ _ _ _ rfl rfl _).mono ?_); rintro e wa ⟨ga, rfl, hga, hSa, hea⟩)
          | (go_at_call 37; (with_reducible refine (rnumbers_calls l (.slice A3 n c3) (.slice A4 m c4) _ _ _ _ _ _ rfl rfl _).mono ?_); rintro e wb ⟨gb, rfl, hgb, hSb, heb⟩))
      have heA : Ext wr wb := ((Ext.refl _).drew.trans hea).trans heb
      have hSa' := hSa.ext heb
      have hEb := hE.trans heA
      have hC1 := blk_ext hB1.out heA
      have hC2 := blk_ext hB2.out heA
      clear f0 f1 f2 f3 f4 f5 f6 f7 f8 f9 f10 f11 f12 f13 g0 g1 g2 g3 g4 g5 g6 g7 g8 g9 g10 g11 g12 g13 hSa hgb hga hea heb hE hB1 hB2 heA hk
      go_wp2
      go_loopw [8] (fun i wr => ∃ k : Nat, k ≤ 7 ∧ i = .int .i64 k ∧ Ext w wr ∧ Hid (wr.heap[w.heap.size]? = some (.cells (letCs l (.slice A1 n c1) (.slice A2 m c2)) 34 (0, 0))) ∧ Hid (wr.heap[w.heap.size + 1]? = some (.cells (letCs l (.slice A3 n c3) (.slice A4 m c4)) 34 (0, 0))) ∧ Sl (tInt .i64) wr (fun q => q = ga) (.slice (some ⟨ga, 0, none⟩) 7 7) l.seven ∧ Sl (tInt .i64) wr (fun q => q = gb) (.slice (some ⟨gb, 0, none⟩) 7 7) l.seven) (fun i _ => 7 - (intOf i).toNat)
      case atStart => exact ⟨0, by omega, rfl, hEb, hC1, hC2, hSa', hSb⟩
      case round =>
        clear hEb hC1 hC2 hSa' hSb
        obtain ⟨k, hk, rfl, hE, hB1, hB2, hSa, hSb⟩ := hrel
        by_cases hlt : k < 7
        · obtain ⟨b, o, x, e1, hb, hx, d1⟩ := hSa.atInt hlt
          obtain ⟨b', o', x', e2, hb', hx', d2⟩ := hSb.atInt hlt
          obtain rfl := Option.some.inj (hx.symm.trans hx')
          clear hx hx'
          injection e1 with e1
          injection e1 with e1 e1'
          subst e1 e1'
          injection e2 with e2
          injection e2 with e2 e2'
          subst e2 e2'
          rw [Nat.zero_add] at d1 d2
          go_wp2
          go_quiet (fail)
          go_wp2
          go_roundw
          case rel => exact ⟨k + 1, by omega, by go_num, by first | exact hE | exact hE.drew | exact hE.drewN _, by first | exact hB1 | exact blk_ext hB1.out (Ext.refl _).drew | exact blk_ext hB1.out ((Ext.refl _).drewN _), by first | exact hB2 | exact blk_ext hB2.out (Ext.refl _).drew | exact blk_ext hB2.out ((Ext.refl _).drewN _), by first | exact hSa | exact hSa.ext (Ext.refl _).drew | exact hSa.ext ((Ext.refl _).drewN _), by first | exact hSb | exact hSb.ext (Ext.refl _).drew | exact hSb.ext ((Ext.refl _).drewN _)⟩
          case measure => simp [intOf]; omega
        · obtain ⟨f0, f1, f2, f3, f4, f5, f6, f7, f8, f9, f10, f11, f12, f13⟩ := let_cells hB1.out
          obtain ⟨g0, g1, g2, g3, g4, g5, g6, g7, g8, g9, g10, g11, g12, g13⟩ := let_cells hB2.out
          go_wp2
          go_ret
          refine ⟨ret1 (vbool (b := true) ?_), hE⟩
          simp
end Go.Proofs.Ytmimncinnflfkaa
