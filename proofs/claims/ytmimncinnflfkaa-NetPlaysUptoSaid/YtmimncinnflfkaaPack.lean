/- Layer 1 (pack): what Num, Text, Join come to. -/
import Derived.Test.YtmimncinnflfkaaCore2
import Derived.Test.YtmimncinnflfkaaProg
import Derived.Lib.AppendZeros
set_option linter.all false
namespace Go.Proofs.Ytmimncinnflfkaa
open Go.RowKit
set_option maxRecDepth 100000

theorem info_u8 : (Try.prog.info? 5).map (fun i => (i.zero, i.size, i.bytes)) = some (some (.int .u8 0), 1, 1) := by kernel_rfl

/-- A number's form. -/
def numB (n : Nat) : List Int := if n < 128 then [(n : Int)] else (128 + (n % 128 : Nat) : Int) :: numB (n / 128)
termination_by n
decreasing_by omega

theorem numB_small {n : Nat} (h : n < 128) : numB n = [(n : Int)] := by rw [numB, if_pos h]
theorem numB_big {n : Nat} (h : ¬ n < 128) : numB n = (128 + (n % 128 : Nat) : Int) :: numB (n / 128) := by rw [numB, if_neg h]
theorem numB_len (k : Nat) : ∀ n : Nat, n < 128 ^ (k + 1) → (numB n).length ≤ k + 1 := by
  induction k with
  | zero => intro n h; rw [numB_small (by omega)]; simp
  | succ k ih =>
    intro n h
    by_cases hs : n < 128
    · rw [numB_small hs]; simp
    · rw [numB_big hs, List.length_cons]
      have := ih (n / 128) (by rw [Nat.div_lt_iff_lt_mul (by omega)]; rw [Nat.pow_succ] at h; exact h)
      omega
theorem or128 (n : Nat) : Go.bits .or .u8 ((n : Int) % 256) 128 = 128 + ((n % 128 : Nat) : Int) := by
  have h : ∀ m : Fin 256, Go.bits .or .u8 ((m.val : Nat) : Int) 128 = 128 + ((m.val % 128 : Nat) : Int) := by decide +kernel
  have h2 := h ⟨n % 256, Nat.mod_lt _ (by omega)⟩
  have e : n % 256 % 128 = n % 128 := by omega
  simp only [e] at h2
  rw [← h2]
  rfl

theorem numB_le9 {n : Nat} (hn : n ≤ 9223372036854775807) : (numB n).length ≤ 9 := numB_len 8 n (by omega)

section
variable {ops : Array Oper} {rest : List Oper} {o : Oper} {a : Act} {Q : Exit → Act → World → Prop}
/-- append(v, x) on bytes. -/
theorem app_u8 {W : World} (base : Nat) (hgd : o.guard = none) (s x : Operand)
    (ho : o.op = .call { callee := .builtin .append, args := #[s, x], argTypes := #[99, 99] })
    {F : Nat → Prop} {v : Value} {xs : List Int} {y : Int} (HO : Own (tInt .u8) 5 W F base v xs) (hs : a.eval s = v) (hx : a.eval x = .slice (some ⟨W.heap.size, 0, none⟩) 1 1)
    (hbase : base ≤ W.heap.size) (hl : xs.length + 1 ≤ 140737488355328)
    (h : ∀ v1 w1, Own (tInt .u8) 5 w1 F base v1 (xs ++ [y]) → W.grownBy w1 v.ownBlock → (v1.ownBlock = v.ownBlock ∨ ∃ b, v1.ownBlock = some b ∧ W.heap.size ≤ b) → wpList Try.prog ops Q rest (a.put o.dst v1) w1) :
    wpList Try.prog ops Q (o :: rest) a (W.alloc (.cells #[.int .u8 y] 5)) := by
  obtain ⟨v1, w1, hr, h1, h2, h3⟩ := app1_run (P := Try.prog) (tInt .u8) base 99 o.type 5 (.int .u8 0) 1 Try.underlying99 info_u8 rfl (by decide) (F' := fun _ => False) (y := y) (cs := [.int .u8 y]) HO rfl (fun _ _ h => h.elim) hbase (by omega)
  exact append_list hgd ho hs hx hr (h v1 w1 h1 h2 h3)
/-- append(v, ys...) on bytes. -/
theorem app_u8s {W : World} (base : Nat) (hgd : o.guard = none) (s x : Operand)
    (ho : o.op = .call { callee := .builtin .append, args := #[s, x], argTypes := #[99, 99] })
    {F F' : Nat → Prop} {v u : Value} {xs ys : List Int} (HO : Own (tInt .u8) 5 W F base v xs) (HR : Sl (tInt .u8) W F' u ys) (hs : a.eval s = v) (hx : a.eval x = u)
    (hbase : base ≤ W.heap.size) (hl : xs.length + ys.length ≤ 140737488355328)
    (h : ∀ v1 w1, Own (tInt .u8) 5 w1 F base v1 (xs ++ ys) → W.grownBy w1 v.ownBlock → (v1.ownBlock = v.ownBlock ∨ ∃ b, v1.ownBlock = some b ∧ W.heap.size ≤ b) → wpList Try.prog ops Q rest (a.put o.dst v1) w1) :
    wpList Try.prog ops Q (o :: rest) a W := by
  obtain ⟨v1, w1, hr, h1, h2, h3⟩ := appN_run (P := Try.prog) (tInt .u8) base 99 o.type 5 (.int .u8 0) 1 Try.underlying99 info_u8 rfl (by decide) HO HR (fun _ _ h => h) hbase (by omega)
  exact append_list hgd ho hs hx hr (h v1 w1 h1 h2 h3)
theorem app_u8s_step {W : World} {K : Act → World → Prop} {E : Prop} (base : Nat) (hgd : o.guard = none) (s x : Operand)
    (ho : o.op = .call { callee := .builtin .append, args := #[s, x], argTypes := #[99, 99] })
    {F F' : Nat → Prop} {v u : Value} {xs ys : List Int} (HO : Own (tInt .u8) 5 W F base v xs) (HR : Sl (tInt .u8) W F' u ys) (hs : a.eval s = v) (hx : a.eval x = u)
    (hbase : base ≤ W.heap.size) (hl : xs.length + ys.length ≤ 140737488355328)
    (h : ∀ v1 w1, Own (tInt .u8) 5 w1 F base v1 (xs ++ ys) → W.grownBy w1 v.ownBlock → (v1.ownBlock = v.ownBlock ∨ ∃ b, v1.ownBlock = some b ∧ W.heap.size ≤ b) → K (a.put o.dst v1) w1) :
    if Region.wanted o (yielded ops a.tmps) = true then o.wp Try.prog a W K Q else E := by
  obtain ⟨v1, w1, hr, h1, h2, h3⟩ := appN_run (P := Try.prog) (tInt .u8) base 99 o.type 5 (.int .u8 0) 1 Try.underlying99 info_u8 rfl (by decide) HO HR (fun _ _ h => h) hbase (by omega)
  exact append_step hgd ho hs hx hr (h v1 w1 h1 h2 h3)
/-- append(v, s...) of a string. -/
theorem app_str {W : World} (base : Nat) (hgd : o.guard = none) (s x : Operand)
    (ho : o.op = .call { callee := .builtin .append, args := #[s, x], argTypes := #[99, 9] })
    {F : Nat → Prop} {v : Value} {xs : List Int} {y : ByteArray} (HO : Own (tInt .u8) 5 W F base v xs) (hs : a.eval s = v) (hx : a.eval x = .string y)
    (hbase : base ≤ W.heap.size) (hl : xs.length + y.size ≤ 140737488355328)
    (h : ∀ v1 w1, Own (tInt .u8) 5 w1 F base v1 (xs ++ bytesOf y) → W.grownBy w1 v.ownBlock → wpList Try.prog ops Q rest (a.put o.dst v1) w1) :
    wpList Try.prog ops Q (o :: rest) a W :=
  appStr base hgd s x _ _ _ ho Try.underlying99 Try.underlying9 info_u8 hs hx HO hbase hl h
end

theorem own_ge {α : Type} {d : Ty α} {e : TypeId} {w : World} {F : Nat → Prop} {base : Nat} {v : Value} {xs : List α} (h : Own d e w F base v xs) : ∀ k, v.ownBlock = some k → base ≤ k := fun k hk => (h.blk k hk).1

set_option maxHeartbeats 1000000 in
theorem num_calls (n : Nat) (hn : n ≤ 9223372036854775807) (w : World) : Calls Try.prog 48 #[.int .i64 n] w (RetOwn (tInt .u8) 5 w (numB n)) := by
  have h9 := numB_le9 hn
  go_enter Try.func48, Try.ntmps48
  go_wp2
  go_loopw [0, 3] (fun x v wr => ∃ (q : Nat) (xs : List Int), q ≤ n ∧ x = .int .i64 q ∧ Own (tInt .u8) 5 wr (fun _ => False) w.heap.size v xs ∧ Ext w wr ∧ xs ++ numB q = numB n) (fun x _ _ => (intOf x).toNat)
  case atStart => exact ⟨n, [], by omega, rfl, Own.nil _ _ _ _ _, Ext.refl _, rfl⟩
  case round =>
    obtain ⟨q, xs, hq, rfl, hO, he, happ⟩ := hrel
    have hxl : xs.length ≤ 9 := by rw [← happ, List.length_append] at h9; omega
    have Happ := Lib.hid happ
    clear happ h9
    by_cases hlt : q < 128
    · go_wp2_with (at_builtin; refine app_u8 w.heap.size rfl _ _ rfl hO rfl rfl he.sz (by omega) ?_; intro v1 w1 ho1 hg _)
      go_ret
      refine ⟨_, rfl, ?_, he.grown hg (own_ge hO)⟩
      rw [← Happ.out, numB_small hlt]
      exact ho1
    · go_wp2_with (at_builtin; refine app_u8 w.heap.size rfl _ _ rfl hO rfl rfl he.sz (by omega) ?_; intro v1 w1 ho1 hg _)
      go_roundw
      case rel => exact ⟨q / 128, _, by omega, by go_num, ho1, he.grown hg (own_ge hO), by rw [← Happ.out, numB_big hlt, ← or128, List.append_assoc]; rfl⟩
      case measure => simp [intOf]; omega

/-- The same of a whole number. -/
theorem numI_calls (n : Int) (h0 : 0 ≤ n) (hn : n ≤ 9223372036854775807) (w : World) : Calls Try.prog 48 #[.int .i64 n] w (RetOwn (tInt .u8) 5 w (numB n.toNat)) := by
  obtain ⟨m, rfl⟩ := Int.eq_ofNat_of_zero_le h0
  exact num_calls m (by omega) w

/-- A text's form. -/
def textB (s : ByteArray) : List Int := numB s.size ++ bytesOf s

set_option maxHeartbeats 1000000 in
theorem text_calls (s : ByteArray) (hs : s.size ≤ 70368744177664) (w : World) : Calls Try.prog 66 #[.string s] w (RetOwn (tInt .u8) 5 w (textB s)) := by
  have h9 := numB_le9 (n := s.size) (by omega)
  go_enter Try.func66, Try.ntmps66
  go_wp2_with (first
    | (go_at_call 48; refine (num_calls s.size (by omega) _).mono ?_; rintro e w1 ⟨v, rfl, hO, he⟩)
    | (at_builtin; refine app_str w.heap.size rfl _ _ rfl hO rfl rfl he.sz (by omega) ?_; intro v1 w2 ho1 hg))
  go_ret
  exact ⟨_, rfl, ho1, he.grown hg (own_ge hO)⟩

/-! ### slices.Grow at nil, slices.Concat, Join -/
theorem size_zeros (n : Nat) (k : IntKind) : (Builtin.zeroCells (Value.int k 0).cells n).size = n := by rw [size_zeroCells]; simp [Value.cells]

theorem own_grown_nil (w : World) (n : Nat) (hn : n ≤ 140737488355328) :
    Own (tInt .u8) 5 (w.drew.alloc (.cells (Builtin.zeroCells (Value.int .u8 0).cells n ++ Builtin.zeroCells (Value.int .u8 0).cells (grownCap w n 0 5 - n)) 5)) (fun _ => False) w.heap.size (.slice (some ⟨w.heap.size, 0, none⟩) 0 (grownCap w n 0 5)) [] := by
  have h1 := grownCap_ge w n 0 5
  have h2 := grownCap_le_maxLen w n 0 5 (by simp only [maxLen]; omega)
  refine ⟨[], World.ownsRow_made w.drew _ _ (Nat.le_refl _) h2 ?_, Reps.nil _ _ _⟩
  rw [Array.size_append, size_zeros, size_zeros]
  show n + (_ - n) = _ * 1
  omega

set_option maxHeartbeats 1000000 in
theorem grow_calls (n : Nat) (hn : n ≤ 140737488355328) (w : World) : Calls Try.prog 75 #[.slice none 0 0, .int .i64 n] w (RetOwn (tInt .u8) 5 w []) := by
  obtain ⟨i0, hi, hzz⟩ := Option.map_eq_some_iff.1 info_u8
  simp only [Prod.mk.injEq] at hzz
  obtain ⟨hz0, hz1, hz2⟩ := hzz
  by_cases h0 : 0 < n
  · have hrun := Lib.run_append_nil_zeros (P := Try.prog) w 99 3 99 5 i0 (.int .u8 0) .i64 .i64 Try.underlying99 Try.underlying3 hi hz0 n h0 (by omega) (by omega) (by rw [hz2]; omega)
    have hO := own_grown_nil w n hn
    have he : Ext w (w.drew.alloc (.cells (Builtin.zeroCells (Value.int .u8 0).cells n ++ Builtin.zeroCells (Value.int .u8 0).cells (grownCap w n 0 5 - n)) 5)) := ((Ext.refl w).drew).alloc _
    have hcap := grownCap_ge w n 0 5
    generalize (w.drew.alloc (.cells (Builtin.zeroCells (Value.int .u8 0).cells n ++ Builtin.zeroCells (Value.int .u8 0).cells (grownCap w n 0 5 - n)) 5)) = w1 at hrun hO he
    generalize grownCap w n 0 5 = cap at hrun hO hcap
    clear hi hz0 hz1 hz2 i0
    go_enter Try.func75, Try.ntmps75
    go_wp2_with (at_builtin; refine Lib.wpList_append_run _ rfl _ _ _ _ rfl _ _ rfl rfl _ _ hrun ?_)
    go_ret
    exact ⟨_, rfl, hO, he⟩
  · obtain rfl : n = 0 := by omega
    go_enter Try.func75, Try.ntmps75
    go_wp2
    go_ret
    exact ⟨_, rfl, Own.nil _ _ _ _ _, Ext.refl _⟩

theorem flat_take_le {α : Type} (xss : List (List α)) (k : Nat) : (xss.take k).flatten.length ≤ xss.flatten.length := by
  conv => rhs; rw [← List.take_append_drop k xss, List.flatten_append, List.length_append]
  omega
theorem flat_take_succ {α : Type} {xss : List (List α)} {k : Nat} {x : List α} (h : xss[k]? = some x) : (xss.take (k + 1)).flatten = (xss.take k).flatten ++ x := by
  rw [List.take_add_one, h]
  simp

set_option maxHeartbeats 2000000 in
theorem concat_calls {F : Nat → Prop} {v : Value} {xss : List (List Int)} (w : World) (h : Sl (tSl (tInt .u8)) w F v xss) (hM : xss.flatten.length ≤ 35184372088832) : Calls Try.prog 65 #[v] w (RetOwn (tInt .u8) 5 w xss.flatten) := by
  obtain ⟨A, c, rfl, hc1, hn⟩ := h.form
  obtain ⟨n, hln⟩ : ∃ n, n = xss.length := ⟨_, rfl⟩
  rw [← hln] at hn hc1 h ⊢
  have Hln := Lib.hid hln
  clear hln
  go_enter Try.func65, Try.ntmps65
  go_wp2
  go_loop [3, 11] (fun s i => ∃ k m : Nat, k ≤ n ∧ i = .int .i64 k ∧ s = .int .i64 m ∧ m = (xss.take k).flatten.length) (fun _ i => n - (intOf i).toNat)
  case atStart => exact ⟨0, 0, by omega, rfl, rfl, rfl⟩
  case round =>
    obtain ⟨k, m, hk, rfl, rfl, hmk⟩ := hrel
    have hle := flat_take_le xss k
    rw [← hmk] at hle
    have Hmk := Lib.hid hmk
    clear hmk
    by_cases hlt : k < n
    · obtain ⟨b, o, x, A', m', c', rfl, hb, hx, hcell, hv⟩ := h.atSl hlt
      have hm' := hv.len.1
      have hs := flat_take_succ hx
      have hle2 := flat_take_le xss (k + 1)
      rw [hs, List.length_append, ← Hmk.out, ← hm'] at hle2
      have Hm' := Lib.hid hm'
      clear hm'
      have Hs := Lib.hid hs
      have Hx := Lib.hid hx
      clear hx hs
      go_wp2
      go_round
      case rel => exact ⟨k + 1, m + m', by omega, by go_num, by go_num, by rw [Hs.out, List.length_append, ← Hmk.out, ← Hm'.out]⟩
      case measure => simp [intOf]; omega
    · have hkn : k = n := by omega
      clear hkn
      go_wp2_with (go_at_call 75; refine (grow_calls _ (by omega) _).mono ?_; rintro e w1 ⟨v1, rfl, hO, he⟩)
      go_loopw [6, 27] (fun r i wr => ∃ k : Nat, k ≤ n ∧ i = .int .i64 k ∧ Own (tInt .u8) 5 wr (fun _ => False) w.heap.size r (xss.take k).flatten ∧ Ext w wr) (fun _ i _ => n - (intOf i).toNat)
      case atStart => exact ⟨0, by omega, rfl, hO, he⟩
      case round =>
        obtain ⟨j, hj, rfl, hO2, he2⟩ := hrel
        clear hO he
        by_cases hlt : j < n
        · obtain ⟨b, o, x, A', m', c', rfl, hb, hx, hcell, hv⟩ := (h.ext he2).atSl hlt
          have hs := flat_take_succ hx
          have hle2 := flat_take_le xss (j + 1)
          rw [hs, List.length_append] at hle2
          have Hs := Lib.hid hs
          have Hx := Lib.hid hx
          clear hx hs
          go_wp2_with (at_builtin; refine app_u8s w.heap.size rfl _ _ rfl hO2 hv rfl rfl he2.sz (by omega) ?_; intro v1 w2 ho1 hg _)
          go_roundw
          case rel => exact ⟨j + 1, by omega, by go_num, by rw [Hs.out]; exact ho1, he2.grown hg (own_ge hO2)⟩
          case measure => simp [intOf]; omega
        · have hjn : j = n := by omega
          have hfl : xss.take j = xss := by rw [hjn, Hln.out]; exact List.take_length
          rw [hfl] at hO2
          clear hjn hfl
          go_wp2
          go_ret
          exact ⟨_, rfl, hO2, he2⟩

theorem sl_two {α : Type} {d : Ty α} {w : World} {g : Nat} {T : TypeId} {v1 v2 : Value} {x1 x2 : List α} (hg : w.heap[g]? = some (.cells #[v1, v2] T (0, 0))) {F1 F2 : Nat → Prop} (h1 : Sl d w F1 v1 x1) (h2 : Sl d w F2 v2 x2) : Sl (tSl d) w (fun _ => True) (.slice (some ⟨g, 0, none⟩) 2 2) [x1, x2] := by
  refine ⟨_, 2, rfl, by simp, by simp, fun _ => ⟨g, 0, rfl, trivial, blk_lt hg, fun i x hx => ?_⟩⟩
  match i, hx with
  | 0, hx =>
    obtain rfl := Option.some.inj hx
    exact ⟨[v1], ⟨v1, rfl, h1.mono (fun _ _ => trivial)⟩, fun j u hu => by
      have := blk_cell hg 0
      match j, hu with
      | 0, hu => obtain rfl := Option.some.inj hu; simpa using this⟩
  | 1, hx =>
    obtain rfl := Option.some.inj hx
    exact ⟨[v2], ⟨v2, rfl, h2.mono (fun _ _ => trivial)⟩, fun j u hu => by
      have := blk_cell hg 1
      match j, hu with
      | 0, hu => obtain rfl := Option.some.inj hu; simpa [tSl] using this⟩
theorem sl_three {α : Type} {d : Ty α} {w : World} {g : Nat} {T : TypeId} {v1 v2 v3 : Value} {x1 x2 x3 : List α} (hg : w.heap[g]? = some (.cells #[v1, v2, v3] T (0, 0))) {F1 F2 F3 : Nat → Prop} (h1 : Sl d w F1 v1 x1) (h2 : Sl d w F2 v2 x2) (h3 : Sl d w F3 v3 x3) : Sl (tSl d) w (fun _ => True) (.slice (some ⟨g, 0, none⟩) 3 3) [x1, x2, x3] := by
  refine ⟨_, 3, rfl, by simp, by simp, fun _ => ⟨g, 0, rfl, trivial, blk_lt hg, fun i x hx => ?_⟩⟩
  match i, hx with
  | 0, hx =>
    obtain rfl := Option.some.inj hx
    exact ⟨[v1], ⟨v1, rfl, h1.mono (fun _ _ => trivial)⟩, fun j u hu => by
      have := blk_cell hg 0
      match j, hu with
      | 0, hu => obtain rfl := Option.some.inj hu; simpa using this⟩
  | 1, hx =>
    obtain rfl := Option.some.inj hx
    exact ⟨[v2], ⟨v2, rfl, h2.mono (fun _ _ => trivial)⟩, fun j u hu => by
      have := blk_cell hg 1
      match j, hu with
      | 0, hu => obtain rfl := Option.some.inj hu; simpa [tSl] using this⟩
  | 2, hx =>
    obtain rfl := Option.some.inj hx
    exact ⟨[v3], ⟨v3, rfl, h3.mono (fun _ _ => trivial)⟩, fun j u hu => by
      have := blk_cell hg 2
      match j, hu with
      | 0, hu => obtain rfl := Option.some.inj hu; simpa [tSl] using this⟩

set_option maxHeartbeats 1000000 in
theorem join_calls {F : Nat → Prop} {v : Value} {xss : List (List Int)} (w : World) (h : Sl (tSl (tInt .u8)) w F v xss) (hM : xss.flatten.length ≤ 35184372088832) : Calls Try.prog 47 #[v] w (RetOwn (tInt .u8) 5 w xss.flatten) := by
  go_enter Try.func47, Try.ntmps47
  go_wp2_with (go_at_call 65; refine (concat_calls w h hM).mono ?_; rintro e w1 ⟨v1, rfl, hO, he⟩)
  go_ret
  exact ⟨_, rfl, hO, he⟩
end Go.Proofs.Ytmimncinnflfkaa
