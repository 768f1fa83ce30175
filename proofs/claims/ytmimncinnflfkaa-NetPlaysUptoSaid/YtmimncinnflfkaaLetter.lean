/- Layer 13 (letter): what a letter is in memory; numbers, texts, bulk. -/
import Derived.Test.YtmimncinnflfkaaPack
set_option linter.all false
namespace Go.Proofs.Ytmimncinnflfkaa
open Go.RowKit
set_option maxRecDepth 100000

structure Pair where
  key : ByteArray
  val : ByteArray
structure Intent where
  entry : ByteArray
  version : Int
  gone : Bool
structure Letter where
  kind : Int
  src : Int
  dst : Int
  a : Int
  b : Int
  c : Int
  d : Int
  s : ByteArray
  t : ByteArray
  pairs : List Pair
  intents : List Intent
  code : Int
  yes : Bool
  body : ByteArray

def tPairs : Ty Pair where
  sz := 2
  pos := by omega
  K := fun _ _ x cs => cs = [.string x.key, .string x.val]
  len := by intro _ _ _ _ h; subst h; rfl
  one := by intro _ _ _ _ h; subst h; simp [Value.oneCell']
  mono := fun h _ => h
  move := fun h _ => h
  bnd := fun h => h
def tIntent : Ty Intent where
  sz := 3
  pos := by omega
  K := fun _ _ x cs => cs = [.string x.entry, .int .i64 x.version, .bool x.gone]
  len := by intro _ _ _ _ h; subst h; rfl
  one := by intro _ _ _ _ h; subst h; simp [Value.oneCell']
  mono := fun h _ => h
  move := fun h _ => h
  bnd := fun h => h

theorem Sl.atPair {w : World} {F : Nat → Prop} {xs : List Pair} {A : Option Addr} {n c k : Nat} (h : Sl tPairs w F (.slice A n c) xs) (hk : k < n) :
    ∃ b o x, A = some ⟨b, o, none⟩ ∧ F b ∧ xs[k]? = some x ∧ w.cell? ⟨b, o + k * 2, none⟩ = some (.string x.key) ∧ w.cell? ⟨b, o + k * 2 + 1, none⟩ = some (.string x.val) := by
  obtain ⟨b, o, x, cs, hA, hb, hx, rfl, hc⟩ := h.at hk
  exact ⟨b, o, x, hA, hb, hx, hc 0 _ rfl, hc 1 _ rfl⟩
theorem Sl.atIntent {w : World} {F : Nat → Prop} {xs : List Intent} {A : Option Addr} {n c k : Nat} (h : Sl tIntent w F (.slice A n c) xs) (hk : k < n) :
    ∃ b o x, A = some ⟨b, o, none⟩ ∧ F b ∧ xs[k]? = some x ∧ w.cell? ⟨b, o + k * 3, none⟩ = some (.string x.entry) ∧ w.cell? ⟨b, o + k * 3 + 1, none⟩ = some (.int .i64 x.version) ∧ w.cell? ⟨b, o + k * 3 + 2, none⟩ = some (.bool x.gone) := by
  obtain ⟨b, o, x, cs, hA, hb, hx, rfl, hc⟩ := h.at hk
  exact ⟨b, o, x, hA, hb, hx, hc 0 _ rfl, hc 1 _ rfl, hc 2 _ rfl⟩

/-- A letter's value, its lists lying behind pv and iv. -/
abbrev letV (l : Letter) (pv iv : Value) : Value := .agg #[.int .i64 l.kind, .int .i64 l.src, .int .i64 l.dst, .int .i64 l.a, .int .i64 l.b, .int .i64 l.c, .int .i64 l.d, .string l.s, .string l.t, pv, iv, .int .i64 l.code, .bool l.yes, .string l.body]
/-- Its lists are there. -/
structure LetIn (w : World) (F : Nat → Prop) (l : Letter) (pv iv : Value) : Prop where
  pairs : Sl tPairs w F pv l.pairs
  intents : Sl tIntent w F iv l.intents
theorem LetIn.ext {w w' : World} {F : Nat → Prop} {l : Letter} {pv iv : Value} (h : LetIn w F l pv iv) (he : Ext w w') : LetIn w' F l pv iv := ⟨h.1.ext he, h.2.ext he⟩
theorem LetIn.mono {w : World} {F F' : Nat → Prop} {l : Letter} {pv iv : Value} (h : LetIn w F l pv iv) (hF : ∀ k, F k → F' k) : LetIn w F' l pv iv := ⟨h.1.mono hF, h.2.mono hF⟩
theorem LetIn.move {w w' : World} {F : Nat → Prop} {l : Letter} {pv iv : Value} (h : LetIn w F l pv iv) (hm : ∀ k, F k → k < w.heap.size → w'.heap[k]? = w.heap[k]?) : LetIn w' F l pv iv := ⟨h.1.move hm, h.2.move hm⟩
theorem LetIn.upd {w w' : World} {F : Nat → Prop} {l : Letter} {pv iv : Value} {S : Nat → Prop} (h : LetIn w F l pv iv) (he : Upd S w w') (hS : ∀ k, k < w.heap.size → F k → ¬ S k) : LetIn w' F l pv iv := ⟨h.1.upd he hS, h.2.upd he hS⟩
theorem LetIn.bnd {w : World} {F : Nat → Prop} {l : Letter} {pv iv : Value} (h : LetIn w F l pv iv) : LetIn w (fun k => F k ∧ k < w.heap.size) l pv iv := ⟨h.1.bnd, h.2.bnd⟩

theorem within_calls (n m : Int) (w : World) : Calls Try.prog 67 #[.int .i64 n, .int .i64 m] w fun e w' => e = .returned (.bool (decide (0 ≤ n) && decide (n ≤ m))) ∧ w = w' := by
  by_cases h : 0 ≤ n <;> by_cases h' : n ≤ m
  all_goals
    go_enter Try.func67, Try.ntmps67
    go_wp2
    go_ret
    simp [h, h']

theorem bit_calls (b : Bool) (w : World) : Calls Try.prog 70 #[.bool b] w fun e w' => e = .returned (.int .i64 (if b then 1 else 0)) ∧ w = w' := by
  cases b
  all_goals
    go_enter Try.func70, Try.ntmps70
    go_wp2
    go_ret
    exact ⟨rfl, rfl⟩

theorem numbers_calls (b : Nat) (w : World) : Calls Try.prog 68 #[.pointer (some ⟨b, 0, none⟩)] w fun e w' => ∃ g, e = .returned (.slice (some ⟨g, 0, none⟩) 6 6) ∧ w.heap.size ≤ g ∧
    w'.heap[g]? = some (.cells #[.pointer (some ⟨b, 1, none⟩), .pointer (some ⟨b, 2, none⟩), .pointer (some ⟨b, 3, none⟩), .pointer (some ⟨b, 4, none⟩), .pointer (some ⟨b, 5, none⟩), .pointer (some ⟨b, 6, none⟩)] 100 (0, 0)) ∧ Ext w w' := by
  go_enter Try.func68, Try.ntmps68
  go_wp2
  go_region_held3 (fun _ => True) (trivial) (fail)
  go_wp2
  go_ret
  exact ⟨_, rfl, by simp, heap_alloc_new w _, ((Ext.refl w).drew).alloc _⟩

theorem texts_calls (b : Nat) (w : World) : Calls Try.prog 71 #[.pointer (some ⟨b, 0, none⟩)] w fun e w' => ∃ g, e = .returned (.slice (some ⟨g, 0, none⟩) 3 3) ∧ w.heap.size ≤ g ∧
    w'.heap[g]? = some (.cells #[.pointer (some ⟨b, 7, none⟩), .pointer (some ⟨b, 8, none⟩), .pointer (some ⟨b, 13, none⟩)] 126 (0, 0)) ∧ Ext w w' := by
  go_enter Try.func71, Try.ntmps71
  go_wp2
  go_region_held3 (fun _ => True) (trivial) (fail)
  go_wp2
  go_ret
  exact ⟨_, rfl, by simp, heap_alloc_new w _, ((Ext.refl w).drew).alloc _⟩

/-! ### bulk -/
def addB (n : Nat) (s : ByteArray) : Nat := if n ≤ 65536 then n + min s.size 65537 else n
theorem addB_le {n : Nat} (h : n ≤ 131073) (s : ByteArray) : addB n s ≤ 131073 := by unfold addB; split <;> omega
/-- A variable of its own: block g holds n. -/
def Var (w : World) (g : Nat) (n : Int) : Prop := w.heap[g]? = some (.cells #[.int .i64 n] 3 (0, 0))
theorem Var.cell {w : World} {g : Nat} {n : Int} (h : Var w g n) : w.cell? ⟨g, 0, none⟩ = some (.int .i64 n) := by
  have := blk_cell h 0
  simpa using this
theorem Var.free {w : World} {g : Nat} {n : Int} (h : Var w g n) : w.frozen? ⟨g, 0, none⟩ = false := blk_free h 0

theorem Var.set {w : World} {g : Nat} {n : Int} (h : Var w g n) (m : Int) : Var (w.setCell ⟨g, 0, none⟩ (.int .i64 m)) g m := by
  have := blk_set h 0 (.int .i64 m)
  simpa [Var] using this

theorem add_calls {g n : Nat} {w : World} (hv : Var w g n) (hn : n ≤ 131073) (s : ByteArray) (hs : s.size ≤ 140737488355328) : Calls Try.prog 76 #[.string s, .pointer (some ⟨g, 0, none⟩)] w fun e w' => e = .returned (.tuple #[]) ∧ Var w' g (addB n s) ∧ Upd (fun k => k = g) w w' := by
  have hc := hv.cell
  have hf := hv.free
  by_cases h : n ≤ 65536
  · by_cases h2 : s.size ≤ 65537
    all_goals
      go_enter Try.func76, Try.ntmps76
      go_wp2
      go_end0
      refine ⟨rfl, ?_, Upd.setCell (S := fun k => k = g) (p := ⟨g, 0, none⟩) (Upd.refl _ _) (.inl rfl) _⟩
    · have e : addB n s = n + s.size := by unfold addB; rw [if_pos (by omega), Nat.min_eq_left (by omega)]
      rw [e]; exact hv.set _
    · have e : addB n s = n + 65537 := by unfold addB; rw [if_pos (by omega), Nat.min_eq_right (by omega)]
      rw [e]; exact hv.set _
  · go_enter Try.func76, Try.ntmps76
    go_wp2
    go_end0
    exact ⟨rfl, by unfold addB; rw [if_neg h]; exact hv, Upd.refl _ _⟩

/-- A letter's texts, in their order. -/
def Letter.txts (l : Letter) : List ByteArray := [l.s, l.t, l.body]
/-- All of a letter's texts. -/
def Letter.alls (l : Letter) : List ByteArray := l.txts ++ l.pairs.flatMap (fun p => [p.key, p.val]) ++ l.intents.map (·.entry)
def Letter.bulk (l : Letter) : Nat := l.alls.foldl addB 0
/-- The cells of a letter. -/
abbrev letCs (l : Letter) (pv iv : Value) : Array Value := #[.int .i64 l.kind, .int .i64 l.src, .int .i64 l.dst, .int .i64 l.a, .int .i64 l.b, .int .i64 l.c, .int .i64 l.d, .string l.s, .string l.t, pv, iv, .int .i64 l.code, .bool l.yes, .string l.body]

theorem letter_texts {w : World} {b : Nat} {l : Letter} {pv iv : Value} {T : TypeId} (hB : w.heap[b]? = some (.cells (letCs l pv iv) T (0, 0))) {g : Nat} (hg : w.heap[g]? = some (.cells #[.pointer (some ⟨b, 7, none⟩), .pointer (some ⟨b, 8, none⟩), .pointer (some ⟨b, 13, none⟩)] 126 (0, 0))) :
    ∀ k, k < 3 → ∃ j s, w.cell? ⟨g, k, none⟩ = some (.pointer (some ⟨b, j, none⟩)) ∧ w.cell? ⟨b, j, none⟩ = some (.string s) ∧ l.txts[k]? = some s := by
  intro k hk
  have h1 := blk_cell hg k
  rcases (show k = 0 ∨ k = 1 ∨ k = 2 by omega) with rfl | rfl | rfl
  · exact ⟨7, l.s, h1, blk_cell hB 7, rfl⟩
  · exact ⟨8, l.t, h1, blk_cell hB 8, rfl⟩
  · exact ⟨13, l.body, h1, blk_cell hB 13, rfl⟩

theorem foldl_take_succ {α β : Type} (f : β → α → β) (z : β) {xs : List α} {k : Nat} {x : α} (h : xs[k]? = some x) : (xs.take (k + 1)).foldl f z = f ((xs.take k).foldl f z) x := by
  rw [List.take_add_one, h]
  simp

theorem Letter.mem_txts {l : Letter} {k : Nat} {s : ByteArray} (h : l.txts[k]? = some s) : s ∈ l.alls := by
  have := List.mem_of_getElem? h
  simp [Letter.alls, this]
theorem Letter.mem_pair {l : Letter} {k : Nat} {p : Pair} (h : l.pairs[k]? = some p) : p.key ∈ l.alls ∧ p.val ∈ l.alls := by
  have := List.mem_of_getElem? h
  constructor
  · simp only [Letter.alls, List.mem_append, List.mem_flatMap]
    exact .inl (.inr ⟨p, this, by simp⟩)
  · simp only [Letter.alls, List.mem_append, List.mem_flatMap]
    exact .inl (.inr ⟨p, this, by simp⟩)
theorem Letter.mem_intent {l : Letter} {k : Nat} {x : Intent} (h : l.intents[k]? = some x) : x.entry ∈ l.alls := by
  have := List.mem_of_getElem? h
  simp only [Letter.alls, List.mem_append, List.mem_map]
  exact .inr ⟨x, this, rfl⟩
def pairFold (n : Nat) (p : Pair) : Nat := addB (addB n p.key) p.val
theorem Letter.bulk_eq (l : Letter) : l.bulk = (l.intents.foldl (fun n x => addB n x.entry) (l.pairs.foldl pairFold (l.txts.foldl addB 0))) := by
  unfold Letter.bulk Letter.alls
  rw [List.foldl_append, List.foldl_append, List.foldl_map]
  congr 1
  generalize l.txts.foldl addB 0 = z
  induction l.pairs generalizing z with
  | nil => rfl
  | cons p r ih => simp only [List.flatMap_cons, List.foldl_append, List.foldl_cons, List.foldl_nil]; exact ih _

set_option maxHeartbeats 4000000 in
theorem bulk_calls {F : Nat → Prop} (l : Letter) {pv iv : Value} (w : World) (h : LetIn w F l pv iv) (hsz : ∀ s ∈ l.alls, s.size ≤ 140737488355328) : Calls Try.prog 69 #[letV l pv iv] w (Ret w (.int .i64 l.bulk)) := by
  obtain ⟨A1, c1, rfl, hc1, hn1⟩ := h.pairs.form
  obtain ⟨A2, c2, rfl, hc2, hn2⟩ := h.intents.form
  obtain ⟨n1, hl1⟩ : ∃ n1, n1 = l.pairs.length := ⟨_, rfl⟩
  obtain ⟨n2, hl2⟩ : ∃ n2, n2 = l.intents.length := ⟨_, rfl⟩
  rw [← hl1] at hc1 hn1 h ⊢
  rw [← hl2] at hc2 hn2 h ⊢
  have Hl1 := Lib.hid hl1
  have Hl2 := Lib.hid hl2
  clear hl1 hl2
  go_enter Try.func69, Try.ntmps69
  go_wp2_with (go_at_call 71; refine (texts_calls _ _).mono ?_; rintro e w1 ⟨gt, rfl, hgt, hT, he⟩)
  have hB : w1.heap[w.heap.size]? = some (.cells (letCs l (.slice A1 n1 c1) (.slice A2 n2 c2)) 34 (0, 0)) := blk_ext (blk_old (blk_new rfl)) he
  have hV : Var w1 (w.heap.size + 1) ((0 : Nat) : Int) := blk_ext (blk_new (by simp)) he
  have hE : Ext w w1 := (((Ext.refl w).alloc _).alloc _).trans he
  have hgt' : w.heap.size + 2 ≤ gt := by simpa using hgt
  clear he hgt
  go_loopw [14] (fun i wr => ∃ k n : Nat, k ≤ 3 ∧ i = .int .i64 k ∧ Ext w wr ∧ Hid (wr.heap[w.heap.size]? = some (.cells (letCs l (.slice A1 n1 c1) (.slice A2 n2 c2)) 34 (0, 0))) ∧ Hid (wr.heap[gt]? = some (.cells #[.pointer (some ⟨w.heap.size, 7, none⟩), .pointer (some ⟨w.heap.size, 8, none⟩), .pointer (some ⟨w.heap.size, 13, none⟩)] 126 (0, 0))) ∧ Var wr (w.heap.size + 1) n ∧ n ≤ 131073 ∧ Hid (n = (l.txts.take k).foldl addB 0)) (fun i _ => 3 - (intOf i).toNat)
  case atStart => exact ⟨0, 0, by omega, rfl, hE, hB, hT, hV, by omega, rfl⟩
  case round =>
    clear hE hB hT hV
    obtain ⟨k, n, hk, rfl, hE, hB, hT, hV, hn, Hn⟩ := hrel
    by_cases hlt : k < 3
    · obtain ⟨j, s, c1, c2, hs⟩ := letter_texts hB.out hT.out k hlt
      have hm := hsz s (Letter.mem_txts hs)
      have Hs := Lib.hid hs
      clear hs
      go_wp2_with (go_at_call 76; refine (add_calls hV hn s hm).mono ?_; rintro e w2 ⟨rfl, hV2, hU⟩)
      go_roundw
      case rel => exact ⟨k + 1, addB n s, by omega, by go_num, hU.ext hE (by rintro i rfl; omega), blk_upd hB.out hU (by omega), blk_upd hT.out hU (by omega), hV2, addB_le hn s, by rw [foldl_take_succ _ _ Hs.out, ← Hn.out]; rfl⟩
      case measure => simp [intOf]; omega
    · have hk3 : k = 3 := by omega
      rw [hk3] at Hn
      clear hk3
      have hlet := h.ext hE
      have cP := blk_cell hB.out 9
      have cI := blk_cell hB.out 10
      simp only [letCs, List.getElem?_toArray, List.getElem?_cons_succ, List.getElem?_cons_zero] at cP cI
      go_wp2
      go_loopw [27] (fun i wr => ∃ k n : Nat, k ≤ n1 ∧ i = .int .i64 k ∧ Ext w wr ∧ Hid (wr.heap[w.heap.size]? = some (.cells (letCs l (.slice A1 n1 c1) (.slice A2 n2 c2)) 34 (0, 0))) ∧ Var wr (w.heap.size + 1) n ∧ n ≤ 131073 ∧ Hid (n = (l.pairs.take k).foldl pairFold (l.txts.foldl addB 0))) (fun i _ => n1 - (intOf i).toNat)
      case atStart => exact ⟨0, n, by omega, rfl, hE, hB, hV, hn, Hn.out⟩
      case round =>
        clear hE hB hT hV hlet cP cI Hn hn
        clear n
        obtain ⟨k, n, hk, rfl, hE, hB, hV, hn, Hn⟩ := hrel
        have hlet := h.ext hE
        by_cases hlt : k < n1
        · obtain ⟨b, o, x, rfl, hb, hx, c1, c2⟩ := hlet.pairs.atPair hlt
          have hm := Letter.mem_pair hx
          have hm1 := hsz _ hm.1
          have hm2 := hsz _ hm.2
          have Hx := Lib.hid hx
          clear hx hm
          have hV1 : Var (wr.alloc (.cells #[.string x.key, .string x.val] 79)) (w.heap.size + 1) n := blk_old hV
          go_wp2_with fail
          refine (add_calls hV1 hn _ hm1).mono ?_
          rintro e w2 ⟨rfl, hV2, hU⟩
          have hg := blk_lt hV
          have c4 : w2.cell? ⟨wr.heap.size, 1, none⟩ = some (.string x.val) := by
            have := blk_cell (blk_upd (blk_new rfl) hU (by omega)) 1
            simpa using this
          have hn2' := addB_le hn x.key
          have hE2 := hU.ext ((hE.alloc _)) (by rintro i rfl; omega)
          have hB2 := blk_upd (blk_old hB.out) hU (by omega)
          have HB2 := Lib.hid hB2
          clear hB2 hU
          go_wp2_with fail
          refine (add_calls hV2 hn2' _ hm2).mono ?_
          rintro e w3 ⟨rfl, hV3, hU3⟩
          go_wp2
          go_roundw
          case rel => exact ⟨k + 1, _, by omega, by go_num, hU3.ext hE2 (by rintro i rfl; omega), blk_upd HB2.out hU3 (by omega), hV3, addB_le hn2' _, by rw [foldl_take_succ _ _ Hx.out, ← Hn.out]; rfl⟩
          case measure => simp [intOf]; omega
        · have hkn : k = n1 := by omega
          have hfl : l.pairs.take k = l.pairs := by rw [hkn, Hl1.out]; exact List.take_length
          rw [hfl] at Hn
          clear hkn hfl
          have cI := blk_cell hB.out 10
          simp only [letCs, List.getElem?_toArray, List.getElem?_cons_succ, List.getElem?_cons_zero] at cI
          go_wp2
          go_loopw [43] (fun i wr => ∃ k n : Nat, k ≤ n2 ∧ i = .int .i64 k ∧ Ext w wr ∧ Var wr (w.heap.size + 1) n ∧ n ≤ 131073 ∧ Hid (n = (l.intents.take k).foldl (fun n x => addB n x.entry) (l.pairs.foldl pairFold (l.txts.foldl addB 0)))) (fun i _ => n2 - (intOf i).toNat)
          case atStart => exact ⟨0, n, by omega, rfl, hE, hV, hn, Hn.out⟩
          case round =>
            clear hE hB hV hlet cI Hn hn
            clear n
            obtain ⟨k, n, hk, rfl, hE, hV, hn, Hn⟩ := hrel
            have hlet := h.ext hE
            by_cases hlt : k < n2
            · obtain ⟨b, o, x, rfl, hb, hx, c1, c2, c3⟩ := hlet.intents.atIntent hlt
              have hm := hsz _ (Letter.mem_intent hx)
              have Hx := Lib.hid hx
              clear hx
              have hg := blk_lt hV
              have hV1 : Var (wr.alloc (.cells #[.string x.entry, .int .i64 x.version, .bool x.gone] 81)) (w.heap.size + 1) n := blk_old hV
              go_wp2_with (go_at_call 76; refine (add_calls hV1 hn _ hm).mono ?_; rintro e w2 ⟨rfl, hV2, hU⟩)
              go_roundw
              case rel => exact ⟨k + 1, _, by omega, by go_num, hU.ext (hE.alloc _) (by rintro i rfl; omega), hV2, addB_le hn _, by rw [foldl_take_succ _ _ Hx.out, ← Hn.out]; rfl⟩
              case measure => simp [intOf]; omega
            · have hkn : k = n2 := by omega
              have hfl : l.intents.take k = l.intents := by rw [hkn, Hl2.out]; exact List.take_length
              rw [hfl] at Hn
              clear hkn hfl
              have cV := hV.cell
              go_wp2
              go_ret
              exact ⟨congrArg (fun z : Nat => Ending.returned (.int .i64 (z : Int))) (Hn.out.trans l.bulk_eq.symm), hE⟩
end Go.Proofs.Ytmimncinnflfkaa
