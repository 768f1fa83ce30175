/- Layer 14: the program's net and the document's, side by side. -/
import Derived.Test.YtmimncinnflfkaaUnder
import Derived.Test.YtmimncinnflfkaaRefNet7
import Derived.Test.YtmimncinnflfkaaCore3
set_option linter.all false
namespace Go.Proofs.Ytmimncinnflfkaa
open Go.RowKit
set_option maxRecDepth 100000

def pr (r : Row) : Int × Letter := (r.n, r.l)
def Old (w0 : World) : Nat → Prop := fun k => k < w0.heap.size
/-- Both nets hold the same letters, at most i; w0: the world when the statement was called. -/
structure PS (w0 w : World) (p mb q : Nat) (Fn : Nat → Prop) (v : Value) (rs : List Row) (last i : Nat) : Prop where
  net : NetM w Fn p mb rs last
  ref : RefM w (Old w0) q v (rs.map pr) last
  ext : Ext w0 w
  o1 : w0.heap.size ≤ p
  o2 : w0.heap.size ≤ mb
  o3 : p < q
  o4 : mb < q
  ap : ∀ k, Fn k → ¬ RS q v k
  fb : ∀ k, Fn k → k < w.heap.size
  l1 : rs.length ≤ last
  l2 : last ≤ i

section
variable {w0 w : World} {p mb q : Nat} {Fn : Nat → Prop} {v : Value} {rs : List Row} {last i : Nat}
theorem PS.mono (h : PS w0 w p mb q Fn v rs last i) {j : Nat} (hj : i ≤ j) : PS w0 w p mb q Fn v rs last j := { h with l2 := Nat.le_trans h.l2 hj }
theorem PS.go (h : PS w0 w p mb q Fn v rs last i) {w' : World} (he : Ext w w') : PS w0 w' p mb q Fn v rs last i :=
  { h with net := h.net.ext he, ref := h.ref.ext he, ext := h.ext.trans he, fb := fun k hk => Nat.lt_of_lt_of_le (h.fb k hk) he.sz }
theorem PS.hq (h : PS w0 w p mb q Fn v rs last i) : ∀ k, Old w0 k → k < q := fun k hk => by have := h.o1; have := h.o3; have : k < w0.heap.size := hk; omega
theorem PS.rlen (h : PS w0 w p mb q Fn v rs last i) : (rs.map pr).length = rs.length := List.length_map _
/-- What the net's call has turned leaves the document's net alone. -/
theorem PS.refU (h : PS w0 w p mb q Fn v rs last i) {w1 : World} (hU : Upd (fun k => k = p ∨ k = mb) w w1) : RefM w1 (Old w0) q v (rs.map pr) last :=
  h.ref.upd hU (fun k hk hr => by
    have hb : ∀ g, v.ownBlock = some g → q + 1 ≤ g := fun g hg => (h.ref.own.blk g hg).1
    have := h.o3; have := h.o4
    rcases hr with hr | hr
    · rcases hk with rfl | rfl <;> omega
    · have := hb _ hr
      rcases hk with rfl | rfl <;> omega) (fun k _ hk e => by
    have := h.o1; have := h.o2; have : k < w0.heap.size := hk
    rcases e with rfl | rfl <;> omega)
/-- What the document's call has turned leaves the net alone. -/
theorem PS.netU (h : PS w0 w p mb q Fn v rs last i) {w1 : World} (hU : Upd (RS q v) w w1) : NetM w1 Fn p mb rs last :=
  have hb : ∀ g, v.ownBlock = some g → q + 1 ≤ g := fun g hg => (h.ref.own.blk g hg).1
  have o3 := h.o3; have o4 := h.o4
  h.net.upd hU (fun e => by rcases e with e | e; omega; have := hb _ e; omega) (fun e => by rcases e with e | e; omega; have := hb _ e; omega) (fun k _ hk => h.ap k hk)
theorem PS.newer (h : PS w0 w p mb q Fn v rs last i) {S : Nat → Prop} {w1 : World} (hU : Upd S w w1) (hS : ∀ k, S k → w0.heap.size ≤ k) : Ext w0 w1 := hU.ext h.ext hS
theorem PS.netS (h : PS w0 w p mb q Fn v rs last i) : ∀ k, (k = p ∨ k = mb) → w0.heap.size ≤ k := fun k hk => by have := h.o1; have := h.o2; rcases hk with rfl | rfl <;> omega
theorem PS.refS (h : PS w0 w p mb q Fn v rs last i) : ∀ k, RS q v k → w0.heap.size ≤ k := fun k hk => by
  have := h.o1; have := h.o3
  rcases hk with rfl | hk
  · omega
  · have := (h.ref.own.blk k hk).1
    omega
theorem RS.lt (h : PS w0 w p mb q Fn v rs last i) : ∀ k, RS q v k → k < w.heap.size := fun k hk => by
  rcases hk with rfl | hk
  · exact blk_lt h.ref.blk
  · exact (h.ref.own.blk k hk).2

/-- A letter goes into both. -/
theorem PS.add (h : PS w0 w p mb q Fn v rs last i) {l : Letter} {e e' : Ending} {w1 w2 : World} (h1 : AddPost Fn p mb last rs l w e w1) (h2 : RAddPost (Old w0) q last v (rs.map pr) l w1 e' w2) :
    ∃ Fn' v' rs' last', PS w0 w2 p mb q Fn' v' rs' last' (i + 1) := by
  obtain ⟨_, ⟨pv, iv, hN⟩, hU1⟩ := h1
  obtain ⟨_, ⟨v1, hR, hA⟩, hU2⟩ := h2
  have hlt := RS.lt h
  have hap : ∀ k, Fx Fn w w1 k → ¬ RS q v k := by
    intro k hk hr
    rcases hk with ⟨hk, _⟩ | ⟨hk, _⟩
    · exact h.ap k hk hr
    · have := hlt k hr; omega
  have hb : ∀ g, v.ownBlock = some g → q + 1 ≤ g := fun g hg => (h.ref.own.blk g hg).1
  have o3 := h.o3; have o4 := h.o4
  have hN2 : NetM w2 (Fx Fn w w1) p mb (rs ++ [⟨(last : Int) + 1, l, pv, iv⟩]) (last + 1) :=
    hN.upd hU2 (fun e => by rcases e with e | e; omega; have := hb _ e; omega) (fun e => by rcases e with e | e; omega; have := hb _ e; omega) (fun k _ hk => hap k hk)
  refine ⟨_, v1, _, _, ⟨hN2, ?_, hU2.ext (h.newer hU1 h.netS) h.refS, h.o1, h.o2, h.o3, h.o4, ?_, ?_, ?_, ?_⟩⟩
  · rw [List.map_append]; exact hR
  · intro k hk hr
    have hkl : k < w1.heap.size := by
      rcases hk with ⟨_, hk⟩ | ⟨_, hk⟩
      · exact Nat.lt_of_lt_of_le hk hU1.size
      · exact hk
    rcases hr with rfl | hr
    · exact hap _ hk (.inl rfl)
    · rcases hA with hA | hA | ⟨b, hA, hb'⟩
      · exact hap _ hk (.inr (by rw [← hA]; exact hr))
      · rw [hA] at hr; cases hr
      · rw [hA] at hr
        injection hr with hr
        omega
  · rintro k (⟨_, hk⟩ | ⟨_, hk⟩)
    · exact Nat.lt_of_lt_of_le hk (Nat.le_trans hU1.size hU2.size)
    · exact Nat.lt_of_lt_of_le hk hU2.size
  · have := h.l1
    rw [List.length_append, List.length_singleton]
    omega
  · have := h.l2; omega

theorem PS.rise (h : PS w0 w p mb q Fn v rs last i) : (rs.map (·.n)).Pairwise (· < ·) := by
  have := List.Pairwise.map (R := fun p q : Int × Value => p.1 < q.1) (S := fun x y : Int => x < y) (·.1) (fun _ _ h => h) h.net.map.1
  rw [List.map_map] at this
  exact this
/-- One number, one letter. -/
theorem rise_one {rs : List Row} (h : (rs.map (·.n)).Pairwise (· < ·)) {a b : Nat} {r s : Row} (ha : rs[a]? = some r) (hb : rs[b]? = some s) (he : r.n = s.n) : a = b := by
  rw [List.pairwise_map] at h
  have h1 := List.pairwise_iff_getElem.1 h
  obtain ⟨la, rfl⟩ := List.getElem?_eq_some_iff.1 ha
  obtain ⟨lb, rfl⟩ := List.getElem?_eq_some_iff.1 hb
  rcases Nat.lt_trichotomy a b with hlt | heq | hlt
  · have := h1 a b la lb hlt; omega
  · exact heq
  · have := h1 b a lb la hlt; omega
theorem PS.find (h : PS w0 w p mb q Fn v rs last i) {r : Row} (hr : r ∈ rs) {x : Int × Letter} (hx : x ∈ rs.map pr) (he : r.n = x.1) : x = pr r := by
  obtain ⟨s, hs, rfl⟩ := List.mem_map.1 hx
  obtain ⟨a, ha⟩ := List.mem_iff_getElem?.1 hr
  obtain ⟨b, hb⟩ := List.mem_iff_getElem?.1 hs
  have := rise_one h.rise ha hb he
  subst this
  rw [ha] at hb
  rw [Option.some.inj hb]
theorem take_drop {rs : List Row} (h : (rs.map (·.n)).Pairwise (· < ·)) {j : Nat} {x : Int × Letter} (hx : (rs.map pr)[j]? = some x) :
    (rs.map pr).take j ++ (rs.map pr).drop (j + 1) = (rs.filter (fun s => !decide (s.n = x.1))).map pr := by
  induction rs generalizing j with
  | nil => simp at hx
  | cons r t ih =>
    rw [List.map_cons, List.pairwise_cons] at h
    cases j with
    | zero =>
      simp at hx
      subst hx
      have hf : t.filter (fun s => !decide (s.n = r.n)) = t := by
        rw [List.filter_eq_self]
        intro s hs
        have := h.1 s.n (List.mem_map.2 ⟨s, hs, rfl⟩)
        simp; omega
      simp [pr]
      exact (congrArg (List.map pr) hf).symm
    | succ j =>
      rw [List.map_cons, List.getElem?_cons_succ] at hx
      have hm : x ∈ t.map pr := List.mem_of_getElem? hx
      obtain ⟨s, hs, rfl⟩ := List.mem_map.1 hm
      have hne : ¬ r.n = s.n := by have := h.1 s.n (List.mem_map.2 ⟨s, hs, rfl⟩); omega
      rw [List.map_cons, List.take_succ_cons, List.drop_succ_cons, List.cons_append, ih h.2 hx]
      simp [pr, hne]
theorem filter_len (rs : List Row) (k : Int) : (rs.filter (fun s => !decide (s.n = k))).length ≤ rs.length := List.length_filter_le _ _

/-- The net's part of a letter that goes out of both: the net first. -/
theorem PS.take (h : PS w0 w p mb q Fn v rs last i) {k : Int} {w1 w2 : World} {v1 : Value} {j : Nat} {x : Int × Letter}
    (hN : NetM w1 Fn p mb (rs.filter (fun s => !decide (s.n = k))) last) (hU1 : Upd (fun k => k = p ∨ k = mb) w w1)
    (hx : (rs.map pr)[j]? = some x) (hk : x.1 = k) (hR : RefM w2 (Old w0) q v1 ((rs.map pr).take j ++ (rs.map pr).drop (j + 1)) last) (hA : Av2 w1 v v1) (hU2 : Upd (RS q v) w1 w2) :
    PS w0 w2 p mb q Fn v1 (rs.filter (fun s => !decide (s.n = k))) last i := by
  have hb : ∀ g, v.ownBlock = some g → q + 1 ≤ g := fun g hg => (h.ref.own.blk g hg).1
  have o3 := h.o3; have o4 := h.o4
  subst hk
  rw [take_drop h.rise hx] at hR
  refine ⟨hN.upd hU2 (fun e => by rcases e with e | e; omega; have := hb _ e; omega) (fun e => by rcases e with e | e; omega; have := hb _ e; omega) (fun k _ hk => h.ap k hk), hR, hU2.ext (h.newer hU1 h.netS) h.refS, h.o1, h.o2, h.o3, h.o4, ?_, fun k hk => Nat.lt_of_lt_of_le (h.fb k hk) (Nat.le_trans hU1.size hU2.size), Nat.le_trans (filter_len _ _) h.l1, h.l2⟩
  intro k hk hr
  rcases hr with rfl | hr
  · exact h.ap _ hk (.inl rfl)
  · rcases hA with hA | hA | ⟨b, hA, hb'⟩
    · exact h.ap _ hk (.inr (by rw [← hA]; exact hr))
    · rw [hA] at hr; cases hr
    · rw [hA] at hr
      injection hr with hr
      have := h.fb k hk
      have := hU1.size
      omega
/-- The document's net first. -/
theorem PS.drop (h : PS w0 w p mb q Fn v rs last i) {k : Int} {w1 w2 : World} {v1 : Value} {j : Nat} {x : Int × Letter}
    (hx : (rs.map pr)[j]? = some x) (hk : x.1 = k) (hR : RefM w1 (Old w0) q v1 ((rs.map pr).take j ++ (rs.map pr).drop (j + 1)) last) (hA : Av2 w v v1) (hU1 : Upd (RS q v) w w1)
    (hN : NetM w2 Fn p mb (rs.filter (fun s => !decide (s.n = k))) last) (hU2 : Upd (fun k => k = p ∨ k = mb) w1 w2) :
    PS w0 w2 p mb q Fn v1 (rs.filter (fun s => !decide (s.n = k))) last i := by
  have o1 := h.o1; have o2 := h.o2; have o3 := h.o3; have o4 := h.o4
  subst hk
  rw [take_drop h.rise hx] at hR
  have hR2 := hR.upd hU2 (fun k hk hr => by
    rcases hr with hr | hr
    · rcases hk with rfl | rfl <;> omega
    · have := (hR.own.blk k hr).1
      rcases hk with rfl | rfl <;> omega) (fun k _ hk e => by
    have : k < w0.heap.size := hk
    rcases e with rfl | rfl <;> omega)
  refine ⟨hN, hR2, hU2.ext (h.newer hU1 h.refS) h.netS, o1, o2, o3, o4, ?_, fun k hk => Nat.lt_of_lt_of_le (h.fb k hk) (Nat.le_trans hU1.size hU2.size), Nat.le_trans (filter_len _ _) h.l1, h.l2⟩
  intro k hk hr
  rcases hr with rfl | hr
  · exact h.ap _ hk (.inl rfl)
  · rcases hA with hA | hA | ⟨b, hA, hb'⟩
    · exact h.ap _ hk (.inr (by rw [← hA]; exact hr))
    · rw [hA] at hr; cases hr
    · rw [hA] at hr
      injection hr with hr
      have := h.fb k hk
      omega
theorem Av2.later {w1 : World} {v1 : Value} (h : Av2 w1 v v1) (he : Ext w w1) : Av2 w v v1 := by
  rcases h with h6 | h6 | ⟨b, h6, h8⟩
  · exact .inl h6
  · exact .inr (.inl h6)
  · exact .inr (.inr ⟨b, h6, Nat.le_trans he.sz h8⟩)
theorem RDelPost.later {F : Nat → Prop} {xs : List (Int × Letter)} {k : Int} {w1 : World} {e : Ending} {w' : World} (he : Ext w w1) (h : RDelPost F q last v xs k w1 e w') : RDelPost F q last v xs k w e w' := by
  rcases h with ⟨j, x, pv, iv, h1, h2, h3, h4, ⟨v1, h5, h6⟩, h7⟩ | ⟨h1, h2, h3⟩
  · refine .inl ⟨j, x, pv, iv, h1, h2, h3, h4, ⟨v1, h5, ?_⟩, (Upd.of_ext he).trans h7 (fun _ _ h => h)⟩
    rcases h6 with h6 | h6 | ⟨b, h6, h8⟩
    · exact .inl h6
    · exact .inr (.inl h6)
    · exact .inr (.inr ⟨b, h6, Nat.le_trans he.sz h8⟩)
  · exact .inr ⟨h1, h2, he.trans h3⟩

/-- A call, as the statement has it. -/
structure Act where
  kind : Int
  l : Letter
  n : Int
abbrev actCs (x : Act) (pv iv : Value) : Array Value := #[.int .i64 x.kind, .int .i64 x.l.kind, .int .i64 x.l.src, .int .i64 x.l.dst, .int .i64 x.l.a, .int .i64 x.l.b, .int .i64 x.l.c, .int .i64 x.l.d, .string x.l.s, .string x.l.t, pv, iv, .int .i64 x.l.code, .bool x.l.yes, .string x.l.body, .int .i64 x.n]
def tAct : Ty Act where
  sz := 16
  pos := by omega
  K := fun w F x cs => ∃ pv iv, cs = (actCs x pv iv).toList ∧ LetIn w F x.l pv iv
  len := by rintro _ _ _ _ ⟨pv, iv, rfl, _⟩; rfl
  one := by
    rintro _ _ _ _ ⟨pv, iv, rfl, h⟩ u hu
    obtain ⟨A1, c1, rfl, _⟩ := h.pairs.form
    obtain ⟨A2, c2, rfl, _⟩ := h.intents.form
    simp only [List.mem_cons, List.not_mem_nil, or_false] at hu
    rcases hu with rfl | rfl | rfl | rfl | rfl | rfl | rfl | rfl | rfl | rfl | rfl | rfl | rfl | rfl | rfl | rfl <;> rfl
  mono := by rintro _ _ _ _ _ ⟨pv, iv, rfl, h⟩ hF; exact ⟨pv, iv, rfl, h.mono hF⟩
  move := by rintro _ _ _ _ _ ⟨pv, iv, rfl, h⟩ hF; exact ⟨pv, iv, rfl, h.move hF⟩
  bnd := by rintro _ _ _ _ ⟨pv, iv, rfl, h⟩; exact ⟨pv, iv, rfl, h.bnd⟩
theorem Sl.atAct {F : Nat → Prop} {xs : List Act} {A : Option Addr} {n c k : Nat} (h : Sl tAct w F (.slice A n c) xs) (hk : k < n) :
    ∃ b o x pv iv, A = some ⟨b, o, none⟩ ∧ xs[k]? = some x ∧ LetIn w F x.l pv iv ∧ w.rangeAt b (o + k * 16) (actCs x pv iv).toList := by
  obtain ⟨b, o, x, cs, hA, hb, hx, ⟨pv, iv, rfl, hL⟩, hc⟩ := h.at hk
  exact ⟨b, o, x, pv, iv, hA, hx, hL, hc⟩
end
theorem act_one (x : Act) (A1 A2 : Option Addr) (n1 c1 n2 c2 : Nat) : (actCs x (.slice A1 n1 c1) (.slice A2 n2 c2)).all (·.oneCell') = true := by simp [Go.Value.oneCell']
theorem let_one (l : Letter) (A1 A2 : Option Addr) (n1 c1 n2 c2 : Nat) : (letCs l (.slice A1 n1 c1) (.slice A2 n2 c2)).all (·.oneCell') = true := by simp [Go.Value.oneCell']
theorem rng0 {w : World} {g : Nat} {cs : Array Value} {t : TypeId} {fr : Nat × Nat} (h : w.heap[g]? = some (.cells cs t fr)) : w.rangeAt g 0 cs.toList :=
  rng_blk h 0 _ (fun j v hv => by rw [Nat.zero_add]; simpa using hv)
theorem keepC {w w' : World} {b o : Nat} {l : Letter} {pv iv : Value} (he : Ext w w') (h : (w.cell? ⟨b, o, none⟩ = some (.int .i64 l.kind) ∧ w.cell? ⟨b, o + 1, none⟩ = some (.int .i64 l.src) ∧ w.cell? ⟨b, o + 2, none⟩ = some (.int .i64 l.dst) ∧ w.cell? ⟨b, o + 3, none⟩ = some (.int .i64 l.a) ∧ w.cell? ⟨b, o + 4, none⟩ = some (.int .i64 l.b) ∧ w.cell? ⟨b, o + 5, none⟩ = some (.int .i64 l.c) ∧ w.cell? ⟨b, o + 6, none⟩ = some (.int .i64 l.d) ∧ w.cell? ⟨b, o + 7, none⟩ = some (.string l.s) ∧ w.cell? ⟨b, o + 8, none⟩ = some (.string l.t) ∧ w.cell? ⟨b, o + 9, none⟩ = some (pv) ∧ w.cell? ⟨b, o + 10, none⟩ = some (iv) ∧ w.cell? ⟨b, o + 11, none⟩ = some (.int .i64 l.code) ∧ w.cell? ⟨b, o + 12, none⟩ = some (.bool l.yes) ∧ w.cell? ⟨b, o + 13, none⟩ = some (.string l.body))) : (w'.cell? ⟨b, o, none⟩ = some (.int .i64 l.kind) ∧ w'.cell? ⟨b, o + 1, none⟩ = some (.int .i64 l.src) ∧ w'.cell? ⟨b, o + 2, none⟩ = some (.int .i64 l.dst) ∧ w'.cell? ⟨b, o + 3, none⟩ = some (.int .i64 l.a) ∧ w'.cell? ⟨b, o + 4, none⟩ = some (.int .i64 l.b) ∧ w'.cell? ⟨b, o + 5, none⟩ = some (.int .i64 l.c) ∧ w'.cell? ⟨b, o + 6, none⟩ = some (.int .i64 l.d) ∧ w'.cell? ⟨b, o + 7, none⟩ = some (.string l.s) ∧ w'.cell? ⟨b, o + 8, none⟩ = some (.string l.t) ∧ w'.cell? ⟨b, o + 9, none⟩ = some (pv) ∧ w'.cell? ⟨b, o + 10, none⟩ = some (iv) ∧ w'.cell? ⟨b, o + 11, none⟩ = some (.int .i64 l.code) ∧ w'.cell? ⟨b, o + 12, none⟩ = some (.bool l.yes) ∧ w'.cell? ⟨b, o + 13, none⟩ = some (.string l.body)) :=
  ⟨he.cell h.1, he.cell h.2.1, he.cell h.2.2.1, he.cell h.2.2.2.1, he.cell h.2.2.2.2.1, he.cell h.2.2.2.2.2.1, he.cell h.2.2.2.2.2.2.1, he.cell h.2.2.2.2.2.2.2.1, he.cell h.2.2.2.2.2.2.2.2.1, he.cell h.2.2.2.2.2.2.2.2.2.1, he.cell h.2.2.2.2.2.2.2.2.2.2.1, he.cell h.2.2.2.2.2.2.2.2.2.2.2.1, he.cell h.2.2.2.2.2.2.2.2.2.2.2.2.1, he.cell h.2.2.2.2.2.2.2.2.2.2.2.2.2⟩
theorem keep29 {w w' : World} {b1 b2 o : Nat} {l : Letter} {pv iv p2 i2 : Value} {a : Addr} {u : Value} (he : Ext w w') (h : LetC w b1 l pv iv ∧ (w.cell? ⟨b2, o, none⟩ = some (.int .i64 l.kind) ∧ w.cell? ⟨b2, o + 1, none⟩ = some (.int .i64 l.src) ∧ w.cell? ⟨b2, o + 2, none⟩ = some (.int .i64 l.dst) ∧ w.cell? ⟨b2, o + 3, none⟩ = some (.int .i64 l.a) ∧ w.cell? ⟨b2, o + 4, none⟩ = some (.int .i64 l.b) ∧ w.cell? ⟨b2, o + 5, none⟩ = some (.int .i64 l.c) ∧ w.cell? ⟨b2, o + 6, none⟩ = some (.int .i64 l.d) ∧ w.cell? ⟨b2, o + 7, none⟩ = some (.string l.s) ∧ w.cell? ⟨b2, o + 8, none⟩ = some (.string l.t) ∧ w.cell? ⟨b2, o + 9, none⟩ = some (p2) ∧ w.cell? ⟨b2, o + 10, none⟩ = some (i2) ∧ w.cell? ⟨b2, o + 11, none⟩ = some (.int .i64 l.code) ∧ w.cell? ⟨b2, o + 12, none⟩ = some (.bool l.yes) ∧ w.cell? ⟨b2, o + 13, none⟩ = some (.string l.body)) ∧ w.cell? a = some u) : LetC w' b1 l pv iv ∧ (w'.cell? ⟨b2, o, none⟩ = some (.int .i64 l.kind) ∧ w'.cell? ⟨b2, o + 1, none⟩ = some (.int .i64 l.src) ∧ w'.cell? ⟨b2, o + 2, none⟩ = some (.int .i64 l.dst) ∧ w'.cell? ⟨b2, o + 3, none⟩ = some (.int .i64 l.a) ∧ w'.cell? ⟨b2, o + 4, none⟩ = some (.int .i64 l.b) ∧ w'.cell? ⟨b2, o + 5, none⟩ = some (.int .i64 l.c) ∧ w'.cell? ⟨b2, o + 6, none⟩ = some (.int .i64 l.d) ∧ w'.cell? ⟨b2, o + 7, none⟩ = some (.string l.s) ∧ w'.cell? ⟨b2, o + 8, none⟩ = some (.string l.t) ∧ w'.cell? ⟨b2, o + 9, none⟩ = some (p2) ∧ w'.cell? ⟨b2, o + 10, none⟩ = some (i2) ∧ w'.cell? ⟨b2, o + 11, none⟩ = some (.int .i64 l.code) ∧ w'.cell? ⟨b2, o + 12, none⟩ = some (.bool l.yes) ∧ w'.cell? ⟨b2, o + 13, none⟩ = some (.string l.body)) ∧ w'.cell? a = some u := ⟨keepL he h.1, keepC he h.2.1, he.cell h.2.2⟩
theorem sameZ_calls {w : World} {F : Nat → Prop} {p1 i1 : Value} (h : LetIn w F Letter.zero p1 i1) : Calls Try.prog 12 #[letV Letter.zero p1 i1, .agg #[.int .i64 0, .int .i64 0, .int .i64 0, .int .i64 0, .int .i64 0, .int .i64 0, .int .i64 0, .string ⟨#[]⟩, .string ⟨#[]⟩, .slice none 0 0, .slice none 0 0, .int .i64 0, .bool false, .string ⟨#[]⟩]] w (Ret w (.bool true)) :=
  same_calls (l := Letter.zero) (F2 := fun _ => False) w h ⟨Sl.nil _ _ _, Sl.nil _ _ _⟩
theorem keepR {w w' : World} {b1 o1 b2 o2 : Nat} {c1 c2 : List Value} {a : Addr} {u : Value} (he : Ext w w') (h : w.rangeAt b1 o1 c1 ∧ w.rangeAt b2 o2 c2 ∧ w.cell? a = some u) : w'.rangeAt b1 o1 c1 ∧ w'.rangeAt b2 o2 c2 ∧ w'.cell? a = some u := ⟨rng_ext h.1 he, rng_ext h.2.1 he, he.cell h.2.2⟩
theorem info_act : (Try.prog.info? 36).map (·.size) = some 16 := by kernel_rfl
theorem let_rng {w : World} {g : Nat} {x : Act} {pv iv : Value} {t : TypeId} (h : w.heap[g]? = some (.cells (actCs x pv iv) t (0, 0))) : w.rangeAt g 1 (letCs x.l pv iv).toList :=
  rng_blk h 1 _ (fun j v hv => by
    rw [show 1 + j = j + 1 from Nat.add_comm 1 j]
    have hj : j < 14 := (List.getElem?_eq_some_iff.1 hv).1
    match j, hj, hv with
    | 0, _, h | 1, _, h | 2, _, h | 3, _, h | 4, _, h | 5, _, h | 6, _, h | 7, _, h | 8, _, h | 9, _, h | 10, _, h | 11, _, h | 12, _, h | 13, _, h => exact h)
end Go.Proofs.Ytmimncinnflfkaa
