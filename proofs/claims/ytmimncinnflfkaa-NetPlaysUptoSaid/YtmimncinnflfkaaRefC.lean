/- Layer 13: Light: where it says yes, the lists are short. -/
import Derived.Test.YtmimncinnflfkaaRefB
set_option linter.all false
namespace Go.Proofs.Ytmimncinnflfkaa
open Go.RowKit
set_option maxRecDepth 100000

def mn (x y : Int) : Int := if y < x then y else x
theorem mn_le (x y : Int) : mn x y ≤ y := by unfold mn; split <;> omega
theorem mn_ge {x y : Int} (hx : 0 ≤ x) (hy : 0 ≤ y) : 0 ≤ mn x y := by unfold mn; split <;> omega
theorem min2_mn (k k' : IntKind) (x y : Int) : Builtin.min2 (.int k x) (.int k' y) = pure (.int k (mn x y)) := by simp only [Builtin.min2, mn]
theorem min_two' (ats : Array TypeId) (ty : TypeId) (a b : Value) : Builtin.min_ ats ty #[a, b] = (Builtin.min2 a b >>= fun s => pure s) := by simp only [Builtin.min_, List.foldlM_cons, List.foldlM_nil]
attribute [local go_sem] min2_mn min_two'

/-- What Light hands back: yes, where the lists are short, or no. -/
def LightPost (l : Letter) (w : World) : Ending → World → Prop := fun e w' => ∃ b, e = .returned (.bool b) ∧ (b = true → l.pairs.length ≤ 300 ∧ l.intents.length ≤ 300) ∧ Ext w w'

set_option maxHeartbeats 2000000 in
theorem light_calls {F : Nat → Prop} (l : Letter) {pv iv : Value} (w : World) (h : LetIn w F l pv iv) (hsz : ∀ s ∈ l.alls, s.size ≤ 1048576) : Calls Try.prog 7 #[letV l pv iv] w (LightPost l w) := by
  obtain ⟨A1, c1, rfl, hc1, hn1⟩ := h.pairs.form
  obtain ⟨A2, c2, rfl, hc2, hn2⟩ := h.intents.form
  obtain ⟨n1, hl1⟩ : ∃ n1, n1 = l.pairs.length := ⟨_, rfl⟩
  obtain ⟨n2, hl2⟩ : ∃ n2, n2 = l.intents.length := ⟨_, rfl⟩
  rw [← hl1] at hc1 hn1 h ⊢
  rw [← hl2] at hc2 hn2 h ⊢
  have hs1 := hsz l.s (by simp [Letter.alls, Letter.txts])
  have hs2 := hsz l.t (by simp [Letter.alls, Letter.txts])
  have hs3 := hsz l.body (by simp [Letter.alls, Letter.txts])
  have Hl1 := Lib.hid hl1
  have Hl2 := Lib.hid hl2
  clear hl1 hl2
  by_cases h1 : 300 < n1
  · go_enter Try.func7, Try.ntmps7
    go_wp2
    go_ret
    exact ⟨false, rfl, fun h => by simp at h, (Ext.refl w).alloc _⟩
  by_cases h2 : 300 < n2
  · go_enter Try.func7, Try.ntmps7
    go_wp2
    go_ret
    exact ⟨false, rfl, fun h => by simp at h, (Ext.refl w).alloc _⟩
  have b1 := mn_le (l.s.size : Int) 100000
  have b2 := mn_le (l.t.size : Int) 100000
  have b3 := mn_le (l.body.size : Int) 100000
  have a1 := mn_ge (x := (l.s.size : Int)) (y := 100000) (by omega) (by omega)
  have a2 := mn_ge (x := (l.t.size : Int)) (y := 100000) (by omega) (by omega)
  have a3 := mn_ge (x := (l.body.size : Int)) (y := 100000) (by omega) (by omega)
  go_enter Try.func7, Try.ntmps7
  go_wp2
  have hB : (w.alloc (.cells (letCs l (.slice A1 n1 c1) (.slice A2 n2 c2)) 34)).heap[w.heap.size]? = some (.cells (letCs l (.slice A1 n1 c1) (.slice A2 n2 c2)) 34 (0, 0)) := blk_new rfl
  have hE : Ext w (w.alloc (.cells (letCs l (.slice A1 n1 c1) (.slice A2 n2 c2)) 34)) := (Ext.refl w).alloc _
  go_loopw [3, 4] (fun s i wr => ∃ (k : Nat) (n : Int), k ≤ n1 ∧ i = .int .i64 k ∧ s = .int .i64 n ∧ 0 ≤ n ∧ n ≤ 400000 ∧ Ext w wr ∧ Hid (wr.heap[w.heap.size]? = some (.cells (letCs l (.slice A1 n1 c1) (.slice A2 n2 c2)) 34 (0, 0)))) (fun _ i _ => n1 - (intOf i).toNat)
  case atStart => exact ⟨0, _, by omega, rfl, rfl, by omega, by omega, hE, hB⟩
  case round =>
    clear hE hB b1 b2 b3 a1 a2 a3
    obtain ⟨k, n, hk, rfl, rfl, hn0, hn, hE, hB⟩ := hrel
    have hlet := h.ext hE
    have cP := (let_cells hB.out).2.2.2.2.2.2.2.2.2.1
    have cI := (let_cells hB.out).2.2.2.2.2.2.2.2.2.2.1
    by_cases hgo : k < n1 ∧ n ≤ 100000
    · obtain ⟨hlt, hm⟩ := hgo
      obtain ⟨b, o, x, rfl, hb, hx, d1, d2⟩ := hlet.pairs.atPair hlt
      have hmm := Letter.mem_pair hx
      have hm1 := hsz _ hmm.1
      have hm2 := hsz _ hmm.2
      clear hx hmm
      have b1 := mn_le (x.key.size : Int) 100001
      have b2 := mn_le (x.val.size : Int) 100001
      have a1 := mn_ge (x := (x.key.size : Int)) (y := 100001) (by omega) (by omega)
      have a2 := mn_ge (x := (x.val.size : Int)) (y := 100001) (by omega) (by omega)
      go_wp2
      go_quiet (fail)
      go_wp2
      go_roundw
      case rel => exact ⟨k + 1, _, by omega, by go_num, rfl, by omega, by omega, by first | exact hE | exact hE.drew | exact hE.drewN _, by first | exact hB | exact blk_ext hB.out (Ext.refl _).drew | exact blk_ext hB.out ((Ext.refl _).drewN _)⟩
      case measure => simp [intOf]; omega
    · have hdone : k < n1 → ¬ n ≤ 100000 := fun a b => hgo ⟨a, b⟩
      clear hgo
      by_cases hlt : k < n1
      all_goals
        first | have hbig := hdone hlt | skip
        go_wp2
        go_loopw [3, 5] (fun s i wr => ∃ (k : Nat) (n : Int), k ≤ n2 ∧ i = .int .i64 k ∧ s = .int .i64 n ∧ 0 ≤ n ∧ n ≤ 400000 ∧ Ext w wr ∧ Hid (wr.heap[w.heap.size]? = some (.cells (letCs l (.slice A1 n1 c1) (.slice A2 n2 c2)) 34 (0, 0)))) (fun _ i _ => n2 - (intOf i).toNat)
        case atStart => exact ⟨0, _, by omega, rfl, rfl, by omega, by omega, hE, hB⟩
        case round =>
          clear hE hB cP cI hdone hlet hn0 hn hk hlt
          obtain ⟨k, n, hk, rfl, rfl, hn0, hn, hE, hB⟩ := hrel
          have hlet := h.ext hE
          have cI := (let_cells hB.out).2.2.2.2.2.2.2.2.2.2.1
          by_cases hgo : k < n2 ∧ n ≤ 100000
          · obtain ⟨hlt, hm⟩ := hgo
            obtain ⟨b, o, x, rfl, hb, hx, d1, d2, d3⟩ := hlet.intents.atIntent hlt
            have hm1 := hsz _ (Letter.mem_intent hx)
            clear hx
            have b1 := mn_le (x.entry.size : Int) 100001
            have a1 := mn_ge (x := (x.entry.size : Int)) (y := 100001) (by omega) (by omega)
            go_wp2
            go_roundw
            case rel => exact ⟨k + 1, _, by omega, by go_num, rfl, by omega, by omega, hE, hB⟩
            case measure => simp [intOf]; omega
          · have hdone : k < n2 → ¬ n ≤ 100000 := fun a b => hgo ⟨a, b⟩
            clear hgo
            by_cases hlt : k < n2
            all_goals
              first | have hbig := hdone hlt | skip
              go_wp2
              go_ret
              exact ⟨_, rfl, fun _ => ⟨by rw [← Hl1.out]; omega, by rw [← Hl2.out]; omega⟩, hE⟩
end Go.Proofs.Ytmimncinnflfkaa
