/- Layer 14: the statement's walk. -/
import Derived.Test.YtmimncinnflfkaaPlay14
import Derived.Test.YtmimncinnflfkaaAwake14
import Derived.Deep.CutRange
import Derived.Deep.CutBlock
import Derived.Deep.LoopGhost
import Derived.StillTailTactics
set_option linter.all false
namespace Go.Proofs.Ytmimncinnflfkaa
open Go.RowKit
set_option maxRecDepth 100000

/-- Between two rounds. -/
def PX (w0 : World) (p mb q : Nat) (i : Nat) (w : World) : Prop := ∃ Fn v rs last, PS w0 w p mb q Fn v rs last i

theorem new_some (w : World) : Calls Try.prog 6 #[] w fun e w' => ∃ p mb, e = .returned (.pointer (some ⟨p, 0, none⟩)) ∧ NetM w' (fun _ => False) p mb [] 0 ∧ w.heap.size ≤ p ∧ w.heap.size ≤ mb ∧ Ext w w' :=
  (new_calls w).mono fun _ _ ⟨h1, h2, h3⟩ => ⟨_, _, h1, h2, by omega, Nat.le_refl _, h3⟩

set_option maxHeartbeats 40000000 in
theorem netPlays_calls {v : Value} {acts : List Act} (w : World) (h : Sl tAct w (fun _ => True) v acts) (hsz : ∀ a ∈ acts, (∀ s ∈ a.l.alls, s.size ≤ 1048576) ∧ (Lit.int .i64 a.n).wf = true) :
    Calls Try.prog 3 #[v] w (Ret w (.bool true)) := by
  have h := h.bnd.mono (F' := Old w) (fun k hk => hk.2)
  obtain ⟨A, c, rfl, hc, hn⟩ := h.form
  obtain ⟨n, hln⟩ : ∃ n, n = acts.length := ⟨_, rfl⟩
  rw [← hln] at hc hn h ⊢
  have Hln := Lib.hid hln
  clear hln
  go_enter Try.func3, Try.ntmps3
  go_wp2_with fail
  refine (awake14_calls w).mono ?_
  rintro e w1 ⟨rfl, hE1⟩
  by_cases hbig : 100 < n
  · go_wp2
    go_ret
    exact ⟨rfl, hE1⟩
  go_wp2_with fail
  refine (new_some w1).mono ?_
  rintro e w2 ⟨p, mb, rfl, hN, hp, hmb, hE2⟩
  have Hs := Lib.hid hsz
  clear hsz
  go_wp2_with fail
  have hE3 : Ext w (w2.alloc (.cells #[.slice none 0 0, .int .i64 0] 29)) := (hE1.trans hE2).alloc _
  have hPX : PX w p mb w2.heap.size 0 (w2.alloc (.cells #[.slice none 0 0, .int .i64 0] 29)) := by
    have hlt := hN.lt
    refine ⟨_, .slice none 0 0, [], 0, ⟨hN.ext ((Ext.refl w2).alloc _), ⟨blk_new rfl, Own.nil _ _ _ _ _, ?_⟩, hE3, ?_, ?_, hlt.1, hlt.2, fun k hk => hk.elim, fun k hk => hk.elim, Nat.le_refl _, Nat.le_refl _⟩⟩
    · intro (h : w2.heap.size < w.heap.size)
      have := hE1.sz; have := hE2.sz; omega
    · have := hE1.sz; omega
    · have := hE1.sz; omega
  have HP := Lib.hid hPX
  clear hPX hE3 hN hE1 hE2 hp hmb
  have HW := Lib.hid (show True from trivial)
  generalize w2.alloc (.cells #[.slice none 0 0, .int .i64 0] 29) = w3 at HP ⊢
  go_loopg [5] n (fun g i wr => ∃ k, k ≤ n ∧ g = n - k ∧ i = .int .i64 k ∧ PX w p mb w2.heap.size k wr)
  case atStart => exact ⟨0, by omega, by omega, rfl, HP.out⟩
  case round => as_aux_lemma =>
    clear HP
    obtain ⟨k, hk, rfl, rfl, Fn, v, rs, last, hP⟩ := hrel
    by_cases hlt : k < n
    · obtain ⟨b, o, x, pv, iv, rfl, hx, hL, hcs⟩ := (h.ext hP.ext).atAct hlt
      have hxm : x ∈ acts := List.mem_of_getElem? hx
      obtain ⟨hs1, hwf⟩ := Hs.out x hxm
      have Hwf := Lib.hid hwf
      obtain ⟨A1, c1, rfl, hc1, hn1⟩ := hL.pairs.form
      obtain ⟨A2, c2, rfl, hc2, hn2⟩ := hL.intents.form
      generalize hl1 : x.l.pairs.length = n1 at hL hc1 hn1 hcs
      generalize hl2 : x.l.intents.length = n2 at hL hc2 hn2 hcs
      have Hl1 := Lib.hid hl1
      have Hl2 := Lib.hid hl2
      have H := Lib.hid h
      have HP := Lib.hid hP
      have HL := Lib.hid hL
      have Hcs := Lib.hid hcs
      have Hs1 := Lib.hid hs1
      clear hl1 hl2 hcs hx hxm h hP hwf hL hs1
      go_upto_region 10 with (first
        | (refine ld_at rfl 36 (.tmp 40) rfl b (o + k * 16) rfl (actCs x (.slice A1 n1 c1) (.slice A2 n2 c2)) _ Hcs.out Try.underlying36 rfl info_act ?_)
        | (refine st_new rfl 36 (.tmp 6) (.tmp 41) rfl (actCs x (.slice A1 n1 c1) (.slice A2 n2 c2)) _ rfl rfl info_act rfl (act_one _ _ _ _ _ _ _) ?_))
      have hlt1 := HP.out.net.lt
      have hpB := hlt1.1
      have hmB := hlt1.2
      have HrB := Lib.hid (RS.lt HP.out)
      clear hlt1
      have hB : (wr.alloc (.cells (actCs x (.slice A1 n1 c1) (.slice A2 n2 c2)) 36)).heap[wr.heap.size]? = some (.cells (actCs x (.slice A1 n1 c1) (.slice A2 n2 c2)) 36 (0, 0)) := blk_new rfl
      have hPW := HP.out.go ((Ext.refl wr).alloc (.cells (actCs x (.slice A1 n1 c1) (.slice A2 n2 c2)) 36))
      have hLW := HL.out.ext ((Ext.refl wr).alloc (.cells (actCs x (.slice A1 n1 c1) (.slice A2 n2 c2)) 36))
      clear HP HL Hcs
      generalize (wr.alloc (.cells (actCs x (.slice A1 n1 c1) (.slice A2 n2 c2)) 36)) = W at hB hPW hLW ⊢
      have HB := Lib.hid hB
      have HP := Lib.hid hPW
      have HL := Lib.hid hLW
      clear hB hPW hLW
      go_wp2_with (first
        | (refine ld_at rfl 34 (.tmp 42) rfl wr.heap.size 1 rfl (letCs x.l (.slice A1 n1 c1) (.slice A2 n2 c2)) _ (let_rng HB.out) Try.underlying34 rfl info_letter ?_))
      refine (light_calls x.l W HL.out Hs1.out).mono ?_
      rintro e W2 ⟨bl, rfl, hbl, hE⟩
      cases bl
      · go_wp2
        go_ret
        exact ⟨rfl, HP.out.ext.trans hE⟩
      obtain ⟨hsm1, hsm2⟩ := hbl rfl
      have Hsm := Lib.hid (show x.l.small from ⟨hsm1, hsm2, Hs1.out⟩)
      have hB := blk_ext HB.out hE
      have hP := HP.out.go hE
      have hL := HL.out.ext hE
      clear HB HP HL hsm1 hsm2 hbl hE
      have HB := Lib.hid hB
      have HP := Lib.hid hP
      have HL := Lib.hid hL
      clear hB hP hL
      have kc : W2.cell? ⟨wr.heap.size, 0, none⟩ = some (.int .i64 x.kind) := blk_cell HB.out 0
      have kn : W2.cell? ⟨wr.heap.size, 15, none⟩ = some (.int .i64 x.n) := blk_cell HB.out 15
      go_upto_block 2 with (fail)
      go_cut [] from 32 to 194 (fun wx => PX w p mb w2.heap.size (k + 1) wx)
      case first =>
        by_cases h1 : x.kind = 1
        · go_wp2_with (refine ld_at rfl 34 (.tmp 52) rfl wr.heap.size 1 rfl (letCs x.l (.slice A1 n1 c1) (.slice A2 n2 c2)) _ (let_rng HB.out) Try.underlying34 rfl info_letter ?_)
          refine (send_calls W2 HP.out.net (by have := HP.out.l2; omega) (by have := HP.out.l1; have := HP.out.l2; omega) x.l HL.out Hsm.out ⟨fun h => by have : p < w.heap.size := h; have := HP.out.o1; omega, fun h => by have : mb < w.heap.size := h; have := HP.out.o2; omega⟩).mono ?_
          rintro e W4 (⟨he0, hA⟩ | ⟨he0, rfl, hE⟩)
          · obtain ⟨rfl, hAN, hAU⟩ := id hA
            have HA := Lib.hid hA
            have HB4 := Lib.hid (blk_upd HB.out hAU (fun e => by rcases e with e | e <;> omega))
            have HL4 := Lib.hid (HL.out.upd hAU (fun k _ hk e => by have : k < w.heap.size := hk; have := HP.out.o1; have := HP.out.o2; rcases e with rfl | rfl <;> omega))
            have HR4 := Lib.hid (HP.out.refU hAU)
            clear hA hAN hAU
            go_wp2_with (refine ld_at rfl 34 (.tmp 59) rfl wr.heap.size 1 rfl (letCs x.l (.slice A1 n1 c1) (.slice A2 n2 c2)) _ (let_rng HB4.out) Try.underlying34 rfl info_letter ?_)
            refine (rsend_calls W4 HR4.out HP.out.hq (by have := HP.out.l2; omega) (by rw [HP.out.rlen]; have := HP.out.l1; have := HP.out.l2; omega) x.l HL4.out Hsm.out).mono ?_
            rintro e W5 (⟨_, hR⟩ | ⟨hne, _⟩)
            case inr => exact absurd he0 hne
            obtain ⟨rfl, _⟩ := id hR
            have HR := Lib.hid hR
            clear hR
            go_wp2_with fail
            go_meet
            case rel => exact HP.out.add HA.out HR.out
          · obtain ⟨z, hz⟩ : ∃ z, z = x.l.err := ⟨_, rfl⟩
            rw [← hz]
            have Hz := Lib.hid hz
            clear hz
            have HB4 := Lib.hid (blk_ext HB.out hE)
            have HP4 := Lib.hid (HP.out.go hE)
            have HL4 := Lib.hid (HL.out.ext hE)
            go_wp2_with (refine ld_at rfl 34 (.tmp 59) rfl wr.heap.size 1 rfl (letCs x.l (.slice A1 n1 c1) (.slice A2 n2 c2)) _ (let_rng HB4.out) Try.underlying34 rfl info_letter ?_)
            refine (rsend_calls W4 HP4.out.ref HP4.out.hq (by have := HP.out.l2; omega) (by rw [HP.out.rlen]; have := HP.out.l1; have := HP.out.l2; omega) x.l HL4.out Hsm.out).mono ?_
            rintro e W5 (⟨hne, _⟩ | ⟨_, rfl, hE5⟩)
            case inl => exact absurd hne he0
            rw [← Hz.out]
            go_wp2_with fail
            go_meet
            case rel => exact ⟨_, _, _, _, (HP4.out.go hE5).mono (by omega)⟩
        by_cases h2 : x.kind = 2
        · go_wp2_with fail
          refine (deliver_calls W2 HP.out.net x.n Hwf.out).mono ?_
          rintro e W4 (⟨r, hr, hk, hT⟩ | ⟨hn, rfl, hE⟩)
          · obtain ⟨rfl, hTN, hTU⟩ := hT
            rw [hk] at hTN
            have hrow := (HP.out.net.rows r hr).2.2.upd hTU (fun k _ hF e => by rcases e with rfl | rfl; exact HP.out.net.nF hF; exact HP.out.net.nG hF)
            have HB4 := Lib.hid (blk_upd HB.out hTU (fun e => by rcases e with e | e <;> omega))
            have hB4 := blk_lt HB4.out
            have kn4 : W4.cell? ⟨wr.heap.size, 15, none⟩ = some (.int .i64 x.n) := blk_cell HB4.out 15
            have HTN := Lib.hid hTN
            have HTU := Lib.hid hTU
            have Hk := Lib.hid (show r ∈ rs ∧ r.n = x.n from ⟨hr, hk⟩)
            have HRf := Lib.hid (HP.out.refU hTU)
            have hsz4 := hTU.size
            have hszB := blk_lt HB.out
            clear hTN hTU hk hr kc kn
            obtain ⟨rn, rl, rpv, riv⟩ := r
            dsimp only at hrow Hk HTN ⊢
            obtain ⟨A3, c3, rfl, _, _⟩ := hrow.pairs.form
            obtain ⟨A4, c4, rfl, _, _⟩ := hrow.intents.form
            generalize rl.pairs.length = n3 at hrow ⊢
            generalize rl.intents.length = n4 at hrow ⊢
            have HX := Lib.hid hrow
            clear hrow
            go_wp2_with (refine st_new rfl 34 (.tmp 11) (.tmp 79) rfl (letCs rl (.slice A3 n3 c3) (.slice A4 n4 c4)) _ rfl rfl info_letter rfl (let_one _ _ _ _ _ _ _) ?_)
            refine (rdeliver_calls _ (HRf.out.ext ((Ext.refl W4).alloc _)) HP.out.hq (by rw [HP.out.rlen]; have := HP.out.l1; have := HP.out.l2; omega) x.n).mono ?_
            rintro e W5 (⟨j, y, p5, i5, hy, hyk, rfl, hL5, ⟨v5, hR5, hA5⟩, hU5⟩ | ⟨hno, _⟩)
            case inr => exact absurd Hk.out.2 (hno _ (List.mem_map.2 ⟨_, Hk.out.1, rfl⟩))
            have hyr := HP.out.find Hk.out.1 (List.mem_of_getElem? hy) (by rw [hyk]; exact Hk.out.2)
            subst hyr
            dsimp only [pr] at hL5 hyk hy ⊢
            obtain ⟨A5, c5, rfl, _, _⟩ := hL5.pairs.form
            obtain ⟨A6, c6, rfl, _, _⟩ := hL5.intents.form
            generalize rl.pairs.length = n5 at hL5 ⊢
            generalize rl.intents.length = n6 at hL5 ⊢
            have HXB := Lib.hid (blk_old (o' := .cells (letCs rl (.slice A5 n5 c5) (.slice A6 n6 c6)) 34) (blk_upd (blk_new (w := W4) (o := .cells (letCs rl (.slice A3 n3 c3) (.slice A4 n4 c4)) 34) rfl) hU5 (fun e => by have := HrB.out _ e; omega)))
            have HYB := Lib.hid (blk_new (w := W5) (o := .cells (letCs rl (.slice A5 n5 c5) (.slice A6 n6 c6)) 34) rfl)
            have HXL := Lib.hid (((HX.out.ext ((Ext.refl W4).alloc (.cells (letCs rl (.slice A3 n3 c3) (.slice A4 n4 c4)) 34))).upd hU5 (fun k _ hF => HP.out.ap k hF)).ext ((Ext.refl W5).alloc (.cells (letCs rl (.slice A5 n5 c5) (.slice A6 n6 c6)) 34)))
            have HYL := Lib.hid (hL5.ext ((Ext.refl W5).alloc (.cells (letCs rl (.slice A5 n5 c5) (.slice A6 n6 c6)) 34)))
            have HT := Lib.hid (HP.out.take HTN.out HTU.out hy hyk hR5 (hA5.later ((Ext.refl W4).alloc _)) ((Upd.of_ext ((Ext.refl W4).alloc _)).trans hU5 (fun _ _ h => h)))
            clear hy hyk hR5 hA5 hU5 hL5
            go_wp2_with (first
              | (refine st_new rfl 34 (.tmp 13) (.tmp 86) rfl (letCs rl (.slice A5 n5 c5) (.slice A6 n6 c6)) _ rfl rfl info_letter rfl (let_one _ _ _ _ _ _ _) ?_)
              | (refine ld_at rfl 34 (.tmp 11) rfl W4.heap.size 0 rfl (letCs rl (.slice A3 n3 c3) (.slice A4 n4 c4)) _ (rng0 HXB.out) Try.underlying34 rfl info_letter ?_)
              | (refine ld_at rfl 34 (.tmp 13) rfl W5.heap.size 0 rfl (letCs rl (.slice A5 n5 c5) (.slice A6 n6 c6)) _ (rng0 HYB.out) Try.underlying34 rfl info_letter ?_))
            refine (same_calls _ HXL.out HYL.out).mono ?_
            rintro e W6 ⟨rfl, hE6⟩
            go_wp2_with fail
            go_meet
            case rel => exact ⟨_, _, _, _, (HT.out.go (((Ext.refl W5).alloc _).trans hE6)).mono (by omega)⟩
          · have HB4 := Lib.hid (blk_ext HB.out hE)
            have hB4 := blk_lt HB4.out
            have kn4 : W4.cell? ⟨wr.heap.size, 15, none⟩ = some (.int .i64 x.n) := blk_cell HB4.out 15
            have HP4 := Lib.hid (HP.out.go hE)
            clear kc kn
            go_wp2_with (refine st_new rfl 34 (.tmp 11) (.tmp 79) rfl (letCs Letter.zero (.slice none 0 0) (.slice none 0 0)) _ rfl rfl info_letter rfl (let_one _ _ _ _ _ _ _) ?_)
            refine (rdeliver_calls _ (HP4.out.ref.ext ((Ext.refl W4).alloc _)) HP.out.hq (by rw [HP.out.rlen]; have := HP.out.l1; have := HP.out.l2; omega) x.n).mono ?_
            rintro e W5 (⟨j, y, p5, i5, hy, hyk, _⟩ | ⟨hno, rfl, hE5⟩)
            case inl =>
              obtain ⟨r, hr, rfl⟩ := List.mem_map.1 (List.mem_of_getElem? hy)
              exact absurd hyk (hn r hr)
            have HXB := Lib.hid (blk_old (o' := .cells (letCs Letter.zero (.slice none 0 0) (.slice none 0 0)) 34) (blk_ext (blk_new (w := W4) (o := .cells (letCs Letter.zero (.slice none 0 0) (.slice none 0 0)) 34) rfl) hE5))
            have HYB := Lib.hid (blk_new (w := W5) (o := .cells (letCs Letter.zero (.slice none 0 0) (.slice none 0 0)) 34) rfl)
            go_wp2_with (first
              | (refine st_new rfl 34 (.tmp 13) (.tmp 86) rfl (letCs Letter.zero (.slice none 0 0) (.slice none 0 0)) _ rfl rfl info_letter rfl (let_one _ _ _ _ _ _ _) ?_)
              | (refine ld_at rfl 34 (.tmp 11) rfl W4.heap.size 0 rfl (letCs Letter.zero (.slice none 0 0) (.slice none 0 0)) _ (rng0 HXB.out) Try.underlying34 rfl info_letter ?_)
              | (refine ld_at rfl 34 (.tmp 13) rfl W5.heap.size 0 rfl (letCs Letter.zero (.slice none 0 0) (.slice none 0 0)) _ (rng0 HYB.out) Try.underlying34 rfl info_letter ?_))
            refine (same_calls (l := Letter.zero) (F1 := fun _ => False) (F2 := fun _ => False) _ ⟨Sl.nil _ _ _, Sl.nil _ _ _⟩ ⟨Sl.nil _ _ _, Sl.nil _ _ _⟩).mono ?_
            rintro e W6 ⟨rfl, hE6⟩
            go_wp2_with fail
            go_meet
            case rel => exact ⟨_, _, _, _, (HP4.out.go ((((Ext.refl W4).alloc _).trans hE5).trans (((Ext.refl W5).alloc _).trans hE6))).mono (by omega)⟩
        by_cases h3 : x.kind = 3
        · go_wp2_with fail
          refine (rdeliver_calls W2 HP.out.ref HP.out.hq (by rw [HP.out.rlen]; have := HP.out.l1; have := HP.out.l2; omega) x.n).mono ?_
          rintro e W4 (⟨j, y, p5, i5, hy, hyk, rfl, hL5, ⟨v5, hR5, hA5⟩, hU5⟩ | ⟨hn, rfl, hE⟩)
          · have HB4 := Lib.hid (blk_upd HB.out hU5 (fun e => by have := HrB.out _ e; omega))
            have hB4 := blk_lt HB4.out
            have kn4 : W4.cell? ⟨wr.heap.size, 15, none⟩ = some (.int .i64 x.n) := blk_cell HB4.out 15
            obtain ⟨A5, c5, rfl, _, _⟩ := hL5.pairs.form
            obtain ⟨A6, c6, rfl, _, _⟩ := hL5.intents.form
            generalize y.2.pairs.length = n5 at hL5 ⊢
            generalize y.2.intents.length = n6 at hL5 ⊢
            have HN4 := Lib.hid (HP.out.netU hU5)
            have Hy := Lib.hid (show (rs.map pr)[j]? = some y ∧ y.1 = x.n from ⟨hy, hyk⟩)
            have HR5 := Lib.hid hR5
            have HA5 := Lib.hid hA5
            have HU5 := Lib.hid hU5
            clear hy hyk hR5 hA5 hU5 hL5 kc kn
            go_wp2_with (refine st_new rfl 34 (.tmp 15) (.tmp 104) rfl (letCs y.2 (.slice A5 n5 c5) (.slice A6 n6 c6)) _ rfl rfl info_letter rfl (let_one _ _ _ _ _ _ _) ?_)
            refine (drop_calls _ (HN4.out.ext ((Ext.refl W4).alloc _)) x.n Hwf.out).mono ?_
            rintro e W5 (⟨_, rfl, hN5, hU6⟩ | ⟨hno, _⟩)
            case inr =>
              obtain ⟨r, hr, hry⟩ := List.mem_map.1 (List.mem_of_getElem? Hy.out.1)
              exact absurd (by rw [← Hy.out.2, ← hry]; rfl) (hno r hr)
            have HT := Lib.hid (HP.out.drop Hy.out.1 Hy.out.2 HR5.out HA5.out HU5.out hN5 ((Upd.of_ext ((Ext.refl W4).alloc _)).trans hU6 (fun _ _ h => h)))
            clear hN5 hU6
            go_wp2_with fail
            go_meet
            case rel => exact ⟨_, _, _, _, HT.out.mono (by omega)⟩
          · have HB4 := Lib.hid (blk_ext HB.out hE)
            have hB4 := blk_lt HB4.out
            have kn4 : W4.cell? ⟨wr.heap.size, 15, none⟩ = some (.int .i64 x.n) := blk_cell HB4.out 15
            have HP4 := Lib.hid (HP.out.go hE)
            clear kc kn
            go_wp2_with (refine st_new rfl 34 (.tmp 15) (.tmp 104) rfl (letCs Letter.zero (.slice none 0 0) (.slice none 0 0)) _ rfl rfl info_letter rfl (let_one _ _ _ _ _ _ _) ?_)
            refine (drop_calls _ (HP4.out.net.ext ((Ext.refl W4).alloc _)) x.n Hwf.out).mono ?_
            rintro e W5 (⟨⟨r, hr, hrn⟩, _⟩ | ⟨_, rfl, hE5⟩)
            case inl => exact absurd hrn (hn _ (List.mem_map.2 ⟨r, hr, rfl⟩))
            go_wp2_with fail
            go_meet
            case rel => exact ⟨_, _, _, _, (HP4.out.go (((Ext.refl W4).alloc _).trans hE5)).mono (by omega)⟩
        by_cases h4 : x.kind = 4
        · go_wp2_with fail
          refine (twice_calls W2 HP.out.net (by have := HP.out.l2; omega) (by have := HP.out.l1; have := HP.out.l2; omega) x.n Hwf.out).mono ?_
          rintro e W4 (⟨r, hr, hk, hA⟩ | ⟨hn, rfl, hE⟩)
          · obtain ⟨rfl, hAN, hAU⟩ := id hA
            have HA := Lib.hid hA
            have HB4 := Lib.hid (blk_upd HB.out hAU (fun e => by rcases e with e | e <;> omega))
            have hB4 := blk_lt HB4.out
            have kn4 : W4.cell? ⟨wr.heap.size, 15, none⟩ = some (.int .i64 x.n) := blk_cell HB4.out 15
            have HR4 := Lib.hid (HP.out.refU hAU)
            have Hk := Lib.hid (show r ∈ rs ∧ r.n = x.n from ⟨hr, hk⟩)
            clear hA hAN hAU hr hk kc kn
            go_wp2_with fail
            refine (rtwice_calls W4 HR4.out HP.out.hq (by have := HP.out.l2; omega) (by rw [HP.out.rlen]; have := HP.out.l1; have := HP.out.l2; omega) x.n).mono ?_
            rintro e W5 (⟨y, hy, hyk, hR⟩ | ⟨hno, _⟩)
            case inr => exact absurd Hk.out.2 (hno _ (List.mem_map.2 ⟨_, Hk.out.1, rfl⟩))
            have hyr := HP.out.find Hk.out.1 hy (by rw [hyk]; exact Hk.out.2)
            subst hyr
            obtain ⟨rfl, _⟩ := id hR
            have HR := Lib.hid hR
            clear hR hy hyk
            go_wp2_with fail
            go_meet
            case rel => exact HP.out.add HA.out HR.out
          · have HB4 := Lib.hid (blk_ext HB.out hE)
            have hB4 := blk_lt HB4.out
            have kn4 : W4.cell? ⟨wr.heap.size, 15, none⟩ = some (.int .i64 x.n) := blk_cell HB4.out 15
            have HP4 := Lib.hid (HP.out.go hE)
            clear kc kn
            go_wp2_with fail
            refine (rtwice_calls W4 HP4.out.ref HP.out.hq (by have := HP.out.l2; omega) (by rw [HP.out.rlen]; have := HP.out.l1; have := HP.out.l2; omega) x.n).mono ?_
            rintro e W5 (⟨y, hy, hyk, _⟩ | ⟨_, rfl, hE5⟩)
            case inl =>
              obtain ⟨r, hr, rfl⟩ := List.mem_map.1 hy
              exact absurd hyk (hn r hr)
            go_wp2_with fail
            go_meet
            case rel => exact ⟨_, _, _, _, (HP4.out.go hE5).mono (by omega)⟩
        by_cases h5 : x.kind = 5
        · go_wp2_with fail
          refine (look_calls W2 HP.out.net x.n Hwf.out).mono ?_
          rintro e W4 ⟨lx, bl, pv, iv, hcase, rfl, hLx, hE⟩
          have HB4 := Lib.hid (blk_ext HB.out hE)
          have hB4 := blk_lt HB4.out
          have kn4 : W4.cell? ⟨wr.heap.size, 15, none⟩ = some (.int .i64 x.n) := blk_cell HB4.out 15
          have HP4 := Lib.hid (HP.out.go hE)
          have Hcase := Lib.hid hcase
          clear kc kn hcase
          obtain ⟨A3, c3, rfl, _, _⟩ := hLx.pairs.form
          obtain ⟨A4, c4, rfl, _, _⟩ := hLx.intents.form
          generalize lx.pairs.length = n3 at hLx ⊢
          generalize lx.intents.length = n4 at hLx ⊢
          have HLx := Lib.hid hLx
          clear hLx
          go_wp2_with (refine st_new rfl 34 (.tmp 21) (.tmp 143) rfl (letCs lx (.slice A3 n3 c3) (.slice A4 n4 c4)) _ rfl rfl info_letter rfl (let_one _ _ _ _ _ _ _) ?_)
          have hEW : Ext W4 (W4.alloc (.cells (letCs lx (.slice A3 n3 c3) (.slice A4 n4 c4)) 34)) := (Ext.refl W4).alloc _
          have hXB : (W4.alloc (.cells (letCs lx (.slice A3 n3 c3) (.slice A4 n4 c4)) 34)).heap[W4.heap.size]? = some (.cells (letCs lx (.slice A3 n3 c3) (.slice A4 n4 c4)) 34 (0, 0)) := blk_new rfl
          generalize W4.alloc (.cells (letCs lx (.slice A3 n3 c3) (.slice A4 n4 c4)) 34) = W5 at hEW hXB ⊢
          have HPW := Lib.hid (HP4.out.go hEW)
          have HLW := Lib.hid (HLx.out.ext hEW)
          refine (at_calls W5 HPW.out.ref x.n).mono ?_
          rintro e W6 ⟨rfl, ⟨j, y, rfl, hy, hyk⟩ | ⟨rfl, hno⟩⟩
          · obtain ⟨b2, p5, i5, n5, c5, rfl, hn5, hL5, hc5⟩ := HPW.out.ref.sl j y hy
            have hj5 : j < n5 := by rw [hn5]; exact (List.getElem?_eq_some_iff.1 hy).1
            have hln : n5 ≤ 100 := by rw [hn5, HP.out.rlen]; have := HP.out.l1; have := HP.out.l2; omega
            have hbt : bl = true ∧ y.2 = lx := by
              rcases Hcase.out with ⟨h1, r, hr, hrn, hrl⟩ | ⟨_, hno, _⟩
              · have := HP.out.find hr (List.mem_of_getElem? hy) (by rw [hyk]; exact hrn)
                exact ⟨h1, by rw [this]; exact hrl⟩
              · obtain ⟨r, hr, rfl⟩ := List.mem_map.1 (List.mem_of_getElem? hy)
                exact absurd hyk (hno r hr)
            obtain ⟨rfl, hyl⟩ := hbt
            rw [hyl] at hL5 hc5
            obtain ⟨A5, c6, rfl, _, _⟩ := hL5.pairs.form
            obtain ⟨A6, c7, rfl, _, _⟩ := hL5.intents.form
            generalize lx.pairs.length = n6 at hL5 hc5
            generalize lx.intents.length = n7 at hL5 hc5
            have r1 : W6.rangeAt W4.heap.size 0 (letCs lx (.slice A3 n3 c3) (.slice A4 n4 c4)).toList := rng0 hXB
            have r2 : W6.rangeAt b2 (j * 15 + 1) (letCs lx (.slice A5 n6 c6) (.slice A6 n7 c7)).toList := fun i u hu => by have := hc5 (i + 1) u hu; rwa [show j * 15 + (i + 1) = j * 15 + 1 + i from by omega] at this
            have r3 : W6.cell? ⟨w2.heap.size, 0, none⟩ = some (.slice (some ⟨b2, 0, none⟩) n5 c5) := HPW.out.ref.cells.1
            have HL5 := Lib.hid hL5
            have Hn5 := Lib.hid hn5
            clear hL5 hc5 hyl hy hyk hn5 hXB hEW
            go_upto_region 35 with (fail)
            have hS0 := Lib.hid (keepR (Ext.refl W6).drew ⟨r1, r2, r3⟩)
            clear r1 r2 r3
            refine wp_region_held_drew (S := fun w' => w'.rangeAt W4.heap.size 0 (letCs lx (.slice A3 n3 c3) (.slice A4 n4 c4)).toList ∧ w'.rangeAt b2 (j * 15 + 1) (letCs lx (.slice A5 n6 c6) (.slice A6 n7 c7)).toList ∧ w'.cell? ⟨w2.heap.size, 0, none⟩ = some (.slice (some ⟨b2, 0, none⟩) n5 c5)) (by kernel_rfl) (hS0.out) (fun hHeld => ?_)
            refine wpAnyH_take (i := 0) (oi := ⟨_, _, _, _, _, _⟩) (v := .bool true) rfl (by kernel_rfl) (by kernel_rfl) (by kernel_rfl) (fun _ _ _ h => h) (Or.inl ⟨by rfl, fun _ _ => rfl⟩) hHeld ?_
            try simp only [Act.put, List.setIfInBounds_toArray, List.set_cons_zero, List.set_cons_succ]
            refine wpAnyH_take (i := 1) (oi := ⟨_, _, _, _, _, _⟩) (v := .int .i64 j) rfl (by kernel_rfl) (by kernel_rfl) (by kernel_rfl) (fun _ _ _ h => h) (Or.inl ⟨by rfl, fun _ _ => rfl⟩) hHeld ?_
            try simp only [Act.put, List.setIfInBounds_toArray, List.set_cons_zero, List.set_cons_succ]
            refine wpAnyH_take (i := 2) (oi := ⟨_, _, _, _, _, _⟩) (v := .bool true) rfl (by kernel_rfl) (by kernel_rfl) (by kernel_rfl) (fun _ _ _ h => h) (Or.inl ⟨by rfl, fun w _ => by first | (go_simp; done) | rfl | (go_simp; rfl)⟩) hHeld ?_
            try simp only [Act.put, List.setIfInBounds_toArray, List.set_cons_zero, List.set_cons_succ]
            refine wpAnyH_take (i := 3) (oi := ⟨_, _, _, _, _, _⟩) (v := .bool false) rfl (by kernel_rfl) (by kernel_rfl) (by kernel_rfl) (fun _ _ _ h => h) (Or.inl ⟨by rfl, fun w _ => by first | (go_simp; done) | rfl | (go_simp; rfl)⟩) hHeld ?_
            try simp only [Act.put, List.setIfInBounds_toArray, List.set_cons_zero, List.set_cons_succ]
            refine wpAnyH_take (i := 4) (oi := ⟨_, _, _, _, _, _⟩) (v := .bool false) rfl (by kernel_rfl) (by kernel_rfl) (by kernel_rfl) (fun _ _ _ h => h) (Or.inl ⟨by rfl, fun _ _ => rfl⟩) hHeld ?_
            try simp only [Act.put, List.setIfInBounds_toArray, List.set_cons_zero, List.set_cons_succ]
            refine wpAnyH_take (i := 5) (oi := ⟨_, _, _, _, _, _⟩) (v := .bool true) rfl (by kernel_rfl) (by kernel_rfl) (by kernel_rfl) (fun _ _ _ h => h) (Or.inl ⟨by rfl, fun _ _ => rfl⟩) hHeld ?_
            try simp only [Act.put, List.setIfInBounds_toArray, List.set_cons_zero, List.set_cons_succ]
            refine wpAnyH_take (i := 6) (oi := ⟨_, _, _, _, _, _⟩) (v := .bool true) rfl (by kernel_rfl) (by kernel_rfl) (by kernel_rfl) (fun _ _ _ h => h) (Or.inl ⟨by rfl, fun _ _ => rfl⟩) hHeld ?_
            try simp only [Act.put, List.setIfInBounds_toArray, List.set_cons_zero, List.set_cons_succ]
            refine wpAnyH_take (i := 7) (oi := ⟨_, _, _, _, _, _⟩) (v := _) rfl (by kernel_rfl) (by kernel_rfl) (by kernel_rfl) (fun _ _ _ h => h) (yieldsIf_load_mid (by rfl) 34 (.tmp 21) rfl W4.heap.size 0 rfl (letCs lx (.slice A3 n3 c3) (.slice A4 n4 c4)).toList _ (fun w h => h.1) Try.underlying34 rfl info_letter) hHeld ?_
            try simp only [Act.put, List.setIfInBounds_toArray, List.set_cons_zero, List.set_cons_succ]
            refine wpAnyH_take (i := 8) (oi := ⟨_, _, _, _, _, _⟩) (v := .pointer (some ⟨w2.heap.size, 0, none⟩)) rfl (by kernel_rfl) (by kernel_rfl) (by kernel_rfl) (fun _ _ _ h => h) (Or.inl ⟨by rfl, fun _ _ => rfl⟩) hHeld ?_
            try simp only [Act.put, List.setIfInBounds_toArray, List.set_cons_zero, List.set_cons_succ]
            refine wpAnyH_take (i := 9) (oi := ⟨_, _, _, _, _, _⟩) (v := .pointer (some ⟨w2.heap.size, 0, none⟩)) rfl (by kernel_rfl) (by kernel_rfl) (by kernel_rfl) (fun _ _ _ h => h) (Or.inl ⟨by rfl, fun w _ => by first | (go_simp; done) | rfl | (go_simp; rfl)⟩) hHeld ?_
            try simp only [Act.put, List.setIfInBounds_toArray, List.set_cons_zero, List.set_cons_succ]
            refine wpAnyH_take (i := 10) (oi := ⟨_, _, _, _, _, _⟩) (v := .pointer (some ⟨w2.heap.size, 0, none⟩)) rfl (by kernel_rfl) (by kernel_rfl) (by kernel_rfl) (fun _ _ _ h => h) (Or.inl ⟨by rfl, fun w _ => by first | (go_simp; done) | rfl | (go_simp; rfl)⟩) hHeld ?_
            try simp only [Act.put, List.setIfInBounds_toArray, List.set_cons_zero, List.set_cons_succ]
            refine wpAnyH_take (i := 11) (oi := ⟨_, _, _, _, _, _⟩) (v := .slice (some ⟨b2, 0, none⟩) n5 c5) rfl (by kernel_rfl) (by kernel_rfl) (by kernel_rfl) (fun _ _ _ h => h) (Or.inl ⟨by rfl, fun w hw => by have := hw.2.2; first | (go_simp; done) | (go_simp; rfl)⟩) hHeld ?_
            try simp only [Act.put, List.setIfInBounds_toArray, List.set_cons_zero, List.set_cons_succ]
            refine wpAnyH_take (i := 12) (oi := ⟨_, _, _, _, _, _⟩) (v := .int .i64 j) rfl (by kernel_rfl) (by kernel_rfl) (by kernel_rfl) (fun _ _ _ h => h) (Or.inl ⟨by rfl, fun _ _ => rfl⟩) hHeld ?_
            try simp only [Act.put, List.setIfInBounds_toArray, List.set_cons_zero, List.set_cons_succ]
            refine wpAnyH_take (i := 13) (oi := ⟨_, _, _, _, _, _⟩) (v := .pointer (some ⟨b2, j * 15, none⟩)) rfl (by kernel_rfl) (by kernel_rfl) (by kernel_rfl) (fun _ _ _ h => h) (Or.inl ⟨by rfl, fun w _ => by first | (go_simp; done) | rfl | (go_simp; rfl)⟩) hHeld ?_
            try simp only [Act.put, List.setIfInBounds_toArray, List.set_cons_zero, List.set_cons_succ]
            refine wpAnyH_take (i := 14) (oi := ⟨_, _, _, _, _, _⟩) (v := .pointer (some ⟨b2, j * 15 + 1, none⟩)) rfl (by kernel_rfl) (by kernel_rfl) (by kernel_rfl) (fun _ _ _ h => h) (Or.inl ⟨by rfl, fun w _ => by first | (go_simp; done) | rfl | (go_simp; rfl)⟩) hHeld ?_
            try simp only [Act.put, List.setIfInBounds_toArray, List.set_cons_zero, List.set_cons_succ]
            refine wpAnyH_take (i := 15) (oi := ⟨_, _, _, _, _, _⟩) (v := _) rfl (by kernel_rfl) (by kernel_rfl) (by kernel_rfl) (fun _ _ _ h => h) (yieldsIf_load_mid (by rfl) 34 (.tmp 163) rfl b2 (j * 15 + 1) rfl (letCs lx (.slice A5 n6 c6) (.slice A6 n7 c7)).toList _ (fun w h => h.2.1) Try.underlying34 rfl info_letter) hHeld ?_
            try simp only [Act.put, List.setIfInBounds_toArray, List.set_cons_zero, List.set_cons_succ]
            refine wpAnyH_ready (rs := [16]) (by kernel_rfl) (by simp) ?_
            refine AllReadyH.cons (o := ⟨_, _, _, _, _, _⟩) rfl (fun K hK => ?_) AllReadyH.nil
            go_simp
            refine (same_calls _ (HLW.out.ext (Ext.refl _).drew) (HL5.out.ext (Ext.refl _).drew)).mono ?_
            rintro e wa ⟨rfl, hea⟩
            go_wp2_with fail
            refine hK.out _ _ (keepR hea hHeld) (fun hHeld => ?_)
            clear hK K
            try simp only [Act.put, List.setIfInBounds_toArray, List.set_cons_zero, List.set_cons_succ]
            refine wpAnyH_take (i := 17) (oi := ⟨_, _, _, _, _, _⟩) (v := .bool false) rfl (by kernel_rfl) (by kernel_rfl) (by kernel_rfl) (fun _ _ _ h => h) (Or.inl ⟨by rfl, fun w _ => by first | (go_simp; done) | rfl | (go_simp; rfl)⟩) hHeld ?_
            try simp only [Act.put, List.setIfInBounds_toArray, List.set_cons_zero, List.set_cons_succ]
            refine wpAnyH_take (i := 18) (oi := ⟨_, _, _, _, _, _⟩) (v := .bool false) rfl (by kernel_rfl) (by kernel_rfl) (by kernel_rfl) (fun _ _ _ h => h) (Or.inl ⟨by rfl, fun _ _ => rfl⟩) hHeld ?_
            try simp only [Act.put, List.setIfInBounds_toArray, List.set_cons_zero, List.set_cons_succ]
            refine wpAnyH_take (i := 19) (oi := ⟨_, _, _, _, _, _⟩) (v := .bool false) rfl (by kernel_rfl) (by kernel_rfl) (by kernel_rfl) (fun _ _ _ h => h) (Or.inl ⟨by rfl, fun _ _ => rfl⟩) hHeld ?_
            try simp only [Act.put, List.setIfInBounds_toArray, List.set_cons_zero, List.set_cons_succ]
            refine wpAnyH_take (i := 20) (oi := ⟨_, _, _, _, _, _⟩) (v := .bool false) rfl (by kernel_rfl) (by kernel_rfl) (by kernel_rfl) (fun _ _ _ h => h) (Or.inl ⟨by rfl, fun _ _ => rfl⟩) hHeld ?_
            try simp only [Act.put, List.setIfInBounds_toArray, List.set_cons_zero, List.set_cons_succ]
            refine wpAnyH_take (i := 21) (oi := ⟨_, _, _, _, _, _⟩) (v := .bool true) rfl (by kernel_rfl) (by kernel_rfl) (by kernel_rfl) (fun _ _ _ h => h) (Or.inl ⟨by rfl, fun _ _ => rfl⟩) hHeld ?_
            try simp only [Act.put, List.setIfInBounds_toArray, List.set_cons_zero, List.set_cons_succ]
            refine wpAnyH_take (i := 22) (oi := ⟨_, _, _, _, _, _⟩) (v := .bool false) rfl (by kernel_rfl) (by kernel_rfl) (by kernel_rfl) (fun _ _ _ h => h) (Or.inl ⟨by rfl, fun w _ => by first | (go_simp; done) | rfl | (go_simp; rfl)⟩) hHeld ?_
            try simp only [Act.put, List.setIfInBounds_toArray, List.set_cons_zero, List.set_cons_succ]
            refine wpAnyH_take (i := 23) (oi := ⟨_, _, _, _, _, _⟩) (v := .bool false) rfl (by kernel_rfl) (by kernel_rfl) (by kernel_rfl) (fun _ _ _ h => h) (Or.inl ⟨by rfl, fun _ _ => rfl⟩) hHeld ?_
            try simp only [Act.put, List.setIfInBounds_toArray, List.set_cons_zero, List.set_cons_succ]
            refine wpAnyH_take (i := 24) (oi := ⟨_, _, _, _, _, _⟩) (v := undef) rfl (by kernel_rfl) (by kernel_rfl) (by kernel_rfl) (fun _ _ _ h => h) (Or.inr ⟨by rfl, rfl⟩) hHeld ?_
            try simp only [Act.put, List.setIfInBounds_toArray, List.set_cons_zero, List.set_cons_succ]
            refine wpAnyH_take (i := 25) (oi := ⟨_, _, _, _, _, _⟩) (v := undef) rfl (by kernel_rfl) (by kernel_rfl) (by kernel_rfl) (fun _ _ _ h => h) (Or.inr ⟨by rfl, rfl⟩) hHeld ?_
            try simp only [Act.put, List.setIfInBounds_toArray, List.set_cons_zero, List.set_cons_succ]
            refine wpAnyH_take (i := 26) (oi := ⟨_, _, _, _, _, _⟩) (v := undef) rfl (by kernel_rfl) (by kernel_rfl) (by kernel_rfl) (fun _ _ _ h => h) (Or.inr ⟨by rfl, rfl⟩) hHeld ?_
            try simp only [Act.put, List.setIfInBounds_toArray, List.set_cons_zero, List.set_cons_succ]
            refine wpAnyH_take (i := 27) (oi := ⟨_, _, _, _, _, _⟩) (v := undef) rfl (by kernel_rfl) (by kernel_rfl) (by kernel_rfl) (fun _ _ _ h => h) (Or.inr ⟨by rfl, rfl⟩) hHeld ?_
            try simp only [Act.put, List.setIfInBounds_toArray, List.set_cons_zero, List.set_cons_succ]
            refine wpAnyH_take (i := 28) (oi := ⟨_, _, _, _, _, _⟩) (v := .bool false) rfl (by kernel_rfl) (by kernel_rfl) (by kernel_rfl) (fun _ _ _ h => h) (Or.inl ⟨by rfl, fun _ _ => rfl⟩) hHeld ?_
            try simp only [Act.put, List.setIfInBounds_toArray, List.set_cons_zero, List.set_cons_succ]
            refine wpAnyH_take (i := 29) (oi := ⟨_, _, _, _, _, _⟩) (v := .bool false) rfl (by kernel_rfl) (by kernel_rfl) (by kernel_rfl) (fun _ _ _ h => h) (Or.inl ⟨by rfl, fun _ _ => rfl⟩) hHeld ?_
            try simp only [Act.put, List.setIfInBounds_toArray, List.set_cons_zero, List.set_cons_succ]
            refine wpAnyH_done (by kernel_rfl) ?_ _
            have hT : PX w p mb w2.heap.size (k + 1) wa := ⟨_, _, _, _, (HPW.out.go ((Ext.refl _).drew.trans hea)).mono (by omega)⟩
            clear hea hHeld
            go_wp2_with fail
            go_meet
            case rel => exact hT
          · have hbt : bl = false ∧ lx = Letter.zero := by
              rcases Hcase.out with ⟨_, r, hr, hrn, _⟩ | ⟨h1, _, h2⟩
              · exact absurd hrn (hno _ (List.mem_map.2 ⟨r, hr, rfl⟩))
              · exact ⟨h1, h2⟩
            obtain ⟨rfl, rfl⟩ := hbt
            have r1 := rng0 hXB
            clear hno hXB hEW
            go_upto_region 35 with (fail)
            refine wp_region_held_drew (S := fun w' => w'.rangeAt W4.heap.size 0 (letCs Letter.zero (.slice A3 n3 c3) (.slice A4 n4 c4)).toList) (by kernel_rfl) (rng_ext r1 (Ext.refl _).drew) (fun hHeld => ?_)
            refine wpAnyH_take (i := 0) (oi := ⟨_, _, _, _, _, _⟩) (v := .bool false) rfl (by kernel_rfl) (by kernel_rfl) (by kernel_rfl) (fun _ _ _ h => h) (Or.inl ⟨by rfl, fun w _ => by first | rfl | go_simp⟩) hHeld ?_
            try simp only [Act.put, List.setIfInBounds_toArray, List.set_cons_zero, List.set_cons_succ]
            refine wpAnyH_take (i := 1) (oi := ⟨_, _, _, _, _, _⟩) (v := .int .i64 (-1)) rfl (by kernel_rfl) (by kernel_rfl) (by kernel_rfl) (fun _ _ _ h => h) (Or.inl ⟨by rfl, fun w _ => by first | rfl | go_simp⟩) hHeld ?_
            try simp only [Act.put, List.setIfInBounds_toArray, List.set_cons_zero, List.set_cons_succ]
            refine wpAnyH_take (i := 2) (oi := ⟨_, _, _, _, _, _⟩) (v := .bool false) rfl (by kernel_rfl) (by kernel_rfl) (by kernel_rfl) (fun _ _ _ h => h) (Or.inl ⟨by rfl, fun w _ => by first | rfl | go_simp⟩) hHeld ?_
            try simp only [Act.put, List.setIfInBounds_toArray, List.set_cons_zero, List.set_cons_succ]
            refine wpAnyH_take (i := 3) (oi := ⟨_, _, _, _, _, _⟩) (v := .bool false) rfl (by kernel_rfl) (by kernel_rfl) (by kernel_rfl) (fun _ _ _ h => h) (Or.inl ⟨by rfl, fun w _ => by first | rfl | go_simp⟩) hHeld ?_
            try simp only [Act.put, List.setIfInBounds_toArray, List.set_cons_zero, List.set_cons_succ]
            refine wpAnyH_take (i := 4) (oi := ⟨_, _, _, _, _, _⟩) (v := .bool false) rfl (by kernel_rfl) (by kernel_rfl) (by kernel_rfl) (fun _ _ _ h => h) (Or.inl ⟨by rfl, fun w _ => by first | rfl | go_simp⟩) hHeld ?_
            try simp only [Act.put, List.setIfInBounds_toArray, List.set_cons_zero, List.set_cons_succ]
            refine wpAnyH_take (i := 5) (oi := ⟨_, _, _, _, _, _⟩) (v := .bool false) rfl (by kernel_rfl) (by kernel_rfl) (by kernel_rfl) (fun _ _ _ h => h) (Or.inl ⟨by rfl, fun w _ => by first | rfl | go_simp⟩) hHeld ?_
            try simp only [Act.put, List.setIfInBounds_toArray, List.set_cons_zero, List.set_cons_succ]
            refine wpAnyH_take (i := 6) (oi := ⟨_, _, _, _, _, _⟩) (v := .bool false) rfl (by kernel_rfl) (by kernel_rfl) (by kernel_rfl) (fun _ _ _ h => h) (Or.inl ⟨by rfl, fun w _ => by first | rfl | go_simp⟩) hHeld ?_
            try simp only [Act.put, List.setIfInBounds_toArray, List.set_cons_zero, List.set_cons_succ]
            refine wpAnyH_take (i := 7) (oi := ⟨_, _, _, _, _, _⟩) (v := undef) rfl (by kernel_rfl) (by kernel_rfl) (by kernel_rfl) (fun _ _ _ h => h) (Or.inr ⟨by rfl, rfl⟩) hHeld ?_
            try simp only [Act.put, List.setIfInBounds_toArray, List.set_cons_zero, List.set_cons_succ]
            refine wpAnyH_take (i := 8) (oi := ⟨_, _, _, _, _, _⟩) (v := undef) rfl (by kernel_rfl) (by kernel_rfl) (by kernel_rfl) (fun _ _ _ h => h) (Or.inr ⟨by rfl, rfl⟩) hHeld ?_
            try simp only [Act.put, List.setIfInBounds_toArray, List.set_cons_zero, List.set_cons_succ]
            refine wpAnyH_take (i := 9) (oi := ⟨_, _, _, _, _, _⟩) (v := undef) rfl (by kernel_rfl) (by kernel_rfl) (by kernel_rfl) (fun _ _ _ h => h) (Or.inr ⟨by rfl, rfl⟩) hHeld ?_
            try simp only [Act.put, List.setIfInBounds_toArray, List.set_cons_zero, List.set_cons_succ]
            refine wpAnyH_take (i := 10) (oi := ⟨_, _, _, _, _, _⟩) (v := undef) rfl (by kernel_rfl) (by kernel_rfl) (by kernel_rfl) (fun _ _ _ h => h) (Or.inr ⟨by rfl, rfl⟩) hHeld ?_
            try simp only [Act.put, List.setIfInBounds_toArray, List.set_cons_zero, List.set_cons_succ]
            refine wpAnyH_take (i := 11) (oi := ⟨_, _, _, _, _, _⟩) (v := undef) rfl (by kernel_rfl) (by kernel_rfl) (by kernel_rfl) (fun _ _ _ h => h) (Or.inr ⟨by rfl, rfl⟩) hHeld ?_
            try simp only [Act.put, List.setIfInBounds_toArray, List.set_cons_zero, List.set_cons_succ]
            refine wpAnyH_take (i := 12) (oi := ⟨_, _, _, _, _, _⟩) (v := undef) rfl (by kernel_rfl) (by kernel_rfl) (by kernel_rfl) (fun _ _ _ h => h) (Or.inr ⟨by rfl, rfl⟩) hHeld ?_
            try simp only [Act.put, List.setIfInBounds_toArray, List.set_cons_zero, List.set_cons_succ]
            refine wpAnyH_take (i := 13) (oi := ⟨_, _, _, _, _, _⟩) (v := undef) rfl (by kernel_rfl) (by kernel_rfl) (by kernel_rfl) (fun _ _ _ h => h) (Or.inr ⟨by rfl, rfl⟩) hHeld ?_
            try simp only [Act.put, List.setIfInBounds_toArray, List.set_cons_zero, List.set_cons_succ]
            refine wpAnyH_take (i := 14) (oi := ⟨_, _, _, _, _, _⟩) (v := undef) rfl (by kernel_rfl) (by kernel_rfl) (by kernel_rfl) (fun _ _ _ h => h) (Or.inr ⟨by rfl, rfl⟩) hHeld ?_
            try simp only [Act.put, List.setIfInBounds_toArray, List.set_cons_zero, List.set_cons_succ]
            refine wpAnyH_take (i := 15) (oi := ⟨_, _, _, _, _, _⟩) (v := undef) rfl (by kernel_rfl) (by kernel_rfl) (by kernel_rfl) (fun _ _ _ h => h) (Or.inr ⟨by rfl, rfl⟩) hHeld ?_
            try simp only [Act.put, List.setIfInBounds_toArray, List.set_cons_zero, List.set_cons_succ]
            refine wpAnyH_take (i := 16) (oi := ⟨_, _, _, _, _, _⟩) (v := undef) rfl (by kernel_rfl) (by kernel_rfl) (by kernel_rfl) (fun _ _ _ h => h) (Or.inr ⟨by rfl, rfl⟩) hHeld ?_
            try simp only [Act.put, List.setIfInBounds_toArray, List.set_cons_zero, List.set_cons_succ]
            refine wpAnyH_take (i := 17) (oi := ⟨_, _, _, _, _, _⟩) (v := undef) rfl (by kernel_rfl) (by kernel_rfl) (by kernel_rfl) (fun _ _ _ h => h) (Or.inr ⟨by rfl, rfl⟩) hHeld ?_
            try simp only [Act.put, List.setIfInBounds_toArray, List.set_cons_zero, List.set_cons_succ]
            refine wpAnyH_take (i := 18) (oi := ⟨_, _, _, _, _, _⟩) (v := .bool false) rfl (by kernel_rfl) (by kernel_rfl) (by kernel_rfl) (fun _ _ _ h => h) (Or.inl ⟨by rfl, fun w _ => by first | rfl | go_simp⟩) hHeld ?_
            try simp only [Act.put, List.setIfInBounds_toArray, List.set_cons_zero, List.set_cons_succ]
            refine wpAnyH_take (i := 19) (oi := ⟨_, _, _, _, _, _⟩) (v := .bool false) rfl (by kernel_rfl) (by kernel_rfl) (by kernel_rfl) (fun _ _ _ h => h) (Or.inl ⟨by rfl, fun w _ => by first | rfl | go_simp⟩) hHeld ?_
            try simp only [Act.put, List.setIfInBounds_toArray, List.set_cons_zero, List.set_cons_succ]
            refine wpAnyH_take (i := 20) (oi := ⟨_, _, _, _, _, _⟩) (v := .bool false) rfl (by kernel_rfl) (by kernel_rfl) (by kernel_rfl) (fun _ _ _ h => h) (Or.inl ⟨by rfl, fun w _ => by first | rfl | go_simp⟩) hHeld ?_
            try simp only [Act.put, List.setIfInBounds_toArray, List.set_cons_zero, List.set_cons_succ]
            refine wpAnyH_take (i := 21) (oi := ⟨_, _, _, _, _, _⟩) (v := .bool false) rfl (by kernel_rfl) (by kernel_rfl) (by kernel_rfl) (fun _ _ _ h => h) (Or.inl ⟨by rfl, fun w _ => by first | rfl | go_simp⟩) hHeld ?_
            try simp only [Act.put, List.setIfInBounds_toArray, List.set_cons_zero, List.set_cons_succ]
            refine wpAnyH_take (i := 22) (oi := ⟨_, _, _, _, _, _⟩) (v := .bool true) rfl (by kernel_rfl) (by kernel_rfl) (by kernel_rfl) (fun _ _ _ h => h) (Or.inl ⟨by rfl, fun w _ => by first | rfl | go_simp⟩) hHeld ?_
            try simp only [Act.put, List.setIfInBounds_toArray, List.set_cons_zero, List.set_cons_succ]
            refine wpAnyH_take (i := 23) (oi := ⟨_, _, _, _, _, _⟩) (v := .bool true) rfl (by kernel_rfl) (by kernel_rfl) (by kernel_rfl) (fun _ _ _ h => h) (Or.inl ⟨by rfl, fun w _ => by first | rfl | go_simp⟩) hHeld ?_
            try simp only [Act.put, List.setIfInBounds_toArray, List.set_cons_zero, List.set_cons_succ]
            refine wpAnyH_take (i := 24) (oi := ⟨_, _, _, _, _, _⟩) (v := _) rfl (by kernel_rfl) (by kernel_rfl) (by kernel_rfl) (fun _ _ _ h => h) (yieldsIf_load_mid (by rfl) 34 (.tmp 21) rfl W4.heap.size 0 rfl (letCs Letter.zero (.slice A3 n3 c3) (.slice A4 n4 c4)).toList _ (fun w h => h) Try.underlying34 rfl info_letter) hHeld ?_
            try simp only [Act.put, List.setIfInBounds_toArray, List.set_cons_zero, List.set_cons_succ]
            refine wpAnyH_take (i := 25) (oi := ⟨_, _, _, _, _, _⟩) (v := .agg #[.int .i64 0, .int .i64 0, .int .i64 0, .int .i64 0, .int .i64 0, .int .i64 0, .int .i64 0, .string ⟨#[]⟩, .string ⟨#[]⟩, .slice none 0 0, .slice none 0 0, .int .i64 0, .bool false, .string ⟨#[]⟩]) rfl (by kernel_rfl) (by kernel_rfl) (by kernel_rfl) (fun _ _ _ h => h) (Or.inl ⟨by rfl, fun w _ => by first | rfl | go_simp⟩) hHeld ?_
            try simp only [Act.put, List.setIfInBounds_toArray, List.set_cons_zero, List.set_cons_succ]
            refine wpAnyH_ready (rs := [26]) (by kernel_rfl) (by simp) ?_
            refine AllReadyH.cons (o := ⟨_, _, _, _, _, _⟩) rfl (fun K hK => ?_) AllReadyH.nil
            go_simp
            refine (sameZ_calls (HLW.out.ext (Ext.refl _).drew)).mono ?_
            rintro e wa ⟨rfl, hea⟩
            go_wp2_with fail
            refine hK.out _ _ (rng_ext hHeld hea) (fun hHeld => ?_)
            clear hK K
            try simp only [Act.put, List.setIfInBounds_toArray, List.set_cons_zero, List.set_cons_succ]
            refine wpAnyH_take (i := 27) (oi := ⟨_, _, _, _, _, _⟩) (v := .bool false) rfl (by kernel_rfl) (by kernel_rfl) (by kernel_rfl) (fun _ _ _ h => h) (Or.inl ⟨by rfl, fun w _ => by first | rfl | go_simp⟩) hHeld ?_
            try simp only [Act.put, List.setIfInBounds_toArray, List.set_cons_zero, List.set_cons_succ]
            refine wpAnyH_take (i := 28) (oi := ⟨_, _, _, _, _, _⟩) (v := .bool false) rfl (by kernel_rfl) (by kernel_rfl) (by kernel_rfl) (fun _ _ _ h => h) (Or.inl ⟨by rfl, fun w _ => by first | rfl | go_simp⟩) hHeld ?_
            try simp only [Act.put, List.setIfInBounds_toArray, List.set_cons_zero, List.set_cons_succ]
            refine wpAnyH_take (i := 29) (oi := ⟨_, _, _, _, _, _⟩) (v := .bool false) rfl (by kernel_rfl) (by kernel_rfl) (by kernel_rfl) (fun _ _ _ h => h) (Or.inl ⟨by rfl, fun w _ => by first | rfl | go_simp⟩) hHeld ?_
            try simp only [Act.put, List.setIfInBounds_toArray, List.set_cons_zero, List.set_cons_succ]
            refine wpAnyH_done (by kernel_rfl) ?_ _
            have hT : PX w p mb w2.heap.size (k + 1) wa := ⟨_, _, _, _, (HPW.out.go ((Ext.refl _).drew.trans hea)).mono (by omega)⟩
            clear r1 hea
            go_wp2_with fail
            go_meet
            case rel => exact hT
        go_wp2_with fail
        go_meet
        case rel => exact ⟨_, _, _, _, HP.out.mono (by omega)⟩
      case rest =>
        clear HP HL HB kc kn hpB hmB HrB Hsm
        obtain ⟨Fn9, v9, rs9, last9, hP9⟩ := hcut
        obtain ⟨A9, c9, rfl, _, _⟩ := hP9.ref.own.form
        obtain ⟨n9, hn9⟩ : ∃ n9, n9 = (rs9.map pr).length := ⟨_, rfl⟩
        rw [← hn9] at hP9
        have hn9' : n9 = rs9.length := hn9.trans (List.length_map _)
        have hb9 : rs9.length ≤ 4096 := by have := hP9.l1; have := hP9.l2; omega
        have hb9' : (rs9.map pr).length ≤ 4096 := by rw [List.length_map]; exact hb9
        have d9 := hP9.ref.cells.1
        have HP9 := Lib.hid hP9
        have Hd9 := Lib.hid d9
        have Hn9 := Lib.hid hn9'
        clear hn9 hn9' hP9 d9
        go_upto_region 37 with (fail)
        refine wp_region_held_drew (S := fun w' => Ext wc w') (by kernel_rfl) (Ext.refl wc).drew (fun hHeld => ?_)
        refine wpAnyH_take (i := 0) (oi := ⟨_, _, _, _, _, _⟩) (v := .pointer (some ⟨p, 0, none⟩)) rfl (by kernel_rfl) (by kernel_rfl) (by kernel_rfl) (fun _ _ _ h => h) (Or.inl ⟨by rfl, fun w _ => by first | rfl | go_simp⟩) hHeld ?_
        try simp only [Act.put, List.setIfInBounds_toArray, List.set_cons_zero, List.set_cons_succ]
        refine wpAnyH_take (i := 2) (oi := ⟨_, _, _, _, _, _⟩) (v := .pointer (some ⟨w2.heap.size, 0, none⟩)) rfl (by kernel_rfl) (by kernel_rfl) (by kernel_rfl) (fun _ _ _ h => h) (Or.inl ⟨by rfl, fun w _ => by first | rfl | go_simp⟩) hHeld ?_
        try simp only [Act.put, List.setIfInBounds_toArray, List.set_cons_zero, List.set_cons_succ]
        refine wpAnyH_ready (rs := [1]) (by kernel_rfl) (by simp) ?_
        refine AllReadyH.cons (o := ⟨_, _, _, _, _, _⟩) rfl (fun K hK => ?_) AllReadyH.nil
        go_simp
        refine (under_calls _ (HP9.out.net.ext hHeld) hb9).mono ?_
        rintro e wa ⟨va, rfl, hOa, hea⟩
        go_wp2_with fail
        refine hK.out _ _ (hHeld.trans hea) (fun hHeld => ?_)
        clear hK K
        try simp only [Act.put, List.setIfInBounds_toArray, List.set_cons_zero, List.set_cons_succ]
        obtain ⟨Aa, ca, rfl, _, _⟩ := hOa.form
        generalize (rs9.map (·.n)).length = na at hOa ⊢
        refine wpAnyH_ready (rs := [3]) (by kernel_rfl) (by simp) ?_
        refine AllReadyH.cons (o := ⟨_, _, _, _, _, _⟩) rfl (fun K hK => ?_) AllReadyH.nil
        go_simp
        refine (runder_calls _ (HP9.out.ref.ext hHeld) hb9').mono ?_
        rintro e wb ⟨vb, rfl, hOb, heb⟩
        go_wp2_with fail
        refine hK.out _ _ (hHeld.trans heb) (fun hHeld => ?_)
        clear hK K
        try simp only [Act.put, List.setIfInBounds_toArray, List.set_cons_zero, List.set_cons_succ]
        rw [show (rs9.map pr).map (·.1) = rs9.map (·.n) from by rw [List.map_map]; rfl] at hOb
        obtain ⟨Ab, cb, rfl, _, _⟩ := hOb.form
        generalize (rs9.map (·.n)).length = nb at hOb ⊢
        refine wpAnyH_ready (rs := [4]) (by kernel_rfl) (by simp) ?_
        refine AllReadyH.cons (o := ⟨_, _, _, _, _, _⟩) rfl (fun K hK => ?_) AllReadyH.nil
        go_simp
        refine (sameInts_calls _ (hOa.sl.ext heb) hOb.sl).mono ?_
        rintro e wd ⟨rfl, hed⟩
        go_wp2_with fail
        refine hK.out _ _ (hHeld.trans hed) (fun hHeld => ?_)
        clear hK K
        try simp only [Act.put, List.setIfInBounds_toArray, List.set_cons_zero, List.set_cons_succ]
        refine wpAnyH_take (i := 5) (oi := ⟨_, _, _, _, _, _⟩) (v := .bool false) rfl (by kernel_rfl) (by kernel_rfl) (by kernel_rfl) (fun _ _ _ h => h) (Or.inl ⟨by rfl, fun w _ => by first | rfl | go_simp⟩) hHeld ?_
        try simp only [Act.put, List.setIfInBounds_toArray, List.set_cons_zero, List.set_cons_succ]
        refine wpAnyH_take (i := 6) (oi := ⟨_, _, _, _, _, _⟩) (v := .bool false) rfl (by kernel_rfl) (by kernel_rfl) (by kernel_rfl) (fun _ _ _ h => h) (Or.inl ⟨by rfl, fun w _ => by first | rfl | go_simp⟩) hHeld ?_
        try simp only [Act.put, List.setIfInBounds_toArray, List.set_cons_zero, List.set_cons_succ]
        refine wpAnyH_take (i := 7) (oi := ⟨_, _, _, _, _, _⟩) (v := .pointer (some ⟨p, 0, none⟩)) rfl (by kernel_rfl) (by kernel_rfl) (by kernel_rfl) (fun _ _ _ h => h) (Or.inl ⟨by rfl, fun w _ => by first | rfl | go_simp⟩) hHeld ?_
        try simp only [Act.put, List.setIfInBounds_toArray, List.set_cons_zero, List.set_cons_succ]
        refine wpAnyH_take (i := 9) (oi := ⟨_, _, _, _, _, _⟩) (v := .pointer (some ⟨w2.heap.size, 0, none⟩)) rfl (by kernel_rfl) (by kernel_rfl) (by kernel_rfl) (fun _ _ _ h => h) (Or.inl ⟨by rfl, fun w _ => by first | rfl | go_simp⟩) hHeld ?_
        try simp only [Act.put, List.setIfInBounds_toArray, List.set_cons_zero, List.set_cons_succ]
        refine wpAnyH_take (i := 10) (oi := ⟨_, _, _, _, _, _⟩) (v := .pointer (some ⟨w2.heap.size, 0, none⟩)) rfl (by kernel_rfl) (by kernel_rfl) (by kernel_rfl) (fun _ _ _ h => h) (Or.inl ⟨by rfl, fun w _ => by first | rfl | go_simp⟩) hHeld ?_
        try simp only [Act.put, List.setIfInBounds_toArray, List.set_cons_zero, List.set_cons_succ]
        refine wpAnyH_take (i := 11) (oi := ⟨_, _, _, _, _, _⟩) (v := .pointer (some ⟨w2.heap.size, 0, none⟩)) rfl (by kernel_rfl) (by kernel_rfl) (by kernel_rfl) (fun _ _ _ h => h) (Or.inl ⟨by rfl, fun w _ => by first | rfl | go_simp⟩) hHeld ?_
        try simp only [Act.put, List.setIfInBounds_toArray, List.set_cons_zero, List.set_cons_succ]
        refine wpAnyH_take (i := 12) (oi := ⟨_, _, _, _, _, _⟩) (v := .slice A9 n9 c9) rfl (by kernel_rfl) (by kernel_rfl) (by kernel_rfl) (fun _ _ _ h => h) (Or.inl ⟨by rfl, fun w hw => by have := hw.cell Hd9.out; go_simp⟩) hHeld ?_
        try simp only [Act.put, List.setIfInBounds_toArray, List.set_cons_zero, List.set_cons_succ]
        refine wpAnyH_take (i := 13) (oi := ⟨_, _, _, _, _, _⟩) (v := .int .i64 n9) rfl (by kernel_rfl) (by kernel_rfl) (by kernel_rfl) (fun _ _ _ h => h) (Or.inl ⟨by rfl, fun w _ => by first | rfl | go_simp⟩) hHeld ?_
        try simp only [Act.put, List.setIfInBounds_toArray, List.set_cons_zero, List.set_cons_succ]
        refine wpAnyH_ready (rs := [8]) (by kernel_rfl) (by simp) ?_
        refine AllReadyH.cons (o := ⟨_, _, _, _, _, _⟩) rfl (fun K hK => ?_) AllReadyH.nil
        go_simp
        refine (len_calls _ (HP9.out.net.ext hHeld)).mono ?_
        rintro e we ⟨rfl, rfl⟩
        go_wp2_with fail
        refine hK.out _ _ hHeld (fun hHeld => ?_)
        clear hK K
        try simp only [Act.put, List.setIfInBounds_toArray, List.set_cons_zero, List.set_cons_succ]
        rw [← Hn9.out]
        refine wpAnyH_take (i := 14) (oi := ⟨_, _, _, _, _, _⟩) (v := .bool false) rfl (by kernel_rfl) (by kernel_rfl) (by kernel_rfl) (fun _ _ _ h => h) (Or.inl ⟨by rfl, fun w _ => by first | rfl | go_simp⟩) hHeld ?_
        try simp only [Act.put, List.setIfInBounds_toArray, List.set_cons_zero, List.set_cons_succ]
        refine wpAnyH_take (i := 15) (oi := ⟨_, _, _, _, _, _⟩) (v := .bool false) rfl (by kernel_rfl) (by kernel_rfl) (by kernel_rfl) (fun _ _ _ h => h) (Or.inl ⟨by rfl, fun w _ => by first | rfl | go_simp⟩) hHeld ?_
        try simp only [Act.put, List.setIfInBounds_toArray, List.set_cons_zero, List.set_cons_succ]
        refine wpAnyH_done (by kernel_rfl) ?_ _
        have hT : PX w p mb w2.heap.size (k + 1) we := ⟨_, _, _, _, HP9.out.go hHeld⟩
        have HT := Lib.hid hT
        clear hT hHeld hea heb hed hOa hOb
        go_wp2_with fail
        go_roundg (n - (k + 1))
        case measure => omega
        case rel => exact ⟨k + 1, by omega, rfl, by go_num, HT.out⟩
    · have hkn : k = n := by omega
      have HP := Lib.hid hP
      clear hP hkn
      go_wp2
      go_ret
      exact ⟨rfl, HP.out.ext⟩
end Go.Proofs.Ytmimncinnflfkaa
