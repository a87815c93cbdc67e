/-
  THE WALK of FrameBursts.
-/
import Derived.Test.YtcmbdbphddokmaaFrmK
import Derived.Test.YtcmbdbphddokmaaPlainTurn
import Derived.Deep.QuietTactic
import Derived.BigQuiet
import Derived.StillTailTactics
namespace Go.Proofs.Ytcmbdbphddokmaa
open Go.RowKit

theorem u8_xor_cF (u v : UInt8) : bits BinOp.xor IntKind.u8 (u.toNat : Int) (v.toNat : Int) = ((u ^^^ v).toNat : Int) := by
  rw [u8_xor_nat _ _ u.toNat_lt v.toNat_lt, UInt8.toNat_xor]

theorem u8_shlF : ∀ j : Fin 8, IntKind.u8.wrap (2 ^ j.val) = (((1 : UInt8) <<< (UInt8.ofNat j.val)).toNat : Int) := by decide

set_option maxRecDepth 100000 in
set_option maxHeartbeats 4000000 in
theorem frameBursts_walk (B : Option Addr) (L d : Nat) (ls : List (List UInt8)) (z z2 : Int) (v : Reg) (w : World) (hP : IsRows w B L d ls) :
    Calls Try.prog 8 #[.slice B L d, .int .i64 z, .int .i64 z2, .int .u32 (v.toNat : Int)] w (Yes w) := by
  obtain ⟨hM, hBn, hMd, hdm, vs, hvl, hvr, hrow⟩ := hP
  obtain ⟨i0, hi0, hz0, hz1, hz2⟩ := info_parts info_int
  unfold maxLen at hdm
  obtain ⟨M, hM1, hM2, hM3⟩ : ∃ M, M ≤ L ∧ M ≤ 6 ∧ (M < L → M = 6) := ⟨min L 6, by omega, by omega, by omega⟩
  obtain ⟨rs, hrs⟩ : ∃ rs, mkB (fun i => i + 1) (ls.take M) = rs := ⟨_, rfl⟩
  have hrl : rs.length = M := by rw [← hrs, mkB_length, List.length_take]; omega
  have hrg : ∀ i (h1 : i < M) (h2 : i < rs.length) (h3 : i < ls.length), rs[i] = (i + 1, ls[i]) := by
    intro i h1 h2 h3
    subst hrs
    rw [mkB_get _ _ i (by rw [List.length_take]; omega), List.getElem_take]
  replace hM := hid hM
  replace hvl := hid hvl
  replace hrl := hid hrl
  replace hrg := hid hrg
  replace hM3 := hid hM3
  clear hrs
  go_enter Try.func8, Try.ntmps8
  go_wp2
  go_loopw [9, 10, 11] (fun s5 s6 i wr => ∃ (j q : Nat) (A2 : Option Addr) (c2 : Nat) (A3 : Option Addr) (c3 : Nat), i = .int .i64 j ∧ j ≤ M ∧ s5 = .slice A2 q c2 ∧ s6 = .slice A3 (j + 1) c3 ∧ Hid (startB rs j = q) ∧ q ≤ 312 * j ∧ Hid (GoodB (rs.take j)) ∧
    wr.ownsRow w.heap.size 5 1 (.slice A2 q c2) q (cb (framesB (rs.take j))) ∧ wr.ownsRow w.heap.size 3 1 (.slice A3 (j + 1) c3) (j + 1) (i64s (begs rs (j + 1))) ∧ Below w.heap.size w wr)
    (fun _ _ i _ => M - (intOf i).toNat)
  case atStart => exact ⟨0, 0, none, 0, some ⟨w.heap.size, 0, none⟩, 1, rfl, by omega, rfl, rfl, hid (startB_zero rs), by omega, hid (fun r hr => by simp at hr), World.ownsRow_nil _ _ _ _, by have h := own_one w 3 (.int .i64 0); simpa [begs, i64s, startB_zero] using h, (Below.refl _ w).alloc (Nat.le_refl _) _⟩
  case round =>
    obtain ⟨j, q, A2, c2, A3, c3, rfl, hj, rfl, rfl, hq, hqb, hgood, hown2, hown3, hbw⟩ := hrel
    by_cases hlt : j < M
    · have hjl : j < ls.length := by rw [hM.out]; omega
      have hjr : j < rs.length := by rw [hrl.out]; exact hlt
      obtain ⟨Aj, cj, hv, hdj, hAj, hjc, hcjm⟩ := hrow j ls[j] (List.getElem?_eq_getElem hjl)
      obtain ⟨b, o, rfl, hbo, hce⟩ := hvr (by rw [hvl.out]; omega)
      have hc0 := hce j _ hv
      have hck := (hbw.cell (p := ⟨b, o + j, none⟩) hbo).trans hc0
      have hrj := hrg.out j hlt hjr hjl
      have hfs := framesB_take_succ rs j hjr
      have hss := startB_succ rs j hjr
      rw [hrj] at hfs hss
      simp only [] at hfs hss
      rw [hq.out] at hss
      have hgn : ls[j].length ≤ 300 → GoodB (rs.take (j + 1)) := fun h r hr => by
        rw [List.take_succ_eq_append_getElem hjr] at hr
        rcases List.mem_append.1 hr with h1 | h1
        · exact hgood.out r h1
        · simp at h1
          subst h1
          rw [hrj]
          exact ⟨by show 1 ≤ j + 1; omega, by show j + 1 ≤ 250; omega, by show ls[j].length ≤ 70000; omega⟩
      obtain ⟨x, hx⟩ : ∃ x, ls[j] = x := ⟨_, rfl⟩
      rw [hx] at hv hc0 hdj hck hjc hfs hss hgn
      obtain ⟨X, hX⟩ : ∃ X, x.length = X := ⟨_, rfl⟩
      rw [hX] at hv hc0 hck hjc hss hgn
      have hXm : X ≤ 9223372036854775807 := by unfold maxLen at hcjm; omega
      have hjL : (j : Int) < (L : Int) := by omega
      have hj6 : (j : Int) < 6 := by omega
      replace hgn := hid hgn
      replace hss := hid hss
      replace hX := hid hX
      clear hce hrow hx hv hrj
      by_cases h3 : 300 < X
      · clear hfs
        go_wp2_with (go_at_call 10; refine (awake_any _).mono ?_; rintro e w3 ⟨rfl, hb3⟩)
        go_ret
        exact ⟨rfl, hbw.trans (hb3.mono hbw.size)⟩
      · obtain ⟨kd, hkd0⟩ : ∃ kd, j + 1 = kd := ⟨_, rfl⟩
        have hkd : (j : Int) + 1 = (kd : Int) := by omega
        rw [hkd0] at hfs
        replace hfs := hid hfs
        have hkdm : kd ≤ 7 := by omega
        have hne : ((q : Int) + (X : Int) + 12 != (q : Int) + 12 + (X : Int)) = false := by simp; omega
        replace hkd0 := hid hkd0
        have hql : Hid ((framesB (rs.take j)).length = q) := hid hq.out
        go_wp2_with fail
        refine (putF_any A2 q c2 (framesB (rs.take j)) kd Aj X cj x _ hql.out (Rd.of_own hown2) (by omega) (by omega) (by omega) hX.out (hdj.below hbw) (by omega)).mono ?_
        rintro e w1 ⟨A4, c4, rfl, hown4, hb4⟩
        have hbw1 := hbw.trans (hb4.mono hbw.size)
        have hown3' := hown3.kept (below_grownN hb4) (own_neN hown3)
        have hws := hbw1.size
        have hck1 := (hbw1.cell (p := ⟨b, o + j, none⟩) hbo).trans hc0
        clear hkd
        go_wp2_with (at_builtin; refine wpList_app _ rfl (.tmp 72) (.tmp 75) 40 rfl w.heap.size 3 i0 (.int .i64 0) 8 Try.underlying40 hi0 hz0 hz1 hz2 rfl _ _ _ _ rfl (hown3'.alloc _) _ _ _ [.int .i64 ((q : Int) + (X : Int) + 12)] rfl (Rd.one _ _ _) rfl (one_int _ _) (by unfold maxLen; omega) (by omega) (by simp; omega) ?_; intro A5 c5 w5 hown5 hg5 hb5 _)
        go_roundw
        case rel =>
          refine ⟨j + 1, q + X + 12, A4, c4, A5, c5, by go_num, by omega, rfl, by rfl, hid (by rw [hss.out]; omega), by omega, hid (hgn.out (by omega)), ?_, ?_, (hbw1.alloc hws _).trans hb5⟩
          · rw [hkd0.out, hfs.out]
            exact own_mono ((hown4.alloc _).kept hg5 (owns_ne (hown4.alloc _) (hown3'.alloc (.cells #[.int .i64 ((q : Int) + (X : Int) + 12)] 3)) (by decide))) hbw.size
          · rw [begs_succ, i64s_snoc, hss.out]
            have e : ((q + (X + 12) : Nat) : Int) = (q : Int) + (X : Int) + 12 := by omega
            rw [e]
            exact hown5
        case measure => simp [intOf]; omega
    · obtain rfl : j = M := by omega
      have hrt : rs.take j = rs := List.take_of_length_le (by rw [hrl.out]; exact Nat.le_refl _)
      have hgd := hgood.out
      rw [hrt] at hgd hown2
      have hql : (framesB rs).length = q := by have h := hq.out; unfold startB at h; rwa [hrt] at h
      have hcap2 := own_cap hown2
      have hcap2' := hcap2
      unfold maxLen at hcap2'
      have hcap3 := own_cap hown3
      unfold maxLen at hcap3
      replace hgd := hid hgd
      replace hql := hid hql
      clear hrt hgood hq
      rcases Nat.eq_zero_or_pos j with h0 | h0
      · have hjL : ¬ (j : Int) < (L : Int) := by
          intro h
          have := hM3.out (by omega)
          omega
        have h0b : ((j : Int) == 0) = true := by rw [h0]; rfl
        go_wp2_with (go_at_call 10; refine (awake_any _).mono ?_; rintro e w5 ⟨rfl, hb5⟩)
        go_ret
        exact ⟨rfl, hbw.trans (hb5.mono hbw.size)⟩
      · have h0b : ((j : Int) == 0) = false := by rw [beq_eq_false_iff_ne]; omega
        obtain ⟨k, hk, r, hr1, hb1, hm1, hm1'⟩ := mod8 z j h0
        have hkr : k < rs.length := by rw [hrl.out]; exact hk
        have hkl : k < ls.length := by rw [hM.out]; omega
        have hrk := hrg.out k hk hkr hkl
        obtain ⟨x, hx⟩ : ∃ x, ls[k] = x := ⟨_, rfl⟩
        rw [hx] at hrk
        obtain ⟨X, hX⟩ : ∃ X, x.length = X := ⟨_, rfl⟩
        obtain ⟨s, hs⟩ : ∃ s, startB rs k = s := ⟨_, rfl⟩
        have hsp := congrArg List.length (framesB_split rs k)
        have hs' : (framesB (rs.take k)).length = s := hs
        rw [List.length_append, hs', hql.out] at hsp
        have hss := startB_succ rs k hkr
        rw [hs, hrk] at hss
        simp only [] at hss
        rw [hX] at hss
        have hspl : framesB rs = framesB (rs.take k) ++ (frameB (k + 1) x ++ framesB (rs.drop (k + 1))) := by
          conv => lhs; rw [framesB_split rs k]
          rw [List.drop_eq_getElem_cons hkr, framesB_cons, hrk]
        have hf1 : (framesB (rs.drop k)).length ≥ X + 12 := by
          rw [List.drop_eq_getElem_cons hkr, framesB_cons, List.length_append, frameB_length, hrk, hX]; omega
        have hsq : s + (X + 12) ≤ q := by omega
        obtain ⟨D, hD⟩ : ∃ D, 8 * (X + 12) = D := ⟨_, rfl⟩
        obtain ⟨r2, hr2, hb2⟩ := i64_mask z2 65535 (by omega)
        have hb2 : bits BinOp.and IntKind.i64 z2 65535 = (r2 : Int) := hb2
        obtain ⟨p, hp, hpm⟩ : ∃ p, r2 % D = p ∧ p < D := ⟨_, rfl, Nat.mod_lt _ (by omega)⟩
        have hpi : (r2 : Int).tmod (D : Int) = (p : Int) := by rw [Int.tmod_eq_emod_of_nonneg (by omega), ← Int.natCast_emod, hp]
        have hpi' : (r2 : Int) % (D : Int) = (p : Int) := by rw [← Int.natCast_emod, hp]
        obtain ⟨F, hF⟩ : ∃ F, 8 * s = F := ⟨_, rfl⟩
        obtain ⟨T, hT⟩ : ∃ T, 8 * (s + (X + 12)) = T := ⟨_, rfl⟩
        obtain ⟨P, hPp⟩ : ∃ P, F + p = P := ⟨_, rfl⟩
        obtain ⟨S2, hS2⟩ : ∃ S2, s + (X + 12) = S2 := ⟨_, rfl⟩
        have hFi : 8 * (s : Int) = (F : Int) := by omega
        have hTi : 8 * (S2 : Int) = (T : Int) := by omega
        have hDi : (T : Int) - (F : Int) = (D : Int) := by omega
        have hPi : (F : Int) + (p : Int) = (P : Int) := by omega
        have hTq : T ≤ 8 * q := by omega
        have hPT : P < T := by omega
        obtain ⟨g, rfl, hg1, hg2⟩ := own_addr hown2 (by omega)
        obtain ⟨g3, rfl, hg3, hg4⟩ := own_addr hown3 (by omega)
        have hgg : g3 ≠ g := fun e => by
          rcases owns_ne hown3 hown2 (by decide) with h | h
          · simp [Value.ownBlock] at h
          · exact h (by rw [e]; rfl)
        have hk1 : wr.cell? ⟨g3, k, none⟩ = some (.int .i64 (s : Int)) := by rw [hown3.cellAt k (by omega), begs_get rs (j + 1) k (by omega), hs]
        have hk2 : wr.cell? ⟨g3, k + 1, none⟩ = some (.int .i64 (S2 : Int)) := by rw [hown3.cellAt (k + 1) (by omega), begs_get rs (j + 1) (k + 1) (by omega), hss, hS2]
        have hkj : (k : Int) < (j : Int) + 1 := by omega
        have hkj2 : (k : Int) + 1 < (j : Int) + 1 := by omega
        have hS2q : S2 ≤ q := by omega
        have hstart := hid (RecI.start (framesB (rs.take k)) (k + 1) x (framesB (rs.drop (k + 1))) p)
        rw [← hspl] at hstart
        replace hs := hid hs
        replace hs' := hid hs'
        replace hX := hid hX
        replace hspl := hid hspl
        replace hrk := hid hrk
        replace hx := hid hx
        replace hql := hid hql
        replace hgg := hid hgg
        replace hp := hid hp
        clear hss hsp hf1
        by_cases hML : j < L
        rotate_left
        have hjL : ¬ (j : Int) < (L : Int) := by omega
        focus (go_wp2_with fail)
        rotate_left
        have hjL : (j : Int) < (L : Int) := by omega
        have hj6 : (6 : Int) ≤ (j : Int) := by have := hM3.out hML; omega
        focus (go_wp2_with fail)
        all_goals
          go_quiet (fail)
          have hbq := hbw.trans ((below_drewN wr nq).mono hbw.size)
          have hown2 : (wr.drewN nq).ownsRow w.heap.size _ 1 _ _ _ := hown2
          have hown3 : (wr.drewN nq).ownsRow w.heap.size _ 1 _ _ _ := hown3
          clear hk1 hk2 hbw
          generalize wr.drewN nq = wq at *
          go_wp2_with fail
          obtain ⟨pre, hpre⟩ : ∃ pre, framesB (rs.take k) = pre := ⟨_, rfl⟩
          obtain ⟨post, hpost⟩ : ∃ post, framesB (rs.drop (k + 1)) = post := ⟨_, rfl⟩
          rw [hpre, hpost] at hstart hspl
          rw [hpre] at hs'
          clear hD hpi hpi' hDi hFi hTi hPi hb2 hb1 hm1 hm1' hkj hkj2 hg2 hg4 hr1 hr2
          go_loopw [19, 20] (fun a9 i10 wr => ∃ (i : Nat) (an : Bool) (cur : List UInt8), a9 = .bool an ∧ i10 = .int .i64 i ∧ i ≤ 32 ∧ Hid (cur.length = q) ∧ wr.ownsRow w.heap.size 5 1 (.slice (some ⟨g, 0, none⟩) q c2) q (cb cur) ∧ wr.ownsRow w.heap.size 3 1 (.slice (some ⟨g3, 0, none⟩) (j + 1) c3) (j + 1) (i64s (begs rs (j + 1))) ∧ Below w.heap.size w wr ∧ Hid (RecI pre (k + 1) x post p i an cur)) (fun _ i _ => 32 - (intOf i).toNat)
          case atStart => exact ⟨0, false, framesB rs, rfl, rfl, by omega, hql, hown2, hown3, hbq, hstart⟩
          case round =>
            clear hown2 hown3 hbq hstart
            obtain ⟨i, an, cur, rfl, rfl, hi, hcl, hown, hown3, hb1, hB⟩ := hrel
            by_cases h32 : i < 32
            · by_cases hin : P + i < T
              · have hkc : (P + i) / 8 < cur.length := by rw [hcl.out]; omega
                have hflip := hid (hB.out.flip h32 (by rw [hX.out]; omega) ((P + i) / 8) ((P + i) % 8) (by omega) (by rw [hs'.out]; omega) _ rfl hkc)
                obtain ⟨k1, hk1⟩ : ∃ k1, (P + i) / 8 = k1 := ⟨_, rfl⟩
                obtain ⟨j1, hj1⟩ : ∃ j1, (P + i) % 8 = j1 := ⟨_, rfl⟩
                have hkL : k1 < q := by omega
                have hj8 : j1 < 8 := by omega
                have hki : ((P : Int) + (i : Int)) / 8 = (k1 : Int) := by omega
                have hji : ((P : Int) + (i : Int)) % 8 = (j1 : Int) := by omega
                have hkI : (k1 : Int) < (q : Int) := by omega
                have hkt : ((P : Int) + (i : Int)).tdiv 8 = (k1 : Int) := by rw [Int.tdiv_eq_ediv_of_nonneg (by omega)]; omega
                have hjt : ((P : Int) + (i : Int)).tmod 8 = (j1 : Int) := by rw [Int.tmod_eq_emod_of_nonneg (by omega)]; omega
                have hw1 : IntKind.i64.wrap ((P : Int) + (i : Int)) = (P : Int) + (i : Int) := by rw [IntKind.wrap_i64]; omega
                have hwk : IntKind.i64.wrap (k1 : Int) = (k1 : Int) := by rw [IntKind.wrap_i64]; omega
                have hwj : IntKind.i64.wrap (j1 : Int) = (j1 : Int) := by rw [IntKind.wrap_i64]; omega
                have hsh : IntKind.u8.wrap (2 ^ j1) = (((1 : UInt8) <<< (UInt8.ofNat j1)).toNat : Int) := u8_shlF ⟨j1, hj8⟩
                have hinI : (P : Int) + (i : Int) < (T : Int) := by omega
                simp only [hk1, hj1] at hflip hkc
                have hxc := u8_xor_cF cur[k1] ((1 : UInt8) <<< (UInt8.ofNat j1))
                have hyv : (cb cur)[k1]? = some (.int .u8 (cur[k1].toNat : Int)) := by rw [cb_get _ _ hkc]; rfl
                generalize (1 : UInt8) <<< (UInt8.ofNat j1) = b at hflip hsh hxc
                generalize cur[k1] = y at hflip hxc hyv
                generalize y ^^^ b = y2 at hflip hxc
                have hce : wr.cell? ⟨g, k1, none⟩ = some (.int .u8 (y.toNat : Int)) := by rw [hown.cellAt k1 (by omega)]; exact hyv
                have hfr := hown.frozenAt k1
                replace hk1 := hid hk1
                replace hj1 := hid hj1
                go_wp2
                all_goals first
                  | (go_roundw
                     case rel => exact ⟨i + 1, an, cur, rfl, by go_num, by omega, hcl, hown, hown3, hb1, hid hB.out.keep⟩
                     case measure => simp [intOf]; omega)
                  | (go_still_tail 14, (by kernel_rfl)
                     change wpList _ _ _ _ _ wr.drew
                     have hce2 : wr.drew.cell? ⟨g, k1, none⟩ = some (.int .u8 (y.toNat : Int)) := hce
                     have hfr2 : wr.drew.frozen? ⟨g, k1, none⟩ = false := hfr
                     obtain ⟨hst1, _⟩ := (World.ownsRow.drew hown).stored k1 (u8c y2)
                     rw [cb_set] at hst1
                     have hst2 := hb1.drew.setCell (p := ⟨g, k1, none⟩) hg1 (u8c y2)
                     have hst3 := ownsRow_setCell_other (World.ownsRow.drew hown3) (a := ⟨g, k1, none⟩) (by simpa [Value.ownBlock] using hgg.out) (u8c y2)
                     clear hown hown3 hce hfr
                     generalize wr.drew = w2 at *
                     go_wp2
                     go_roundw
                     case rel => exact ⟨i + 1, true, cur.set k1 y2, rfl, by go_num, by omega, hid (by rw [List.length_set]; exact hcl.out), hst1, hst3, hst2, hflip⟩
                     case measure => simp [intOf]; omega)
              · have hinI : ¬ (P : Int) + (i : Int) < (T : Int) := by omega
                go_wp2
                all_goals
                  go_roundw
                  case rel => exact ⟨i + 1, an, cur, rfl, by go_num, by omega, hcl, hown, hown3, hb1, hid hB.out.keep⟩
                  case measure => simp [intOf]; omega
            · obtain rfl : i = 32 := by omega
              have hdk := Rd.of_own hown
              have rd3 := Rd.of_own hown3
              clear hown hown3
              cases an with
              | false =>
                have hcs := hB.out.same
                rw [← hspl.out] at hcs
                subst hcs
                have hrw := (rowsF_all rs hgd.out).1
                go_wp2_with fail
                refine (told_any _ q (framesB rs) c2 100 _ hcl.out hdk (fun h => by cases h) (by omega) (by omega)).mono ?_
                rintro e w3 ⟨xs, A4, c4, A5, c5, hxs, rfl, hx1, hx2, hx3, hb3⟩
                rw [hrw, List.take_of_length_le (by rw [outF_length, hrl.out]; omega)] at hxs
                have hxl : xs.length = j := by
                  have h := congrArg List.length hxs
                  rwa [List.length_map, outF_length, hrl.out] at h
                rw [hxl] at hx1 hx2 ⊢
                have hbw3 := hb1.trans (hb3.mono hb1.size)
                clear hx1 hx2 hx3 hxs hxl rd3 hdk hrw
                go_wp2_with (go_at_call 10; refine (awake_any _).mono ?_; rintro e w5 ⟨rfl, hb5⟩)
                go_ret
                exact ⟨rfl, hbw3.trans (hb5.mono hbw3.size)⟩
              | true =>
                have hgk := hgd.out _ (List.getElem_mem hkr)
                rw [hrk.out] at hgk
                obtain ⟨rr, hcr, her, hrr0⟩ := hB.out.bad hgk.1 hgk.2.1 hgk.2.2
                rw [← hpre] at hcr
                obtain ⟨hrw, hen⟩ := rowsF_stop (rs.take k) rr (goodB_take hgd.out k) (by rw [her]; decide)
                rw [← hcr] at hrw hen
                rw [hpre, hs'.out] at hen
                have hwy : whyF cur = 5 := by
                  unfold whyF
                  rw [hen, if_neg (by rw [hcr, List.length_append, hpre, hs'.out]; omega)]
                  have : cur.drop s = rr := by rw [hcr, hpre, ← hs'.out, List.drop_left]
                  rw [this, her]
                clear hB hgk hcr her hrr0
                go_wp2_with fail
                refine (told_any _ q cur c2 100 _ hcl.out hdk (fun h => by cases h) (by omega) (by omega)).mono ?_
                rintro e w3 ⟨xs, A4, c4, A5, c5, hxs, rfl, hx1, hx2, hx3, hb3⟩
                have hkl' : (rs.take k).length = k := by rw [List.length_take]; omega
                rw [hrw, List.take_of_length_le (by rw [outF_length, hkl']; omega)] at hxs
                have hxl : xs.length = k := by
                  have h := congrArg List.length hxs
                  rwa [List.length_map, outF_length, hkl'] at h
                rw [hxl] at hx1 hx2 ⊢
                have hbw3 := hb1.trans (hb3.mono hb1.size)
                have rx1 := Rd.of_own hx1
                have hcx1 := own_cap hx1
                have hcx2 := owns_cap hx2
                have rx2 := Rd.of_owns hx2
                have rq3 := rd3.below hb3
                have rqk := hdk.below hb3
                replace hxs := hid hxs
                replace hxl := hid hxl
                clear hx1 hx2 rd3 hdk hb3 hb1 hrw
                go_wp2_with fail
                refine (end_any _ q cur c2 _ hcl.out rqk (fun h => by cases h) hcap2.1 hcap2.2 (by omega)).mono ?_
                rintro e w4 ⟨rfl, hb4⟩
                rw [hen, hwy]
                have hbw4 := hbw3.trans (hb4.mono hbw3.size)
                have rz3 := rq3.below hb4
                have ry1 := rx1.below hb4
                have ry2 := rx2.below hb4
                have hly : ∀ y ∈ xs, Rd w4 y.addr (cb y.body) := fun y hy => (hx3 y hy).rd.below hb4
                clear rq3 rx1 rx2 hx3 rqk
                obtain ⟨b3, o3, hA3, hb3, hce3⟩ := rz3 (by rw [i64s_length, begs_length]; omega)
                have kk := hce3 k _ (begs_get rs (j + 1) k (by omega))
                rw [hs.out] at kk
                injection hA3 with hA3
                injection hA3 with hA3 hA3'
                subst hA3 hA3'
                rw [Nat.zero_add] at kk
                have hkj : (k : Int) < (j : Int) + 1 := by omega
                clear hce3
                go_wp2_with fail
                go_loopw [25] (fun i wy => ∃ p : Nat, i = .int .i64 p ∧ p ≤ k ∧ Below w4.heap.size w4 wy) (fun i _ => k - (intOf i).toNat)
                case atStart => exact ⟨0, rfl, by omega, Below.refl _ w4⟩
                case round =>
                  obtain ⟨a, rfl, ha, hby⟩ := hrel
                  by_cases hak : a < k
                  · have har : a < rs.length := by rw [hrl.out]; omega
                    have har2 : a < (rs.take k).length := by rw [List.length_take]; omega
                    have hal : a < ls.length := by rw [hM.out]; omega
                    have hax : a < xs.length := by rw [hxl.out]; exact hak
                    obtain ⟨t1, t2, t3⟩ := told_get hxs.out a har2 hax
                    have hst : startB (rs.take k) a = startB rs a := by unfold startB; rw [List.take_take, Nat.min_eq_left (by omega)]
                    rw [hst] at t1
                    rw [List.getElem_take, hrg.out a (by omega) har hal] at t2 t3
                    simp only [] at t2 t3
                    obtain ⟨Aj, cj, hv, hdj, hAj, hjc, hcjm⟩ := hrow a ls[a] (List.getElem?_eq_getElem hal)
                    obtain ⟨b0, o0, rfl, hb0, hce0⟩ := (hvr.below (hbw4.trans (hby.mono hbw4.size))) (by rw [hvl.out]; omega)
                    have k0 := hce0 a _ hv
                    obtain ⟨b1, o1, rfl, hb1, hce1⟩ := (ry1.below hby) (by rw [i64s_length, List.length_map, hxl.out]; omega)
                    have k1 := hce1 a _ (i64s_get _ a (by rw [List.length_map]; exact hax))
                    rw [List.getElem_map, t1] at k1
                    obtain ⟨b2, o2, hA2, hb2, hce2⟩ := (rz3.below hby) (by rw [i64s_length, begs_length]; omega)
                    have k2 := hce2 a _ (begs_get rs (j + 1) a (by omega))
                    injection hA2 with hA2
                    injection hA2 with hA2 hA2'
                    subst hA2 hA2'
                    rw [Nat.zero_add] at k2
                    obtain ⟨b3, o3, rfl, hb3, hce3⟩ := (ry2.below hby) (by rw [recs_length, hxl.out]; omega)
                    obtain ⟨r1, r2⟩ := recs_get xs a hax
                    have k3 := hce3 _ _ r1
                    have k4 := hce3 _ _ r2
                    rw [← Nat.add_assoc] at k4
                    rw [t2] at k3
                    rw [t3] at k4
                    have hLr := (hly _ (List.getElem_mem hax)).below hby
                    rw [t3] at hLr
                    generalize xs[a].addr = Ax at k4 hLr
                    generalize xs[a].cap = cx at k4
                    obtain ⟨y, hy⟩ : ∃ y, ls[a] = y := ⟨_, rfl⟩
                    rw [hy] at k0 k4 hLr hdj hjc
                    have hdj' := hdj.below (hbw4.trans (hby.mono hbw4.size))
                    obtain ⟨Y, hY⟩ : ∃ Y, y.length = Y := ⟨_, rfl⟩
                    rw [hY] at k0 k4 hjc
                    generalize startB rs a = sa at k1 k2
                    have c1 : ∀ wx, Ext wr wx → (convert 22 9 (.slice Ax Y cx)).run Try.prog wx = .ok (.string ⟨y.toArray⟩) wx :=
                      fun wx hx => run_strn wx 22 9 5 Try.underlying22 Try.underlying5 Try.underlying9 Ax Y y cx hY (hLr.below hx)
                    have c2' : ∀ wx, Ext wr wx → (convert 22 9 (.slice Aj Y cj)).run Try.prog wx = .ok (.string ⟨y.toArray⟩) wx :=
                      fun wx hx => run_strn wx 22 9 5 Try.underlying22 Try.underlying5 Try.underlying9 Aj Y y cj hY (hdj'.below hx)
                    have q0 : ∀ wx, Ext wr wx → wx.cell? ⟨b0, o0 + a, none⟩ = some (.slice Aj Y cj) := fun wx hx => (hx.cell (p := ⟨b0, o0 + a, none⟩) hb0).trans k0
                    have q1 : ∀ wx, Ext wr wx → wx.cell? ⟨b1, o1 + a, none⟩ = some (.int .i64 (sa : Int)) := fun wx hx => (hx.cell (p := ⟨b1, o1 + a, none⟩) hb1).trans k1
                    have q2 : ∀ wx, Ext wr wx → wx.cell? ⟨g3, a, none⟩ = some (.int .i64 (sa : Int)) := fun wx hx => (hx.cell (p := ⟨g3, a, none⟩) hb2).trans k2
                    have q4 : ∀ wx, Ext wr wx → wx.cell? ⟨b3, o3 + a * 2 + 1, none⟩ = some (.slice Ax Y cx) := fun wx hx => (hx.cell (p := ⟨b3, o3 + a * 2 + 1, none⟩) hb3).trans k4
                    obtain ⟨kd, hkd0⟩ : ∃ kd, a + 1 = kd := ⟨_, rfl⟩
                    have hkd : (a : Int) + 1 = (kd : Int) := by omega
                    rw [hkd0] at k3
                    have hkdm : kd ≤ 226 := by omega
                    have q3 : ∀ wx, Ext wr wx → wx.cell? ⟨b3, o3 + a * 2, none⟩ = some (.int .i64 (kd : Int)) := fun wx hx => (hx.cell (p := ⟨b3, o3 + a * 2, none⟩) hb3).trans k3
                    have hai : (a : Int) < (k : Int) := by omega
                    have haj : (a : Int) < (j : Int) + 1 := by omega
                    have haL : (a : Int) < (L : Int) := by omega
                    have hss : ((sa : Int) != (sa : Int)) = false := by simp
                    have hkk : ((kd : Int) != (kd : Int)) = false := by simp
                    replace hY := hid hY
                    have hx0 : Ext wr wr := Ext.refl wr
                    clear hce0 hce1 hce2 hce3 hy hv t1 t2 t3 r1 r2 hrow hkd0 k0 k1 k2 k3 k4 hLr hdj' hdj hly ry1 ry2 rz3 hst
                    go_wp2
                    refine wp_region_free (by kernel_rfl) (by kernel_rfl) ?_
                    repeat
                      (refine walk_q ?_
                       apply Exists.intro
                       refine ⟨fun vs wx hw hd => ?_, ?_⟩
                       rotate_left
                       simp only [Act.put, Nat.reduceAdd, List.setIfInBounds_toArray, List.set_cons_succ, List.set_cons_zero]
                       rotate_right
                       focus
                         (try simp [updE, Region.binds] at hd)
                         go_simp
                         try go_bits
                         try (rw [if_pos (by omega)]; try go_simp; try go_bits)
                         try (rw [if_neg (by omega)]; try go_simp; try go_bits)
                         first
                           | rfl
                           | (fail))
                    refine walk_end ?_
                    intro vs wx hw hv
                    simp [AllE, updE] at hv
                    simp only [hv]
                    clear hv
                    have hb5 := hby.trans (Below.mono hw hby.size)
                    clear q0 q1 q2 q3 q4 c1 c2'
                    go_wp2
                    go_roundw
                    case rel => exact ⟨a + 1, by go_num, by omega, hb5⟩
                    case measure => simp [intOf]; omega
                  · obtain rfl : a = k := by omega
                    have hbz := hbw4.trans (hby.mono hbw4.size)
                    go_wp2_with (go_at_call 10; refine (awake_any _).mono ?_; rintro e w5 ⟨rfl, hb5⟩)
                    go_ret
                    exact ⟨rfl, hbz.trans (hb5.mono hbz.size)⟩
end Go.Proofs.Ytcmbdbphddokmaa
