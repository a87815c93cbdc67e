/-
  THE WALK of FrameAll.
-/
import Derived.Test.YtcmbdbphddokmaaFrmK
import Derived.Test.YtcmbdbphddokmaaPlainAll
import Derived.Test.YtcmbdbphddokmaaFree2
import Derived.Laws.IdiomStrings
import Derived.Deep.DeepCutAuto
import Derived.Deep.CutBlock
namespace Go.Proofs.Ytcmbdbphddokmaa
open Go.RowKit

/-- '[]byte(s)': new memory that reads as s. -/
theorem run_conv_bytes {P : Program} (w : World) (src dst e : TypeId) (hs : P.underlying src = some .string) (hd : P.underlying dst = some (.slice e)) (he : P.underlying e = some (.int .u8)) (l : List UInt8) (hl : l.length ≤ 1000000) :
    ∃ c w', (convert src dst (.string ⟨l.toArray⟩)).run P w = .ok (.slice (some ⟨w.heap.size, 0, none⟩) l.length c) w' ∧ Rd w' (some ⟨w.heap.size, 0, none⟩) (cb l) ∧ Below w.heap.size w w' ∧ l.length ≤ c ∧ c ≤ maxLen := by
  have h := run_bytes_of_string (P := P) w src dst e ⟨l.toArray⟩ hs hd he
  have hsz : ByteArray.size ⟨l.toArray⟩ = l.length := by simp [ByteArray.size]
  refine ⟨_, _, h, ?_, (Below.refl _ w).drew.alloc (Nat.le_refl _) _, ?_, ?_⟩
  · intro hp
    refine ⟨w.heap.size, 0, rfl, by simp, fun j u hu => ?_⟩
    have hj : j < l.length := by
      rcases Nat.lt_or_ge j l.length with h | h
      · exact h
      · rw [List.getElem?_eq_none (by rw [cb_length]; exact h)] at hu; cases hu
    rw [cb_get l j hj] at hu
    injection hu with hu
    subst hu
    have hb := bytesRow_at ⟨l.toArray⟩ (grownCap w (ByteArray.size ⟨l.toArray⟩) 0 e) j (by simpa using hj)
    simp only [World.cell?, World.alloc, World.drew, Array.getElem?_push, Nat.zero_add]
    simp only [if_true]
    rw [hb]
    rfl
  · have := grownCap_ge w (ByteArray.size ⟨l.toArray⟩) 0 e
    omega
  · exact grownCap_le_maxLen w _ 0 e (by unfold maxLen; omega)

/-- The kind that a number of the kinds' row stands for. -/
def kdF (z : Int) : Nat := (bits BinOp.and IntKind.i64 z 127).toNat + 1
theorem kdF_spec (z : Int) : ∃ r : Nat, r ≤ 127 ∧ bits BinOp.and IntKind.i64 z 127 = (r : Int) ∧ kdF z = r + 1 := by
  obtain ⟨r, hr, hb⟩ := i64_mask z 127 (by omega)
  have hb : bits BinOp.and IntKind.i64 z 127 = (r : Int) := hb
  exact ⟨r, hr, hb, by unfold kdF; rw [hb]; rfl⟩

set_option maxRecDepth 100000 in
set_option maxHeartbeats 8000000 in
theorem frameAll_walk (B : Option Addr) (L d : Nat) (ls : List (List UInt8)) (A1 : Option Addr) (K c1 : Nat) (zs : List Int) (A2 : Option Addr) (T c2 : Nat) (tl : List UInt8) (z3 z4 : Int) (w : World) (hP : IsRows w B L d ls)
    (hzl : zs.length = K) (hzr : Rd w A1 (zs.map (.int .i64))) (hKm : K ≤ 9223372036854775807) (htl : tl.length = T) (htr : Rd w A2 (cb tl)) (hTm : T ≤ 9223372036854775807) :
    Calls Try.prog 7 #[.slice B L d, .slice A1 K c1, .slice A2 T c2, .int .i64 z3, .int .i64 z4] w (Yes w) := by
  obtain ⟨hM, hBn, hMd, hdm, vs, hvl, hvr, hrow⟩ := hP
  obtain ⟨i0, hi0, hz0, hz1, hz2⟩ := info_parts info_int
  unfold maxLen at hdm
  obtain ⟨M, hM1, hM2, hM3, hM4⟩ : ∃ M, M ≤ L ∧ M ≤ K ∧ M ≤ 10 ∧ (M < L → M < K → M = 10) := ⟨min (min L K) 10, by omega, by omega, by omega, by omega⟩
  obtain ⟨rs, hrs⟩ : ∃ rs, mkB (fun i => kdF (zs.getD i 0)) (ls.take M) = rs := ⟨_, rfl⟩
  have hrl : rs.length = M := by rw [← hrs, mkB_length, List.length_take]; omega
  have hrg : ∀ i (h1 : i < M) (h2 : i < rs.length) (h3 : i < ls.length) (h4 : i < zs.length), rs[i] = (kdF zs[i], ls[i]) := by
    intro i h1 h2 h3 h4
    subst hrs
    rw [mkB_get _ _ i (by rw [List.length_take]; omega), List.getElem_take, List.getD_eq_getElem?_getD, List.getElem?_eq_getElem h4]
    rfl
  replace hM := hid hM
  replace hvl := hid hvl
  replace hrl := hid hrl
  replace hrg := hid hrg
  replace hM4 := hid hM4
  replace hzl := hid hzl
  replace htl := hid htl
  clear hrs
  go_enter Try.func7, Try.ntmps7
  go_upto_block 0 with fail
  go_cut [11, 12, 13, 14] (fun s11 s12 s13 s14 wx => Hid (GoodB rs) ∧ ∃ (Q : Nat) (S : List UInt8) (A3 : Option Addr) (c3 : Nat), s11 = .string ⟨S.toArray⟩ ∧ Hid (framesB rs = S) ∧ S.length = Q ∧ Q ≤ 2120 ∧ s12 = .slice A3 M c3 ∧ s13 = .int .i64 M ∧
    wx.ownsRow w.heap.size 3 1 (.slice A3 M c3) M (i64s (begs rs M)) ∧ Below w.heap.size w wx)
  case first =>
    go_wp2_with fail
    go_loopw [11, 12, 13, 14] (fun s11 s12 s13 i wr => ∃ (j q : Nat) (S : List UInt8) (A3 : Option Addr) (c3 : Nat), i = .int .i64 j ∧ j ≤ M ∧ s11 = .string ⟨S.toArray⟩ ∧ Hid (framesB (rs.take j) = S) ∧ Hid (S.length = q) ∧ q ≤ 212 * j ∧ s12 = .slice A3 j c3 ∧ s13 = .int .i64 j ∧ Hid (GoodB (rs.take j)) ∧
      wr.ownsRow w.heap.size 3 1 (.slice A3 j c3) j (i64s (begs rs j)) ∧ Below w.heap.size w wr)
      (fun _ _ _ i _ => M - (intOf i).toNat)
    case atStart => exact ⟨0, 0, [], none, 0, rfl, by omega, rfl, hid rfl, hid rfl, by omega, rfl, rfl, hid (fun r hr => by simp at hr), World.ownsRow_nil _ _ _ _, Below.refl _ w⟩
    case round =>
      obtain ⟨j, q, S, A3, c3, rfl, hj, rfl, hS, hq, hqb, rfl, rfl, hgood, hown3, hbw⟩ := hrel
      by_cases hlt : j < M
      · have hjl : j < ls.length := by rw [hM.out]; omega
        have hjz : j < zs.length := by rw [hzl.out]; omega
        have hjr : j < rs.length := by rw [hrl.out]; exact hlt
        obtain ⟨Aj, cj, hv, hdj, hAj, hjc, hcjm⟩ := hrow j ls[j] (List.getElem?_eq_getElem hjl)
        obtain ⟨b, o, rfl, hbo, hce⟩ := hvr (by rw [hvl.out]; omega)
        have hc0 := hce j _ hv
        obtain ⟨b1, o1, rfl, hbo1, hce1⟩ := hzr (by rw [List.length_map]; omega)
        have hc1 := hce1 j (.int .i64 zs[j]) (by rw [List.getElem?_map, List.getElem?_eq_getElem hjz]; rfl)
        have hck := (hbw.cell (p := ⟨b, o + j, none⟩) hbo).trans hc0
        have hck1 := (hbw.cell (p := ⟨b1, o1 + j, none⟩) hbo1).trans hc1
        have hrj := hrg.out j hlt hjr hjl hjz
        have hfs := framesB_take_succ rs j hjr
        have hss : startB rs j = q := by unfold startB; rw [hS.out, hq.out]
        rw [hrj] at hfs
        simp only [] at hfs
        rw [hS.out] at hfs
        obtain ⟨r, hr1, hr2, hr3⟩ := kdF_spec zs[j]
        have hgn : ls[j].length ≤ 200 → GoodB (rs.take (j + 1)) := fun h r hr => by
          rw [List.take_succ_eq_append_getElem hjr] at hr
          rcases List.mem_append.1 hr with h1 | h1
          · exact hgood.out r h1
          · simp at h1
            subst h1
            rw [hrj]
            exact ⟨by show 1 ≤ kdF zs[j]; omega, by show kdF zs[j] ≤ 250; omega, by show ls[j].length ≤ 70000; omega⟩
        rw [hr3] at hfs
        obtain ⟨z, hz⟩ : ∃ z, zs[j] = z := ⟨_, rfl⟩
        rw [hz] at hc1 hck1 hr2
        obtain ⟨x, hx⟩ : ∃ x, ls[j] = x := ⟨_, rfl⟩
        rw [hx] at hv hc0 hdj hck hjc hfs hgn
        obtain ⟨X, hX⟩ : ∃ X, x.length = X := ⟨_, rfl⟩
        rw [hX] at hv hc0 hck hjc hgn
        have hXm : X ≤ 9223372036854775807 := by unfold maxLen at hcjm; omega
        have hjL : (j : Int) < (L : Int) := by omega
        have hjK : (j : Int) < (K : Int) := by omega
        have hj6 : (j : Int) < 10 := by omega
        replace hgn := hid hgn
        replace hX := hid hX
        replace hz := hid hz
        replace hss := hid hss
        clear hce hrow hx hv hrj hce1 hr3
        by_cases h3 : 200 < X
        · clear hfs
          go_wp2_with (go_at_call 10; refine (awake_any _).mono ?_; rintro e w3 ⟨rfl, hb3⟩)
          go_ret
          exact ⟨rfl, hbw.trans (hb3.mono hbw.size)⟩
        · obtain ⟨kd, hkd0⟩ : ∃ kd, r + 1 = kd := ⟨_, rfl⟩
          have hkd : (r : Int) + 1 = (kd : Int) := by omega
          rw [hkd0] at hfs
          have hkdm : kd ≤ 250 := by omega
          have hfl : (frameB kd x).length = X + 12 := by rw [frameB_length, hX.out]
          have hadd := run_add_lists (P := Try.prog) S (frameB kd x) (by rw [hq.out, hfl]; omega)
          have hSl := hq.out
          have hws := hbw.size
          replace hkd0 := hid hkd0
          replace hfl := hid hfl
          replace hfs := hid hfs
          go_wp2_with (at_builtin; refine wpList_app _ rfl (.tmp 53) (.tmp 56) 40 rfl w.heap.size 3 i0 (.int .i64 0) 8 Try.underlying40 hi0 hz0 hz1 hz2 rfl _ _ _ _ rfl (hown3.alloc _) _ _ _ [.int .i64 (q : Int)] rfl (Rd.one _ _ _) rfl (one_int _ _) (by unfold maxLen; omega) (by omega) (by simp; omega) ?_; intro A5 c5 w5 hown5 hg5 hb5 _; have hbw5 := (hbw.alloc hws _).trans hb5)
          have cw1 : ∀ wx, Ext w5 wx → (convert 22 9 (.slice Aj X cj)).run Try.prog wx = .ok (.string ⟨x.toArray⟩) wx :=
            fun wx hx => run_strn wx 22 9 5 Try.underlying22 Try.underlying5 Try.underlying9 Aj X x cj hX.out (hdj.below (hbw5.trans (Below.mono hx hbw5.size)))
          have hs5 := hbw5.size
          have q0 : ∀ wx, Ext w5 wx → wx.cell? ⟨b, o + j, none⟩ = some (.slice Aj X cj) := fun wx hx => ((hbw5.trans (Below.mono hx hbw5.size)).cell (p := ⟨b, o + j, none⟩) hbo).trans hc0
          have q1 : ∀ wx, Ext w5 wx → wx.cell? ⟨b1, o1 + j, none⟩ = some (.int .i64 z) := fun wx hx => ((hbw5.trans (Below.mono hx hbw5.size)).cell (p := ⟨b1, o1 + j, none⟩) hbo1).trans hc1
          have hx0 : Ext w5 w5 := Ext.refl w5
          clear hck hck1 hc0 hc1
          refine wp_region_free2 (by kernel_rfl) (by kernel_rfl) ?_
          repeat
            (refine walk_q ?_
             apply Exists.intro
             refine ⟨fun vs wx hw hd => ?_, ?_⟩
             rotate_left
             simp only [Act.put, Nat.reduceAdd, List.setIfInBounds_toArray, List.set_cons_succ, List.set_cons_zero]
             rotate_right
             focus
               (try simp [updE, Region.binds] at hd)
               go_simp
               try go_bits
               try (rw [if_pos (by omega)]; try go_simp; try go_bits)
               try (rw [if_neg (by omega)]; try go_simp; try go_bits)
               first
                 | rfl
                 | (go_at_call 14; refine (refFrame_any kd X x _ hX.out (by omega) (by omega)).mono ?_; rintro e w3 ⟨rfl, hb3⟩; exact ⟨rfl, hb3⟩))
          refine walk_end ?_
          intro vs wx hw hv
          simp [AllE, updE] at hv
          simp only [hv]
          clear hv
          have hb6 := hbw5.trans (Below.mono hw hbw5.size)
          have hown6 := hown5.kept (⟨hw.os, hw.tape, hw.output, hw.size, fun k hk _ => hw.block k hk⟩ : w5.grownBy wx none) (own_neN hown5)
          clear cw1 q0 q1
          go_wp2
          go_roundw
          case rel =>
            refine ⟨j + 1, q + X + 12, S ++ frameB kd x, A5, c5, by go_num, by omega, rfl, hfs, hid (by rw [List.length_append, hq.out, hfl.out]; omega), by omega, rfl, by go_num, hid (hgn.out (by omega)), ?_, hb6⟩
            rw [begs_succ, i64s_snoc, hss.out]
            exact hown6
          case measure => simp [intOf]; omega
      · obtain rfl : j = M := by omega
        have hrt : rs.take j = rs := List.take_of_length_le (by rw [hrl.out]; exact Nat.le_refl _)
        rw [hrt] at hS hgood
        by_cases hc : j < L
        · by_cases hc2 : j < K
          · have hj10 : (10 : Int) ≤ (j : Int) := by have := hM4.out hc hc2; omega
            have hjL : (j : Int) < (L : Int) := by omega
            have hjK : (j : Int) < (K : Int) := by omega
            go_wp2_with fail
            go_meet
            case rel => exact ⟨hgood, q, S, A3, c3, rfl, hS, hq.out, by omega, rfl, rfl, hown3, hbw⟩
          · have hjL : (j : Int) < (L : Int) := by omega
            have hjK : ¬ (j : Int) < (K : Int) := by omega
            go_wp2_with fail
            go_meet
            case rel => exact ⟨hgood, q, S, A3, c3, rfl, hS, hq.out, by omega, rfl, rfl, hown3, hbw⟩
        · have hjL : ¬ (j : Int) < (L : Int) := by omega
          go_wp2_with fail
          go_meet
          case rel => exact ⟨hgood, q, S, A3, c3, rfl, hS, hq.out, by omega, rfl, rfl, hown3, hbw⟩
  case rest =>
    obtain ⟨hgd, Q, S, A3, c3, rfl, hS, hSl, hQ, rfl, rfl, hown3, hbw⟩ := hcut
    have hsz := hbw.size
    have htx := htr.below hbw
    by_cases hT2 : 200 < T
    · clear hSl
      go_wp2_with (go_at_call 10; refine (awake_any _).mono ?_; rintro e w3 ⟨rfl, hb3⟩)
      go_ret
      exact ⟨rfl, hbw.trans (hb3.mono hbw.size)⟩
    · have hconv := run_strn wc 22 9 5 Try.underlying22 Try.underlying5 Try.underlying9 A2 T tl c2 htl.out htx
      have hadd := run_add_lists (P := Try.prog) S tl (by rw [hSl, htl.out]; omega)
      obtain ⟨U, hU⟩ : ∃ U, S ++ tl = U := ⟨_, rfl⟩
      have hUl : U.length = Q + T := by rw [← hU, List.length_append, hSl, htl.out]
      obtain ⟨N, hN⟩ : ∃ N, Q + T = N := ⟨_, rfl⟩
      rw [hN] at hUl
      rw [hU] at hadd
      have hN2 : N ≤ 2320 := by omega
      obtain ⟨k, hk, r, hr1, hb1, hm1, hm1'⟩ := mod_bits z3 N (by omega)
      obtain ⟨cv, wv, hcvr, hcvd, hcvb, hcv1, hcv2⟩ := run_conv_bytes (P := Try.prog) wc 9 22 5 Try.underlying9 Try.underlying22 Try.underlying5 U (by omega)
      rw [hUl] at hcvr hcv1
      unfold maxLen at hcv2
      obtain ⟨R, hR⟩ : ∃ R, N - k = R := ⟨_, rfl⟩
      have hRi : (N : Int) - (k : Int) = (R : Int) := by omega
      have hRc : (R : Int) ≤ (cv : Int) := by omega
      replace hU := hid hU
      replace hN := hid hN
      replace hSl := hid hSl
      obtain ⟨bl, hbl⟩ : ∃ bl, U.take R = bl := ⟨_, rfl⟩
      have hbll : bl.length = R := by rw [← hbl, List.length_take, hUl]; omega
      have hrd : Rd wv (some ⟨wc.heap.size, 0, none⟩) (cb bl) := by have h := hcvd.take R; rwa [cb_take, hbl] at h
      have rd3 := (Rd.of_own hown3).below hcvb
      have hbwv := hbw.trans (hcvb.mono hbw.size)
      have hcap3 := own_cap hown3
      have hR2 : R ≤ 2320 := by omega
      replace hbl := hid hbl
      replace hbll := hid hbll
      go_upto_block 2 with fail
      clear hcvr hadd hconv hb1 hm1 hm1' hown3 hcvd hcvb htx hRi hbw hsz
      replace hUl := hid hUl
      generalize wc.heap.size = ga at *
      go_cut [16, 17, 18] (fun s16 s17 s18 wx => ∃ (A4 : Option Addr) (W c4 : Nat), s16 = .int .i64 (endF bl : Int) ∧ s17 = .int .i64 (whyF bl : Int) ∧ s18 = .slice A4 W c4 ∧ Hid ((rowsF bl).length = W) ∧
        wx.ownsRow wv.heap.size 3 1 (.slice A4 W c4) W (i64s ((rowsF bl).map (·.1))) ∧ Below wv.heap.size wv wx)
      case first =>
        go_wp2_with fail
        go_loopw [16, 17, 18] (fun s16 s17 s18 wr => ∃ (k : Nat) (pre : List (Nat × Nat × List UInt8)) (A4 : Option Addr) (c4 : Nat), s16 = .int .i64 k ∧ k ≤ R ∧ s17 = .int .i64 0 ∧ s18 = .slice A4 pre.length c4 ∧ Hid (rowsF bl = pre ++ restF bl k) ∧ Hid (endG bl k = endF bl) ∧ 12 * pre.length ≤ k ∧
          wr.ownsRow wv.heap.size 3 1 (.slice A4 pre.length c4) pre.length (i64s (pre.map (·.1))) ∧ Below wv.heap.size wv wr) (fun s16 _ _ _ => R - (intOf s16).toNat)
        case atStart => exact ⟨0, [], none, 0, rfl, Nat.zero_le _, rfl, rfl, hid rfl, hid rfl, by simp, World.ownsRow_nil _ _ _ _, Below.refl _ _⟩
        case round =>
          obtain ⟨k, pre, A4, c4, rfl, hk, rfl, rfl, hpre, hend, hpl, hown, hbv⟩ := hrel
          have hvs := hbv.size
          by_cases hlt : k < R
          · have hkl : k < bl.length := by rw [hbll.out]; exact hlt
            obtain ⟨t, ht⟩ : ∃ t, takeR (bl.drop k) = t := ⟨_, rfl⟩
            have htF := takeF_of bl k (by omega)
            rw [ht] at htF
            have hcs := run_strn wr 22 9 5 Try.underlying22 Try.underlying5 Try.underlying9 (some ⟨ga, 0, none⟩) R bl cv hbll.out (hrd.below hbv)
            obtain ⟨kd, bd, sz, er⟩ := t
            simp only [] at htF
            by_cases he : er = 0
            · subst he
              rw [if_pos rfl] at htF
              have hst := restF_step bl k hkl (by rw [ht])
              have heg := endG_step bl k hkl (by rw [ht])
              rw [ht] at hst heg
              have hsz := takeR_ok (bl.drop k) (by rw [ht])
              rw [ht, List.length_drop, hbll.out] at hsz
              simp only at hsz
              have hkI : (k : Int) < (R : Int) := by omega
              replace ht := hid ht
              replace hst := hid hst
              replace heg := hid heg
              replace htF := hid htF
              go_wp2_with fail
              refine (unF_in R bl k _ hbll.out (by unfold maxLen; omega) (by omega)).mono ?_
              rintro e w1 ⟨rfl, hb1⟩
              rw [htF.out]
              have hown1 := hown.kept (below_grownN hb1) (own_neN hown)
              have hbv1 := hbv.trans (hb1.mono hbv.size)
              have hws := hbv1.size
              obtain ⟨nx, hnx⟩ : ∃ nx, k + sz = nx := ⟨_, rfl⟩
              rw [hnx]
              replace hnx := hid hnx
              go_wp2_with (at_builtin; refine wpList_app _ rfl (.tmp 110) (.tmp 112) 40 rfl wv.heap.size 3 i0 (.int .i64 0) 8 Try.underlying40 hi0 hz0 hz1 hz2 rfl _ _ _ _ rfl (hown1.alloc _) _ _ _ [.int .i64 (k : Int)] rfl (Rd.one _ _ _) rfl (one_int _ _) (by unfold maxLen; omega) (by omega) (by simp; omega) ?_; intro A5 c5 w5 hown5 hg5 hb5 _)
              go_roundw
              case rel => exact ⟨nx, pre ++ [(k, kd, bd)], A5, c5, rfl, by rw [← hnx.out]; omega, rfl, by simp, hid (by rw [hpre.out, hst.out, hnx.out]; simp), hid (by rw [← hend.out, heg.out, hnx.out]), by rw [List.length_append, ← hnx.out]; simp; omega, by rw [List.map_append, List.map_singleton, i64s_snoc, List.length_append]; exact hown5, (hbv1.alloc hws _).trans hb5⟩
              case measure => simp [intOf]; have := hnx.out; omega
            · rw [if_neg he] at htF
              have hst := restF_bad bl k (by rw [ht]; exact he)
              have heg := endG_bad bl k (by rw [ht]; exact he)
              have hkI : (k : Int) < (R : Int) := by omega
              have heb : ((er : Int) != 0) = true := by simp; omega
              have hE : endF bl = k := by rw [← hend.out, heg]
              have hWy : whyF bl = er := by
                unfold whyF
                rw [hE, if_neg (by omega), ht]
              have hRw : rowsF bl = pre := by rw [hpre.out, hst, List.append_nil]
              replace ht := hid ht
              replace htF := hid htF
              replace hE := hid hE
              replace hWy := hid hWy
              replace hRw := hid hRw
              clear hst heg
              go_wp2_with fail
              refine (unF_in R bl k _ hbll.out (by unfold maxLen; omega) (by omega)).mono ?_
              rintro e w1 ⟨rfl, hb1⟩
              rw [htF.out]
              have hown1 := hown.kept (below_grownN hb1) (own_neN hown)
              have hbv1 := hbv.trans (hb1.mono hbv.size)
              go_wp2_with fail
              go_meet
              case rel => exact ⟨A4, pre.length, c4, by rw [hE.out], by rw [hWy.out], rfl, hid (by rw [hRw.out]), by rw [hRw.out]; exact hown1, hbv1⟩
          · obtain rfl : k = R := by omega
            have hst := restF_end bl k (by rw [hbll.out]; exact Nat.le_refl _)
            have heg := endG_end bl k (by rw [hbll.out]; exact Nat.le_refl _)
            have hE : endF bl = k := by rw [← hend.out, heg]
            have hWy : whyF bl = 0 := by
              unfold whyF
              rw [hE, if_pos (by rw [hbll.out])]
            have hRw : rowsF bl = pre := by rw [hpre.out, hst, List.append_nil]
            replace hE := hid hE
            replace hWy := hid hWy
            replace hRw := hid hRw
            clear hst heg
            go_wp2_with fail
            go_meet
            case rel => exact ⟨A4, pre.length, c4, by rw [hE.out], by rw [hWy.out]; rfl, rfl, hid (by rw [hRw.out]), by rw [hRw.out]; exact hown, hbv⟩
      case rest =>
        obtain ⟨A4, W, c4, rfl, rfl, rfl, hW, hown4, hbv⟩ := hcut
        have hbw2 := hbwv.trans (hbv.mono hbwv.size)
        have rdb := hrd.below hbv
        have rdA := rd3.below hbv
        have rdW := Rd.of_own hown4
        have hcap4 := own_cap hown4
        have hWR : 12 * W ≤ R := by have := rowsF_length bl; rw [hW.out, hbll.out] at this; exact this
        obtain ⟨m7, hm71, hm72⟩ := i64_mask z4 7 (by omega)
        have hm72 : bits BinOp.and IntKind.i64 z4 7 = (m7 : Int) := hm72
        obtain ⟨Y, hY⟩ : ∃ Y, min m7 W = Y := ⟨_, rfl⟩
        have hmin1 : (if (W : Int) < (m7 : Int) then (W : Int) else (m7 : Int)) = (Y : Int) := by split <;> omega
        have hmin2 : (if W < m7 then (W : Int) else (m7 : Int)) = (Y : Int) := by split <;> omega
        replace hY := hid hY
        clear hrd rd3 hown4 hbv hbwv
        go_wp2_with fail
        refine (told_any _ R bl cv 1000 _ hbll.out rdb (fun h => by cases h) (by omega) (by omega)).mono ?_
        rintro e w3 ⟨xs, A5, c5, A6, c6, hxs, rfl, hx1, hx2, hx3, hb3⟩
        rw [List.take_of_length_le (by rw [hW.out]; omega)] at hxs
        have hxl : xs.length = W := by
          have h := congrArg List.length hxs
          rwa [List.length_map, hW.out] at h
        rw [hxl] at hx1 hx2 ⊢
        have hbw3 := hbw2.trans (hb3.mono hbw2.size)
        have rx1 := Rd.of_own hx1
        have hcx1 := own_cap hx1
        have hcx2 := owns_cap hx2
        have rx2 := Rd.of_owns hx2
        have rdb3 := rdb.below hb3
        have rdA3 := rdA.below hb3
        have rdW3 := rdW.below hb3
        have hly : ∀ y ∈ xs, Rd w3 y.addr (cb y.body) := fun y hy => (hx3 y hy).rd
        replace hxs := hid hxs
        replace hxl := hid hxl
        clear hx1 hx2 hx3 rdb rdA rdW hb3 hbw2
        go_wp2_with fail
        refine (told_any _ R bl cv m7 _ hbll.out rdb3 (fun h => by cases h) (by omega) (by omega)).mono ?_
        rintro e w4 ⟨ys, A7, c7, A8, c8, hys, rfl, hy1, hy2, hy3, hb4⟩
        have hyl : ys.length = Y := by
          have h := congrArg List.length hys
          rw [List.length_map, List.length_take, hW.out, hY.out] at h
          exact h
        rw [hyl] at hy1 hy2 ⊢
        have hcy1 := own_cap hy1
        have hcy2 := owns_cap hy2
        have hbw4 := hbw3.trans (hb4.mono hbw3.size)
        have rdb4 := rdb3.below hb4
        have rdA4 := rdA3.below hb4
        have rdW4 := rdW3.below hb4
        have rx14 := rx1.below hb4
        have rx24 := rx2.below hb4
        have hly4 : ∀ y ∈ xs, Rd w4 y.addr (cb y.body) := fun y hy => (hly y hy).below hb4
        clear hy1 hy2 hy3 hys hyl rdb3 rdA3 rdW3 rx1 rx2 hly hb4 hbw3
        go_wp2_with fail
        refine (end_any _ R bl cv _ hbll.out rdb4 (fun h => by cases h) (by omega) (by unfold maxLen; omega) (by omega)).mono ?_
        rintro e w5 ⟨rfl, hb5⟩
        obtain ⟨E, hE⟩ : ∃ E, endF bl = E := ⟨_, rfl⟩
        obtain ⟨V, hV⟩ : ∃ V, whyF bl = V := ⟨_, rfl⟩
        rw [hE, hV]
        have hbw5 := hbw4.trans (hb5.mono hbw4.size)
        have rdA5 := rdA4.below hb5
        have rdW5 := rdW4.below hb5
        have rx15 := rx14.below hb5
        have rx25 := rx24.below hb5
        have hly5 : ∀ y ∈ xs, Rd w5 y.addr (cb y.body) := fun y hy => (hly4 y hy).below hb5
        have n1 : ((W : Int) != (W : Int)) = false := by simp
        have n2 : ((Y : Int) != (Y : Int)) = false := by simp
        have n3 : ((E : Int) != (E : Int)) = false := by simp
        have n4 : ((V : Int) != (V : Int)) = false := by simp
        replace hE := hid hE
        replace hV := hid hV
        clear rdb4 rdA4 rdW4 rx14 rx24 hly4 hb5 hbw4
        go_wp2_with fail
        have hed : decide ((200 : Int) < (T : Int)) = false := decide_eq_false (by omega)
        simp only [hed]
        clear n1 n2 n3 n4 hmin1 hmin2
        go_loopw [29] (fun i wy => ∃ p : Nat, i = .int .i64 p ∧ p ≤ W ∧ Below w5.heap.size w5 wy) (fun i _ => W - (intOf i).toNat)
        case atStart => exact ⟨0, rfl, Nat.zero_le _, Below.refl _ w5⟩
        case round =>
          obtain ⟨p, rfl, hp, hby⟩ := hrel
          have hbz := hbw5.trans (hby.mono hbw5.size)
          by_cases hpW : p < W
          · have hpr : p < (rowsF bl).length := by rw [hW.out]; exact hpW
            have hpx : p < xs.length := by rw [hxl.out]; exact hpW
            have hrow1 : xs[p].row = (rowsF bl)[p] := by
              have h1 : (xs.map FR.row)[p]? = (rowsF bl)[p]? := by rw [hxs.out]
              rw [List.getElem?_map, List.getElem?_eq_getElem hpx, List.getElem?_eq_getElem hpr] at h1
              simpa using h1
            obtain ⟨b1, o1, rfl, hb1, hce1⟩ := (rx15.below hby) (by rw [i64s_length, List.length_map, hxl.out]; omega)
            have k1 := hce1 p _ (i64s_get _ p (by rw [List.length_map]; exact hpx))
            rw [List.getElem_map] at k1
            obtain ⟨b2, o2, rfl, hb2, hce2⟩ := (rdW5.below hby) (by rw [i64s_length, List.length_map, hW.out]; omega)
            have k2 := hce2 p _ (i64s_get _ p (by rw [List.length_map]; exact hpr))
            rw [List.getElem_map, ← hrow1] at k2
            have k2 : wr.cell? ⟨b2, o2 + p, none⟩ = some (.int .i64 (xs[p].place : Int)) := k2
            have hpi : (p : Int) < (W : Int) := by omega
            have hx0 : Ext wr wr := Ext.refl wr
            by_cases hpM : p < M
            · have hprs : p < rs.length := by rw [hrl.out]; exact hpM
              have hpl : p < ls.length := by rw [hM.out]; omega
              have hpz : p < zs.length := by rw [hzl.out]; omega
              have hcut2 := rowsF_cut rs tl R hgd.out p hprs (by rw [hS.out, hU.out, hbl.out]; exact hpr)
              rw [hS.out, hU.out, hbl.out, List.getElem?_eq_getElem hpr, ← hrow1] at hcut2
              injection hcut2 with hcut2
              have t1 : xs[p].place = startB rs p := congrArg (·.1) hcut2
              have t2 : xs[p].kind = rs[p].1 := congrArg (·.2.1) hcut2
              have t3 : xs[p].body = rs[p].2 := congrArg (·.2.2) hcut2
              rw [hrg.out p hpM hprs hpl hpz] at t2 t3
              simp only [] at t2 t3
              obtain ⟨r8, hr81, hr82, hr83⟩ := kdF_spec zs[p]
              rw [hr83] at t2
              obtain ⟨Aj, cj, hv, hdj, hAj, hjc, hcjm⟩ := hrow p ls[p] (List.getElem?_eq_getElem hpl)
              obtain ⟨b0, o0, rfl, hb0, hce0⟩ := (hvr.below hbz) (by rw [hvl.out]; omega)
              have k0 := hce0 p _ hv
              obtain ⟨b4, o4, rfl, hb4, hce4⟩ := (hzr.below hbz) (by rw [List.length_map]; omega)
              have k5 := hce4 p (.int .i64 zs[p]) (by rw [List.getElem?_map, List.getElem?_eq_getElem hpz]; rfl)
              obtain ⟨b5, o5, rfl, hb5, hce5⟩ := (rdA5.below hby) (by rw [i64s_length, begs_length]; omega)
              have k6 := hce5 p _ (begs_get rs M p hpM)
              rw [← t1] at k6
              obtain ⟨b3, o3, rfl, hb3, hce3⟩ := (rx25.below hby) (by rw [recs_length, hxl.out]; omega)
              obtain ⟨r1, r2⟩ := recs_get xs p hpx
              have k3 := hce3 _ _ r1
              have k4 := hce3 _ _ r2
              rw [← Nat.add_assoc] at k4
              have hLr := (hly5 _ (List.getElem_mem hpx)).below hby
              rw [t3] at hLr k4
              rw [t2] at k3
              generalize xs[p].addr = Ax at k4 hLr
              generalize xs[p].cap = cx at k4
              generalize xs[p].place = pl at k1 k2 k6
              obtain ⟨y, hy⟩ : ∃ y, ls[p] = y := ⟨_, rfl⟩
              rw [hy] at k0 k4 hLr hdj hjc
              have hdj' := hdj.below hbz
              obtain ⟨X, hX⟩ : ∃ X, y.length = X := ⟨_, rfl⟩
              rw [hX] at k0 k4 hjc
              obtain ⟨z, hz⟩ : ∃ z, zs[p] = z := ⟨_, rfl⟩
              rw [hz] at k5 hr82
              have cw1 : ∀ wx, Ext wr wx → (convert 22 9 (.slice Ax X cx)).run Try.prog wx = .ok (.string ⟨y.toArray⟩) wx :=
                fun wx hx => run_strn wx 22 9 5 Try.underlying22 Try.underlying5 Try.underlying9 Ax X y cx hX (hLr.below hx)
              have cw2 : ∀ wx, Ext wr wx → (convert 22 9 (.slice Aj X cj)).run Try.prog wx = .ok (.string ⟨y.toArray⟩) wx :=
                fun wx hx => run_strn wx 22 9 5 Try.underlying22 Try.underlying5 Try.underlying9 Aj X y cj hX (hdj'.below hx)
              obtain ⟨kd, hkd0⟩ : ∃ kd, r8 + 1 = kd := ⟨_, rfl⟩
              have hkd : (r8 : Int) + 1 = (kd : Int) := by omega
              rw [hkd0] at k3
              have q0 : ∀ wx, Ext wr wx → wx.cell? ⟨b0, o0 + p, none⟩ = some (.slice Aj X cj) := fun wx hx => (hx.cell (p := ⟨b0, o0 + p, none⟩) hb0).trans k0
              have q1 : ∀ wx, Ext wr wx → wx.cell? ⟨b1, o1 + p, none⟩ = some (.int .i64 (pl : Int)) := fun wx hx => (hx.cell (p := ⟨b1, o1 + p, none⟩) hb1).trans k1
              have q2 : ∀ wx, Ext wr wx → wx.cell? ⟨b2, o2 + p, none⟩ = some (.int .i64 (pl : Int)) := fun wx hx => (hx.cell (p := ⟨b2, o2 + p, none⟩) hb2).trans k2
              have q3 : ∀ wx, Ext wr wx → wx.cell? ⟨b3, o3 + p * 2, none⟩ = some (.int .i64 (kd : Int)) := fun wx hx => (hx.cell (p := ⟨b3, o3 + p * 2, none⟩) hb3).trans k3
              have q4 : ∀ wx, Ext wr wx → wx.cell? ⟨b3, o3 + p * 2 + 1, none⟩ = some (.slice Ax X cx) := fun wx hx => (hx.cell (p := ⟨b3, o3 + p * 2 + 1, none⟩) hb3).trans k4
              have q5 : ∀ wx, Ext wr wx → wx.cell? ⟨b4, o4 + p, none⟩ = some (.int .i64 z) := fun wx hx => (hx.cell (p := ⟨b4, o4 + p, none⟩) hb4).trans k5
              have q6 : ∀ wx, Ext wr wx → wx.cell? ⟨b5, o5 + p, none⟩ = some (.int .i64 (pl : Int)) := fun wx hx => (hx.cell (p := ⟨b5, o5 + p, none⟩) hb5).trans k6
              have hkdm : kd ≤ 250 := by omega
              have hpL : (p : Int) < (L : Int) := by omega
              have hpK : (p : Int) < (K : Int) := by omega
              have hpMi : (p : Int) < (M : Int) := by omega
              have hpMb : decide ((p : Int) < (M : Int)) = true := decide_eq_true hpMi
              have hss : ((pl : Int) != (pl : Int)) = false := by simp
              have hkk : ((kd : Int) != (kd : Int)) = false := by simp
              replace hX := hid hX
              replace hz := hid hz
              clear hce0 hce1 hce2 hce3 hce4 hce5 hy hv t1 t2 t3 r1 r2 hrow hkd0 k0 k1 k2 k3 k4 k5 k6 hLr hdj' hdj rx15 rx25 rdA5 rdW5 hly5 hcut2 hrow1 hr83
              go_wp2
              refine wp_region_free (by kernel_rfl) (by kernel_rfl) ?_
              repeat
                (refine walk_q ?_
                 apply Exists.intro
                 refine ⟨fun vs wx hw hd => ?_, ?_⟩
                 rotate_left
                 simp only [Act.put, Nat.reduceAdd, List.setIfInBounds_toArray, List.set_cons_succ, List.set_cons_zero]
                 rotate_right
                 focus
                   (try simp [updE, Region.binds] at hd)
                   go_simp
                   try go_bits
                   try (rw [if_pos (by omega)]; try go_simp; try go_bits)
                   try (rw [if_neg (by omega)]; try go_simp; try go_bits)
                   first
                     | rfl
                     | (fail))
              refine walk_end ?_
              intro vs wx hw hv
              simp [AllE, updE] at hv
              simp only [hv]
              clear hv
              have hb5 := hby.trans (Below.mono hw hby.size)
              clear q0 q1 q2 q3 q4 q5 q6 cw1 cw2
              go_wp2
              go_roundw
              case rel => exact ⟨p + 1, by go_num, by omega, hb5⟩
              case measure => simp [intOf]; omega
            · generalize xs[p].place = pl at k1 k2
              have q1 : ∀ wx, Ext wr wx → wx.cell? ⟨b1, o1 + p, none⟩ = some (.int .i64 (pl : Int)) := fun wx hx => (hx.cell (p := ⟨b1, o1 + p, none⟩) hb1).trans k1
              have q2 : ∀ wx, Ext wr wx → wx.cell? ⟨b2, o2 + p, none⟩ = some (.int .i64 (pl : Int)) := fun wx hx => (hx.cell (p := ⟨b2, o2 + p, none⟩) hb2).trans k2
              have hss : ((pl : Int) != (pl : Int)) = false := by simp
              have hpMi : ¬ (p : Int) < (M : Int) := by omega
              have hpMb : decide ((p : Int) < (M : Int)) = false := decide_eq_false hpMi
              clear hce1 hce2 hrow hrow1 k1 k2 rx15 rx25 rdA5 rdW5 hly5
              go_wp2
              refine wp_region_free (by kernel_rfl) (by kernel_rfl) ?_
              repeat
                (first
                   | (refine walk_q ?_
                      apply Exists.intro
                      refine ⟨fun vs wx hw hd => ?_, ?_⟩
                      rotate_left
                      simp only [Act.put, Nat.reduceAdd, List.setIfInBounds_toArray, List.set_cons_succ, List.set_cons_zero]
                      rotate_right
                      focus
                        (try simp [updE, Region.binds] at hd)
                        go_simp
                        try go_bits
                        try (rw [if_pos (by omega)]; try go_simp; try go_bits)
                        try (rw [if_neg (by omega)]; try go_simp; try go_bits)
                        first
                          | rfl
                          | (fail))
                   | (refine walk_no (fun vs wx hw hd => ?_) ?_
                      rotate_left
                      simp only [Act.put, Nat.reduceAdd, List.setIfInBounds_toArray, List.set_cons_succ, List.set_cons_zero]
                      rotate_right
                      focus
                        (try simp [updE, Region.binds] at hd)
                        first | rfl | (go_simp; done) | (go_simp; rfl) | (go_simp; intro hz; cases hz)))
              refine walk_end ?_
              intro vs wx hw hv
              simp [AllE, updE] at hv
              simp only [hv]
              clear hv
              have hb5 := hby.trans (Below.mono hw hby.size)
              clear q1 q2
              go_wp2
              go_roundw
              case rel => exact ⟨p + 1, by go_num, by omega, hb5⟩
              case measure => simp [intOf]; omega
          · obtain rfl : p = W := by omega
            go_wp2_with (go_at_call 10; refine (awake_any _).mono ?_; rintro e w6 ⟨rfl, hb6⟩)
            go_ret
            exact ⟨rfl, hbz.trans (hb6.mono hbz.size)⟩
end Go.Proofs.Ytcmbdbphddokmaa
