/-
  THE WALK of FrameRows.
-/
import Derived.Test.YtcmbdbphddokmaaFrmJ
import Derived.Test.YtcmbdbphddokmaaFree
namespace Go.Proofs.Ytcmbdbphddokmaa
open Go.RowKit

theorem mod8 (z : Int) (M : Nat) (hM : 0 < M) : ∃ i : Nat, i < M ∧ ∃ r : Nat, r ≤ 255 ∧ bits BinOp.and IntKind.i64 z 255 = (r : Int) ∧ (r : Int).tmod (M : Int) = (i : Int) ∧ (r : Int) % (M : Int) = (i : Int) := by
  obtain ⟨r, hr, hb⟩ := i64_mask z 255 (by omega)
  have h1 := Nat.mod_lt r hM
  have e : (r : Int) % (M : Int) = ((r % M : Nat) : Int) := by rw [Int.natCast_emod]
  exact ⟨r % M, h1, r, hr, hb, by rw [Int.tmod_eq_emod_of_nonneg (by omega), e], e⟩

theorem rd_cutF {w : World} {A : Option Addr} {l : List UInt8} (hr : Rd w A (cb l)) (p c : Nat) (h : l.length ≤ c) : Rd w (if c = p then A else Option.map (fun x => x.add p) A) (cb (l.drop p)) := by
  by_cases hp : c = p
  · rw [List.drop_eq_nil_of_le (show l.length ≤ p by omega)]
    exact Rd.nil _ _
  · rw [if_neg hp]
    have h2 := hr.drop p
    rwa [cb_drop] at h2

theorem below_drewN (w : World) (n : Nat) : Below w.heap.size w (w.drewN n) := ⟨rfl, rfl, rfl, Nat.le_refl _, fun _ _ => rfl⟩

theorem Rd.of_owns {w : World} {base : Nat} {e : TypeId} {size : Nat} {A : Option Addr} {c n : Nat} {xs : List Value} (h : w.ownsRow base e size (.slice A n c) n xs) : Rd w A xs := fun hp => by
  obtain ⟨hl, h2⟩ := h
  rcases h2 with ⟨hv, hn⟩ | ⟨g, cap, cur, hv, hb, hg, hn, hm, hs, ht⟩
  · subst hn; simp at hl; subst hl; simp at hp
  · injection hv with hA _ hc
    subst hA
    refine ⟨g, 0, rfl, (Array.getElem?_eq_some_iff.1 hg).1, fun j u hu => ?_⟩
    have hu' : cur.toList[j]? = some u := by
      rw [← ht, List.getElem?_take] at hu
      split at hu
      · exact hu
      · simp at hu
    simp only [World.cell?, hg]
    simpa using hu'
theorem owns_cap {w : World} {base : Nat} {e : TypeId} {size : Nat} {A : Option Addr} {n c : Nat} {xs : List Value} (h : w.ownsRow base e size (.slice A n c) n xs) : n ≤ c ∧ c ≤ maxLen := by
  rcases h.2 with ⟨hv, rfl⟩ | ⟨g, cap, cur, hv, _, _, h1, h2, _⟩
  · injection hv with _ _ hc; subst hc; exact ⟨Nat.le_refl _, Nat.zero_le _⟩
  · injection hv with _ _ hc; subst hc; exact ⟨h1, h2⟩

/-- What the i-th of the records told is. -/
theorem told_get {xs : List FR} {rs : List (Nat × List UInt8)} (h : xs.map FR.row = outF 0 rs) (i : Nat) (hi : i < rs.length) (hx : i < xs.length) : xs[i].place = startB rs i ∧ xs[i].kind = rs[i].1 ∧ xs[i].body = rs[i].2 := by
  have h1 : (xs.map FR.row)[i]? = some (startB rs i, rs[i].1, rs[i].2) := by
    rw [h, List.getElem?_eq_getElem (by rw [outF_length]; exact hi), outF_get rs 0 i hi, Nat.zero_add]
  rw [List.getElem?_map, List.getElem?_eq_getElem hx] at h1
  simp [FR.row] at h1
  exact h1

set_option maxRecDepth 100000 in
set_option maxHeartbeats 4000000 in
theorem frameRows_walk (B : Option Addr) (L d : Nat) (ls : List (List UInt8)) (z : Int) (w : World) (hP : IsRows w B L d ls) :
    Calls Try.prog 6 #[.slice B L d, .int .i64 z] w (Yes w) := by
  obtain ⟨hM, hBn, hMd, hdm, vs, hvl, hvr, hrow⟩ := hP
  obtain ⟨i0, hi0, hz0, hz1, hz2⟩ := info_parts info_int
  unfold maxLen at hdm
  obtain ⟨M, hM1, hM2, hM3⟩ : ∃ M, M ≤ L ∧ M ≤ 10 ∧ (M < L → M = 10) := ⟨min L 10, by omega, by omega, by omega⟩
  obtain ⟨rs, hrs⟩ : ∃ rs, mkB (fun i => i * 25 + 1) (ls.take M) = rs := ⟨_, rfl⟩
  have hrl : rs.length = M := by rw [← hrs, mkB_length, List.length_take]; omega
  have hrg : ∀ i (h1 : i < M) (h2 : i < rs.length) (h3 : i < ls.length), rs[i] = (i * 25 + 1, ls[i]) := by
    intro i h1 h2 h3
    subst hrs
    rw [mkB_get _ _ i (by rw [List.length_take]; omega), List.getElem_take]
  replace hM := hid hM
  replace hvl := hid hvl
  replace hrl := hid hrl
  replace hrg := hid hrg
  replace hM3 := hid hM3
  clear hrs
  go_enter Try.func6, Try.ntmps6
  go_wp2
  go_loopw [5, 6, 7] (fun s5 s6 i wr => ∃ (j q : Nat) (A2 : Option Addr) (c2 : Nat) (A3 : Option Addr) (c3 : Nat), i = .int .i64 j ∧ j ≤ M ∧ s5 = .slice A2 q c2 ∧ s6 = .slice A3 j c3 ∧ Hid (startB rs j = q) ∧ q ≤ 312 * j ∧ Hid (GoodB (rs.take j)) ∧
    wr.ownsRow w.heap.size 5 1 (.slice A2 q c2) q (cb (framesB (rs.take j))) ∧ wr.ownsRow w.heap.size 3 1 (.slice A3 j c3) j (i64s (begs rs j)) ∧ Below w.heap.size w wr)
    (fun _ _ i _ => M - (intOf i).toNat)
  case atStart => exact ⟨0, 0, none, 0, none, 0, rfl, by omega, rfl, rfl, hid (startB_zero rs), by omega, hid (fun r hr => by simp at hr), World.ownsRow_nil _ _ _ _, World.ownsRow_nil _ _ _ _, Below.refl _ w⟩
  case round =>
    obtain ⟨j, q, A2, c2, A3, c3, rfl, hj, rfl, rfl, hq, hqb, hgood, hown2, hown3, hbw⟩ := hrel
    by_cases hlt : j < M
    · have hjl : j < ls.length := by rw [hM.out]; omega
      have hjr : j < rs.length := by rw [hrl.out]; exact hlt
      obtain ⟨Aj, cj, hv, hdj, hAj, hjc, hcjm⟩ := hrow j ls[j] (List.getElem?_eq_getElem hjl)
      obtain ⟨b, o, rfl, hbo, hce⟩ := hvr (by rw [hvl.out]; omega)
      have hc0 := hce j _ hv
      have hck := (hbw.cell (p := ⟨b, o + j, none⟩) hbo).trans hc0
      have hrj := hrg.out j hlt hjr hjl
      have hfs := framesB_take_succ rs j hjr
      have hss := startB_succ rs j hjr
      rw [hrj] at hfs hss
      simp only [] at hfs hss
      rw [hq.out] at hss
      have hgn : ls[j].length ≤ 300 → GoodB (rs.take (j + 1)) := fun h r hr => by
        rw [List.take_succ_eq_append_getElem hjr] at hr
        rcases List.mem_append.1 hr with h1 | h1
        · exact hgood.out r h1
        · simp at h1
          subst h1
          rw [hrj]
          exact ⟨by show 1 ≤ j * 25 + 1; omega, by show j * 25 + 1 ≤ 250; omega, by show ls[j].length ≤ 70000; omega⟩
      obtain ⟨x, hx⟩ : ∃ x, ls[j] = x := ⟨_, rfl⟩
      rw [hx] at hv hc0 hdj hck hjc hfs hss hgn
      obtain ⟨X, hX⟩ : ∃ X, x.length = X := ⟨_, rfl⟩
      rw [hX] at hv hc0 hck hjc hss hgn
      have hXm : X ≤ 9223372036854775807 := by unfold maxLen at hcjm; omega
      have hjL : (j : Int) < (L : Int) := by omega
      have hj6 : (j : Int) < 10 := by omega
      replace hgn := hid hgn
      replace hss := hid hss
      replace hX := hid hX
      clear hce hrow hx hv hrj
      by_cases h3 : 300 < X
      · clear hfs
        go_wp2_with (go_at_call 10; refine (awake_any _).mono ?_; rintro e w3 ⟨rfl, hb3⟩)
        go_ret
        exact ⟨rfl, hbw.trans (hb3.mono hbw.size)⟩
      · obtain ⟨kd, hkd0⟩ : ∃ kd, j * 25 + 1 = kd := ⟨_, rfl⟩
        have hkd : (j : Int) * 25 + 1 = (kd : Int) := by omega
        rw [hkd0] at hfs
        replace hfs := hid hfs
        have hkdm : kd ≤ 226 := by omega
        clear hkd0
        have hql : Hid ((framesB (rs.take j)).length = q) := hid hq.out
        have hws := hbw.size
        go_wp2_with (at_builtin; refine wpList_app _ rfl (.tmp 36) (.tmp 39) 40 rfl w.heap.size 3 i0 (.int .i64 0) 8 Try.underlying40 hi0 hz0 hz1 hz2 rfl _ _ _ _ rfl (hown3.alloc _) _ _ _ [.int .i64 (q : Int)] rfl (Rd.one _ _ _) rfl (one_int _ _) (by unfold maxLen; omega) (by omega) (by simp; omega) ?_; intro A5 c5 w5 hown5 hg5 hb5 _; have hbw5 := (hbw.alloc hws _).trans hb5; have hck5 := (hbw5.cell (p := ⟨b, o + j, none⟩) hbo).trans hc0)
        have hown2' := (hown2.alloc _).kept hg5 (owns_ne (hown2.alloc _) (hown3.alloc (.cells #[.int .i64 (q : Int)] 3)) (by decide))
        refine (putF_any A2 q c2 (framesB (rs.take j)) kd Aj X cj x _ hql.out (Rd.of_own hown2') (by omega) (by omega) (by omega) hX.out (hdj.below hbw5) (by omega)).mono ?_
        rintro e w1 ⟨A4, c4, rfl, hown4, hb4⟩
        have hbw1 := hbw5.trans (hb4.mono hbw5.size)
        have hown5' := hown5.kept (below_grownN hb4) (own_neN hown5)
        clear hkd
        go_wp2_with fail
        go_roundw
        case rel =>
          refine ⟨j + 1, q + X + 12, A4, c4, A5, c5, by go_num, by omega, rfl, by rfl, hid (by rw [hss.out]; omega), by omega, hid (hgn.out (by omega)), ?_, ?_, hbw1⟩
          · rw [hfs.out]
            exact own_mono hown4 hbw5.size
          · rw [begs_succ, i64s_snoc, hq.out]
            exact hown5'
        case measure => simp [intOf]; omega
    · obtain rfl : j = M := by omega
      have hrt : rs.take j = rs := List.take_of_length_le (by rw [hrl.out]; exact Nat.le_refl _)
      have hgd := hgood.out
      rw [hrt] at hgd hown2
      have hql : (framesB rs).length = q := by have h := hq.out; unfold startB at h; rwa [hrt] at h
      have hcap2 := own_cap hown2
      have hcap2' := hcap2
      unfold maxLen at hcap2'
      have hA2 : Hid (A2 = none → framesB rs = []) := hid (fun h => by
        rcases Nat.eq_zero_or_pos q with h0 | h0
        · exact List.eq_nil_of_length_eq_zero (by omega)
        · obtain ⟨g, hg, _⟩ := own_addr hown2 h0
          rw [h] at hg; cases hg)
      have hdk := Rd.of_own hown2
      have rd3 := Rd.of_own hown3
      have hcap3 := own_cap hown3
      unfold maxLen at hcap3
      have hrw := (rowsF_all rs hgd).1
      have hqi : (q : Int) ≤ (c2 : Int) := by omega
      replace hql := hid hql
      replace hrw := hid hrw
      replace hgd := hid hgd
      clear hrt hown2 hown3 hgood hq
      by_cases hML : j < L
      rotate_left
      have hjL : ¬ (j : Int) < (L : Int) := by omega
      focus (go_wp2_with fail)
      rotate_left
      have hjL : (j : Int) < (L : Int) := by omega
      have hj6 : (10 : Int) ≤ (j : Int) := by have := hM3.out hML; omega
      focus (go_wp2_with fail)
      all_goals
        refine (told_any A2 q (framesB rs) c2 100 _ hql.out hdk hA2.out (by omega) (by omega)).mono ?_
        rintro e w3 ⟨xs, A4, c4, A5, c5, hxs, rfl, hx1, hx2, hx3, hb3⟩
        rw [hrw.out, List.take_of_length_le (by rw [outF_length, hrl.out]; omega)] at hxs
        have hxl : xs.length = j := by
          have h := congrArg List.length hxs
          rwa [List.length_map, outF_length, hrl.out] at h
        rw [hxl] at hx1 hx2 ⊢
        have hbw3 := hbw.trans (hb3.mono hbw.size)
        have rx1 := Rd.of_own hx1
        have hcx1 := own_cap hx1
        have hcx2 := owns_cap hx2
        have rq3 := rd3.below hb3
        have rqk := hdk.below hb3
        have rx2 := Rd.of_owns hx2
        replace hxs := hid hxs
        replace hxl := hid hxl
        clear hx1 hx2 rd3 hdk hb3 hbw
        go_wp2_with fail
        go_loopw [12] (fun i wr => ∃ p : Nat, i = .int .i64 p ∧ p ≤ j ∧ Below w3.heap.size w3 wr) (fun i _ => j - (intOf i).toNat)
        case atStart => exact ⟨0, rfl, by omega, Below.refl _ w3⟩
        case round =>
          obtain ⟨p, rfl, hp, hby⟩ := hrel
          by_cases hpj : p < j
          · have hpr : p < rs.length := by rw [hrl.out]; exact hpj
            have hpl : p < ls.length := by rw [hM.out]; omega
            have hpx : p < xs.length := by rw [hxl.out]; exact hpj
            obtain ⟨t1, t2, t3⟩ := told_get hxs.out p hpr hpx
            rw [hrg.out p hpj hpr hpl] at t2 t3
            simp only [] at t2 t3
            obtain ⟨Aj, cj, hv, hdj, hAj, hjc, hcjm⟩ := hrow p ls[p] (List.getElem?_eq_getElem hpl)
            obtain ⟨b0, o0, rfl, hb0, hce0⟩ := (hvr.below (hbw3.trans (hby.mono hbw3.size))) (by rw [hvl.out]; omega)
            have k0 := hce0 p _ hv
            obtain ⟨b1, o1, rfl, hb1, hce1⟩ := (rx1.below hby) (by rw [i64s_length, List.length_map, hxl.out]; omega)
            have k1 := hce1 p _ (i64s_get _ p (by rw [List.length_map]; exact hpx))
            rw [List.getElem_map, t1] at k1
            obtain ⟨b2, o2, rfl, hb2, hce2⟩ := (rq3.below hby) (by rw [i64s_length, begs_length]; omega)
            have k2 := hce2 p _ (begs_get rs j p hpj)
            obtain ⟨b3, o3, rfl, hb3, hce3⟩ := (rx2.below hby) (by rw [recs_length, hxl.out]; omega)
            obtain ⟨r1, r2⟩ := recs_get xs p hpx
            have k3 := hce3 _ _ r1
            have k4 := hce3 _ _ r2
            rw [← Nat.add_assoc] at k4
            rw [t2] at k3
            rw [t3] at k4
            have hLr := (hx3 _ (List.getElem_mem hpx)).rd.below hby
            rw [t3] at hLr
            generalize xs[p].addr = Ax at k4 hLr
            generalize xs[p].cap = cx at k4
            obtain ⟨x, hx⟩ : ∃ x, ls[p] = x := ⟨_, rfl⟩
            rw [hx] at k0 k4 hLr hdj hjc
            have hdj' := hdj.below (hbw3.trans (hby.mono hbw3.size))
            obtain ⟨X, hX⟩ : ∃ X, x.length = X := ⟨_, rfl⟩
            rw [hX] at k0 k4 hjc
            generalize startB rs p = s at k1 k2
            have c1 : ∀ wx, Ext wr wx → (convert 22 9 (.slice Ax X cx)).run Try.prog wx = .ok (.string ⟨x.toArray⟩) wx :=
              fun wx hx => run_strn wx 22 9 5 Try.underlying22 Try.underlying5 Try.underlying9 Ax X x cx hX (hLr.below hx)
            have c2' : ∀ wx, Ext wr wx → (convert 22 9 (.slice Aj X cj)).run Try.prog wx = .ok (.string ⟨x.toArray⟩) wx :=
              fun wx hx => run_strn wx 22 9 5 Try.underlying22 Try.underlying5 Try.underlying9 Aj X x cj hX (hdj'.below hx)
            have q0 : ∀ wx, Ext wr wx → wx.cell? ⟨b0, o0 + p, none⟩ = some (.slice Aj X cj) := fun wx hx => (hx.cell (p := ⟨b0, o0 + p, none⟩) hb0).trans k0
            have q1 : ∀ wx, Ext wr wx → wx.cell? ⟨b1, o1 + p, none⟩ = some (.int .i64 (s : Int)) := fun wx hx => (hx.cell (p := ⟨b1, o1 + p, none⟩) hb1).trans k1
            have q2 : ∀ wx, Ext wr wx → wx.cell? ⟨b2, o2 + p, none⟩ = some (.int .i64 (s : Int)) := fun wx hx => (hx.cell (p := ⟨b2, o2 + p, none⟩) hb2).trans k2
            have q4 : ∀ wx, Ext wr wx → wx.cell? ⟨b3, o3 + p * 2 + 1, none⟩ = some (.slice Ax X cx) := fun wx hx => (hx.cell (p := ⟨b3, o3 + p * 2 + 1, none⟩) hb3).trans k4
            obtain ⟨kd, hkd0⟩ : ∃ kd, p * 25 + 1 = kd := ⟨_, rfl⟩
            have hkd : (p : Int) * 25 + 1 = (kd : Int) := by omega
            rw [hkd0] at k3
            have hkdm : kd ≤ 226 := by omega
            have q3 : ∀ wx, Ext wr wx → wx.cell? ⟨b3, o3 + p * 2, none⟩ = some (.int .i64 (kd : Int)) := fun wx hx => (hx.cell (p := ⟨b3, o3 + p * 2, none⟩) hb3).trans k3
            have hpi : (p : Int) < (j : Int) := by omega
            have hpL : (p : Int) < (L : Int) := by omega
            have hss : ((s : Int) != (s : Int)) = false := by simp
            have hkk : ((kd : Int) != (kd : Int)) = false := by simp
            replace hX := hid hX
            have hx0 : Ext wr wr := Ext.refl wr
            clear hce0 hce1 hce2 hce3 hx hv t1 t2 t3 r1 r2 hrow hx3 hkd0 k0 k1 k2 k3 k4 hLr hdj' hdj rx1 rx2
            go_wp2
            refine wp_region_free (by kernel_rfl) (by kernel_rfl) ?_
            repeat
              (refine walk_q ?_
               apply Exists.intro
               refine ⟨fun vs wx hw hd => ?_, ?_⟩
               rotate_left
               simp only [Act.put, Nat.reduceAdd, List.setIfInBounds_toArray, List.set_cons_succ, List.set_cons_zero]
               rotate_right
               focus
                 (try simp [updE, Region.binds] at hd)
                 go_simp
                 try go_bits
                 try (rw [if_pos (by omega)]; try go_simp; try go_bits)
                 try (rw [if_neg (by omega)]; try go_simp; try go_bits)
                 first
                   | rfl
                   | (fail))
            refine walk_end ?_
            intro vs wx hw hv
            simp [AllE, updE] at hv
            simp only [hv]
            clear hv
            have hb5 := hby.trans (Below.mono hw hby.size)
            clear q0 q1 q2 q3 q4 c1 c2'
            go_wp2
            go_roundw
            case rel => exact ⟨p + 1, by go_num, by omega, hb5⟩
            case measure => simp [intOf]; omega
          · obtain rfl : p = j := by omega
            have hbyw := hbw3.trans (hby.mono hbw3.size)
            have rq3y := rq3.below hby
            have rqky := rqk.below hby
            have hvry := hvr.below hbyw
            clear rx1 rx2 hx3 rq3 rqk hby hbw3 hxs hxl hp
            rcases Nat.eq_zero_or_pos p with h0 | h0
            · have h0b : ((p : Int) == 0) = true := by rw [h0]; rfl
              go_wp2_with (go_at_call 10; refine (awake_any _).mono ?_; rintro e w5 ⟨rfl, hb5⟩)
              go_ret
              exact ⟨rfl, hbyw.trans (hb5.mono hbyw.size)⟩
            · obtain ⟨k, hk, r, hr1, hb1, hm1, hm1'⟩ := mod8 z p h0
              have hkr : k < rs.length := by rw [hrl.out]; exact hk
              have hkl : k < ls.length := by rw [hM.out]; omega
              have hrk := hrg.out k hk hkr hkl
              obtain ⟨s, hs⟩ : ∃ s, startB rs k = s := ⟨_, rfl⟩
              have hdr := framesB_drop rs k
              have hsp := congrArg List.length (framesB_split rs k)
              have hs' : (framesB (rs.take k)).length = s := hs
              rw [List.length_append, hs', hql.out] at hsp
              rw [hs] at hdr
              have hf1 : (framesB (rs.drop k)).length ≥ 12 := by
                rw [List.drop_eq_getElem_cons hkr, framesB_cons, List.length_append, frameB_length]; omega
              have hsq : s < q := by omega
              have hsc : s < c2 := by omega
              obtain ⟨b2, o2, rfl, hb2, hce2⟩ := rq3y (by rw [i64s_length, begs_length]; omega)
              have k2 := hce2 k _ (begs_get rs p k hk)
              rw [hs] at k2
              have hdl : (framesB (rs.drop k)).length = q - s := by omega
              have hdA : Option.map (fun x => x.add s) A2 = none → framesB (rs.drop k) = [] := fun h => by
                rw [← hdr, hA2.out (by simpa using h), List.drop_nil]
              have hdR := rqky.drop s
              rw [cb_drop, hdr] at hdR
              obtain ⟨Aj, cj, hv, hdj, hAj, hjc, hcjm⟩ := hrow k ls[k] (List.getElem?_eq_getElem hkl)
              obtain ⟨b0, o0, rfl, hb0, hce0⟩ := hvry (by rw [hvl.out]; omega)
              have k0 := hce0 k _ hv
              have htk := takeF_frame (framesB (rs.take k)) rs[k].1 rs[k].2 (framesB (rs.drop (k + 1))) (hgd.out _ (List.getElem_mem hkr)).1 (hgd.out _ (List.getElem_mem hkr)).2.1 (hgd.out _ (List.getElem_mem hkr)).2.2
              rw [← framesB_cons, ← List.drop_eq_getElem_cons hkr, ← framesB_split, hs', hrk] at htk
              simp only [] at htk
              obtain ⟨kd, hkd0⟩ : ∃ kd, k * 25 + 1 = kd := ⟨_, rfl⟩
              rw [hkd0] at htk hrk
              clear hkd0
              have hrd := (rowsF_all (rs.drop k) (goodB_drop hgd.out k)).1
              obtain ⟨x, hx⟩ : ∃ x, ls[k] = x := ⟨_, rfl⟩
              rw [hx] at k0 hjc htk hrk
              obtain ⟨X, hX⟩ : ∃ X, x.length = X := ⟨_, rfl⟩
              rw [hX] at k0 hjc htk
              have hXm : X ≤ 70000 := by have h := (hgd.out _ (List.getElem_mem hkr)).2.2; rw [hrk] at h; exact hX ▸ h
              have hpi : (k : Int) < (p : Int) := by omega
              have hpL : (k : Int) < (L : Int) := by omega
              have h0b : ((p : Int) == 0) = false := by rw [beq_eq_false_iff_ne]; omega
              have hsqi : (s : Int) ≤ (q : Int) := by omega
              have hsci : (s : Int) ≤ (c2 : Int) := by omega
              have hscn : ¬ c2 = s := by omega
              replace hX := hid hX
              replace hdA := hid hdA
              replace htk := hid htk
              replace hrd := hid hrd
              replace hrk := hid hrk
              replace hs := hid hs
              replace hdl := hid hdl
              clear hce0 hce2 hx hv hrow rq3y hvry hsp hdr hs'
              go_wp2_with fail
              refine (told_any _ (q - s) (framesB (rs.drop k)) (c2 - s) 100 _ hdl.out hdR hdA.out (by omega) (by omega)).mono ?_
              rintro e w4 ⟨ys, A6, c6, A7, c7, hys, rfl, hy1, hy2, hy3, hb4⟩
              rw [hrd.out, List.take_of_length_le (by rw [outF_length, List.length_drop, hrl.out]; omega)] at hys
              have hyl : ys.length = p - k := by
                have h := congrArg List.length hys
                rwa [List.length_map, outF_length, List.length_drop, hrl.out] at h
              have hy0 : 0 < ys.length := by omega
              obtain ⟨t1, t2, t3⟩ := told_get hys 0 (by rw [List.length_drop, hrl.out]; omega) hy0
              have hd0 : (rs.drop k)[0]'(by rw [List.length_drop, hrl.out]; omega) = rs[k] := by simp
              rw [hd0, hrk.out] at t2 t3
              rw [startB_zero] at t1
              simp only [] at t2 t3
              have hbw4 := hbyw.trans (hb4.mono hbyw.size)
              obtain ⟨b6, o6, rfl, hb6, hce6⟩ := (Rd.of_own hy1) (by rw [i64s_length, List.length_map]; omega)
              have k6 := hce6 0 _ (i64s_get _ 0 (by rw [List.length_map]; exact hy0))
              rw [List.getElem_map, t1] at k6
              obtain ⟨b7, o7, rfl, hb7, hce7⟩ := (Rd.of_owns hy2) (by rw [recs_length]; omega)
              have k7 := hce7 _ _ (recs_get ys 0 hy0).1
              rw [t2] at k7
              have hcy1 := own_cap hy1
              have hcy2 := owns_cap hy2
              unfold maxLen at hcy1 hcy2
              rw [hyl] at hcy1 hcy2 ⊢
              obtain ⟨N, hN⟩ : ∃ N, p - k = N := ⟨_, rfl⟩
              rw [hN] at hcy1 hcy2 ⊢
              have k24 := (hb4.cell (p := ⟨b2, o2 + k, none⟩) hb2).trans k2
              have k04 := (hb4.cell (p := ⟨b0, o0 + k, none⟩) hb0).trans k0
              clear hce6 hce7 hys hyl hy1 hy2 hy3 t1 t2 t3 hd0 hdR hdA k2 k0
              go_wp2_with fail
              refine (takeF_in A2 q c2 (framesB rs) s w4 hql.out (rqky.below hb4) hcap2.1 hcap2.2 (by omega)).mono ?_
              rintro e w5 ⟨A8, c8, c8', rfl, hown8, hlc8, hcm8, hb8⟩
              rw [htk.out] at hown8 hlc8 ⊢
              unfold recV
              simp only [] at hown8 hlc8 ⊢
              rw [hX.out] at hlc8 hown8 ⊢
              have hbw5 := hbw4.trans (hb8.mono hbw4.size)
              obtain ⟨w6, hw6⟩ : ∃ w6, w5.alloc (.cells #[.int .i64 (kd : Int), .slice A8 X c8] 29) = w6 := ⟨_, rfl⟩
              have hbx : w6.heap[w5.heap.size]? = some (.cells #[.int .i64 (kd : Int), .slice A8 X c8] 29 (0, 0)) := by rw [← hw6]; exact heap_alloc_new w5 _
              have hbw6 : Below w.heap.size w w6 := by rw [← hw6]; exact hbw5.alloc hbw5.size _
              have hsz : w5.heap.size < w6.heap.size := by rw [← hw6]; simp
              have hE6 : ∀ (g o : Nat) (v : Value), g < w4.heap.size → w4.cell? ⟨g, o, none⟩ = some v → ∀ wx, Ext w6 wx → wx.cell? ⟨g, o, none⟩ = some v := fun g o v hg hc wx hx => by
                have h8 := hb8.size
                have e1 := hb8.cell (p := ⟨g, o, none⟩) hg
                have e2 := (show Below w5.heap.size w5 w6 by rw [← hw6]; exact (Below.refl _ w5).alloc (Nat.le_refl _) _).cell (p := ⟨g, o, none⟩) (show g < w5.heap.size by omega)
                have e3 := hx.cell (p := ⟨g, o, none⟩) (show g < w6.heap.size by omega)
                exact e3.trans (e2.trans (e1.trans hc))
              rw [Nat.add_zero] at k6
              rw [Nat.zero_mul, Nat.add_zero] at k7
              have hb4s := hb4.size
              have q6 := hE6 b6 o6 _ hb6 k6
              have q7 := hE6 b7 o7 _ hb7 k7
              have q2 := hE6 b2 (o2 + k) _ (by omega) k24
              have q0 := hE6 b0 (o0 + k) _ (by omega) k04
              have qk : ∀ wx, Ext w6 wx → wx.cell? ⟨w5.heap.size, 0, none⟩ = some (.int .i64 (kd : Int)) := fun wx hx => (rec_cells ((hx.block _ hsz).trans hbx)).1
              have hx0 : Ext w6 w6 := Ext.refl w6
              have hNi : (p : Int) - (k : Int) = (N : Int) := by omega
              have hN0 : 0 < N := by omega
              replace hw6 := hid hw6
              clear hE6 k6 k7 k24 k04 hbx
              go_wp2_with fail
              rw [hw6.out]
              refine wp_region_free (by kernel_rfl) (by kernel_rfl) ?_
              repeat
                (refine walk_q ?_
                 apply Exists.intro
                 refine ⟨fun vs wx hw hd => ?_, ?_⟩
                 rotate_left
                 simp only [Act.put, Nat.reduceAdd, List.setIfInBounds_toArray, List.set_cons_succ, List.set_cons_zero]
                 rotate_right
                 focus
                   (try simp [updE, Region.binds] at hd)
                   go_simp
                   try go_bits
                   try (rw [if_pos (by omega)]; try go_simp; try go_bits)
                   try (rw [if_neg (by omega)]; try go_simp; try go_bits)
                   first
                     | rfl
                     | (go_at_call 15; refine (size_any X _ (by omega)).mono ?_; rintro e w5 ⟨rfl, rfl⟩; exact ⟨rfl, Below.refl _ _⟩)
                     | (go_at_call 10; refine (awake_any _).mono ?_; rintro e w5 ⟨rfl, hb5⟩; exact ⟨rfl, hb5⟩))
              refine walk_end ?_
              intro vs wx hw hv
              simp [AllE, updE] at hv
              simp only [hv]
              clear hv
              go_wp2_with fail
              go_ret
              exact ⟨rfl, hbw6.trans (Below.mono hw hbw6.size)⟩
end Go.Proofs.Ytcmbdbphddokmaa
