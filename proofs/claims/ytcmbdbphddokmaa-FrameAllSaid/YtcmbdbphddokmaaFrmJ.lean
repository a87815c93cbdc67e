/-
  THE WALK of FrameCuts.
-/
import Derived.Test.YtcmbdbphddokmaaFrmI
import Derived.Test.YtcmbdbphddokmaaFrmF
import Derived.Test.YtcmbdbphddokmaaRowsIn
import Derived.Test.YtcmbdbphddokmaaPlainFrmC
namespace Go.Proofs.Ytcmbdbphddokmaa
open Go.RowKit

theorem mod_bits (z : Int) (L : Nat) (hL : L ≤ 60000) : ∃ i : Nat, i ≤ L ∧ ∃ r : Nat, r ≤ 65535 ∧ bits BinOp.and IntKind.i64 z 65535 = (r : Int) ∧ (r : Int).tmod ((L : Int) + 1) = (i : Int) ∧ (r : Int) % ((L : Int) + 1) = (i : Int) := by
  obtain ⟨r, hr, hb⟩ := i64_mask z 65535 (by omega)
  have h1 := Nat.mod_lt r (show 0 < L + 1 by omega)
  have e : (r : Int) % ((L : Int) + 1) = ((r % (L + 1) : Nat) : Int) := by rw [Int.natCast_emod, Int.natCast_add]; rfl
  exact ⟨r % (L + 1), by omega, r, hr, hb, by rw [Int.tmod_eq_emod_of_nonneg (by omega), e], e⟩

theorem own_one (w : World) (t : TypeId) (v : Value) : (w.alloc (.cells #[v] t)).ownsRow w.heap.size t 1 (.slice (some ⟨w.heap.size, 0, none⟩) 1 1) 1 [v] :=
  ⟨rfl, .inr ⟨w.heap.size, 1, #[v], rfl, Nat.le_refl _, heap_alloc_new w _, Nat.le_refl _, by unfold maxLen; omega, rfl, rfl⟩⟩

/-- Records made of bodies, of the kinds that f says. -/
def mkB (f : Nat → Nat) (bs : List (List UInt8)) : List (Nat × List UInt8) := bs.mapIdx fun i b => (f i, b)
theorem mkB_length (f : Nat → Nat) (bs : List (List UInt8)) : (mkB f bs).length = bs.length := by simp [mkB]
theorem mkB_get (f : Nat → Nat) (bs : List (List UInt8)) (i : Nat) (h : i < bs.length) (h2 : i < (mkB f bs).length) : (mkB f bs)[i] = (f i, bs[i]) := by simp [mkB]
theorem framesB_take_succ (rs : List (Nat × List UInt8)) (i : Nat) (h : i < rs.length) : framesB (rs.take (i + 1)) = framesB (rs.take i) ++ frameB rs[i].1 rs[i].2 := by
  rw [List.take_succ_eq_append_getElem h, framesB_snoc]

/-- Where the records begin, up to the j-th. -/
def begs (rs : List (Nat × List UInt8)) (j : Nat) : List Nat := (List.range j).map fun i => startB rs i
theorem begs_succ (rs : List (Nat × List UInt8)) (j : Nat) : begs rs (j + 1) = begs rs j ++ [startB rs j] := by simp [begs, List.range_succ]
theorem begs_length (rs : List (Nat × List UInt8)) (j : Nat) : (begs rs j).length = j := by simp [begs]
theorem begs_get (rs : List (Nat × List UInt8)) (j i : Nat) (h : i < j) : (i64s (begs rs j))[i]? = some (.int .i64 (startB rs i : Int)) := by
  unfold i64s begs
  rw [List.getElem?_map, List.getElem?_map, List.getElem?_range h]
  rfl

theorem cut_end (rs : List (Nat × List UInt8)) (k : Nat) (h : GoodB rs) (hk : k ≤ (framesB rs).length) :
    endF ((framesB rs).take k) = startB rs (cntB rs k) ∧ rowsF ((framesB rs).take k) = outF 0 (rs.take (cntB rs k)) ∧ whyF ((framesB rs).take k) = if startB rs (cntB rs k) = k then 0 else 4 := by
  obtain ⟨t, h1, h2, h3, _⟩ := cut_frames rs k h
  obtain ⟨h5, h6⟩ := rowsF_stop (rs.take (cntB rs k)) t (goodB_take h _) h3
  have hlen : ((framesB rs).take k).length = k := by rw [List.length_take]; omega
  have he : endF ((framesB rs).take k) = startB rs (cntB rs k) := by rw [h1, h6]; rfl
  refine ⟨he, by rw [h1, h5], ?_⟩
  unfold whyF
  rw [he, hlen]
  by_cases hq : startB rs (cntB rs k) = k
  · rw [if_pos hq, if_pos hq]
  · rw [if_neg hq, if_neg hq, h1]
    unfold startB
    rw [List.drop_left, h2]

theorem below_grownN {w w' : World} (h : Below w.heap.size w w') : w.grownBy w' none := ⟨h.os, h.tape, h.output, h.size, fun k hk _ => h.block k hk⟩
theorem own_neN {w : World} {base : Nat} {e : TypeId} {size : Nat} {v : Value} {n : Nat} {xs : List Value} (_ : w.ownsRow base e size v n xs) : v.ownBlock = none ∨ v.ownBlock ≠ none := by
  rcases v.ownBlock with _ | b
  · exact .inl rfl
  · exact .inr (by simp)

set_option maxRecDepth 100000 in
set_option maxHeartbeats 4000000 in
theorem cuts_walk (B : Option Addr) (L d : Nat) (ls : List (List UInt8)) (z : Int) (w : World) (hP : IsRows w B L d ls) :
    Calls Try.prog 9 #[.slice B L d, .int .i64 z] w (Yes w) := by
  obtain ⟨hM, hBn, hMd, hdm, vs, hvl, hvr, hrow⟩ := hP
  obtain ⟨i0, hi0, hz0, hz1, hz2⟩ := info_parts info_int
  unfold maxLen at hdm
  obtain ⟨M, hM1, hM2, hM3⟩ : ∃ M, M ≤ L ∧ M ≤ 6 ∧ (M < L → M = 6) := ⟨min L 6, by omega, by omega, by omega⟩
  obtain ⟨rs, hrs⟩ : ∃ rs, mkB (fun i => 250 - i) (ls.take M) = rs := ⟨_, rfl⟩
  have hrl : rs.length = M := by rw [← hrs, mkB_length, List.length_take]; omega
  have hrg : ∀ i (h1 : i < M) (h2 : i < rs.length) (h3 : i < ls.length), rs[i] = (250 - i, ls[i]) := by
    intro i h1 h2 h3
    subst hrs
    rw [mkB_get _ _ i (by rw [List.length_take]; omega), List.getElem_take]
  replace hM := hid hM
  replace hvl := hid hvl
  replace hrl := hid hrl
  replace hrg := hid hrg
  replace hM3 := hid hM3
  clear hrs
  go_enter Try.func9, Try.ntmps9
  go_wp2
  go_loopw [5, 6, 7] (fun s5 s6 i wr => ∃ (j q : Nat) (A2 : Option Addr) (c2 : Nat) (A3 : Option Addr) (c3 : Nat), i = .int .i64 j ∧ j ≤ M ∧ s5 = .slice A2 q c2 ∧ s6 = .slice A3 (j + 1) c3 ∧ Hid (startB rs j = q) ∧ q ≤ 312 * j ∧ Hid (GoodB (rs.take j)) ∧
    wr.ownsRow w.heap.size 5 1 (.slice A2 q c2) q (cb (framesB (rs.take j))) ∧ wr.ownsRow w.heap.size 3 1 (.slice A3 (j + 1) c3) (j + 1) (i64s (begs rs (j + 1))) ∧ Below w.heap.size w wr)
    (fun _ _ i _ => M - (intOf i).toNat)
  case atStart => exact ⟨0, 0, none, 0, some ⟨w.heap.size, 0, none⟩, 1, rfl, by omega, rfl, rfl, hid (startB_zero rs), by omega, hid (fun r hr => by simp at hr), World.ownsRow_nil _ _ _ _, by have h := own_one w 3 (.int .i64 0); simpa [begs, i64s, startB_zero] using h, (Below.refl _ w).alloc (Nat.le_refl _) _⟩
  case round =>
    obtain ⟨j, q, A2, c2, A3, c3, rfl, hj, rfl, rfl, hq, hqb, hgood, hown2, hown3, hbw⟩ := hrel
    by_cases hlt : j < M
    · have hjl : j < ls.length := by rw [hM.out]; omega
      have hjr : j < rs.length := by rw [hrl.out]; exact hlt
      obtain ⟨Aj, cj, hv, hdj, hAj, hjc, hcjm⟩ := hrow j ls[j] (List.getElem?_eq_getElem hjl)
      obtain ⟨b, o, rfl, hbo, hce⟩ := (hvr.below hbw) (by rw [hvl.out]; omega)
      have hck := hce j _ hv
      have hrj := hrg.out j hlt hjr hjl
      have hfs := framesB_take_succ rs j hjr
      have hss := startB_succ rs j hjr
      rw [hrj] at hfs hss
      simp only [] at hfs hss
      rw [hq.out] at hss
      have hgn : ls[j].length ≤ 300 → GoodB (rs.take (j + 1)) := fun h r hr => by
        rw [List.take_succ_eq_append_getElem hjr] at hr
        rcases List.mem_append.1 hr with h1 | h1
        · exact hgood.out r h1
        · simp at h1
          subst h1
          rw [hrj]
          exact ⟨by show 1 ≤ 250 - j; omega, by show 250 - j ≤ 250; omega, by show ls[j].length ≤ 70000; omega⟩
      obtain ⟨x, hx⟩ : ∃ x, ls[j] = x := ⟨_, rfl⟩
      rw [hx] at hv hdj hck hjc hfs hss hgn
      obtain ⟨X, hX⟩ : ∃ X, x.length = X := ⟨_, rfl⟩
      rw [hX] at hv hck hjc hss hgn
      have hXm : X ≤ 9223372036854775807 := by unfold maxLen at hcjm; omega
      have hjL : (j : Int) < (L : Int) := by omega
      have hj6 : (j : Int) < 6 := by omega
      replace hgn := hid hgn
      replace hfs := hid hfs
      replace hss := hid hss
      replace hX := hid hX
      clear hce hrow hx hv hrj
      by_cases h3 : 300 < X
      · go_wp2_with (go_at_call 10; refine (awake_any _).mono ?_; rintro e w3 ⟨rfl, hb3⟩)
        go_ret
        exact ⟨rfl, hbw.trans (hb3.mono hbw.size)⟩
      · have hkd : (250 : Int) - (j : Int) = ((250 - j : Nat) : Int) := by omega
        have hql : Hid ((framesB (rs.take j)).length = q) := hid hq.out
        go_wp2_with fail
        refine (putF_any A2 q c2 (framesB (rs.take j)) (250 - j) Aj X cj x _ hql.out (Rd.of_own hown2) (by omega) (by omega) (by omega) hX.out (hdj.below hbw) (by omega)).mono ?_
        rintro e w1 ⟨A4, c4, rfl, hown4, hb4⟩
        have hbw1 := hbw.trans (hb4.mono hbw.size)
        have hown3' := hown3.kept (below_grownN hb4) (own_neN hown3)
        have hws := hbw1.size
        clear hkd
        go_wp2_with (at_builtin; refine wpList_app _ rfl (.tmp 49) (.tmp 52) 40 rfl w.heap.size 3 i0 (.int .i64 0) 8 Try.underlying40 hi0 hz0 hz1 hz2 rfl _ _ _ _ rfl (hown3'.alloc _) _ _ _ [.int .i64 ((q : Int) + (X : Int) + 12)] rfl (Rd.one _ _ _) rfl (one_int _ _) (by unfold maxLen; omega) (by omega) (by simp; omega) ?_; intro A5 c5 w5 hown5 hg5 hb5 _)
        go_roundw
        case rel =>
          refine ⟨j + 1, q + X + 12, A4, c4, A5, c5, by go_num, by omega, rfl, by rfl, hid (by rw [hss.out]; omega), by omega, hid (hgn.out (by omega)), ?_, ?_, (hbw1.alloc hws _).trans hb5⟩
          · rw [hfs.out]
            exact own_mono ((hown4.alloc _).kept hg5 (owns_ne (hown4.alloc _) (hown3'.alloc (.cells #[.int .i64 ((q : Int) + (X : Int) + 12)] 3)) (by decide))) hbw.size
          · rw [begs_succ, i64s_snoc, hss.out]
            have e : ((q + (X + 12) : Nat) : Int) = (q : Int) + (X : Int) + 12 := by omega
            rw [e]
            exact hown5
        case measure => simp [intOf]; omega
    · obtain rfl : j = M := by omega
      have hrt : rs.take j = rs := List.take_of_length_le (by rw [hrl.out]; exact Nat.le_refl _)
      have hgd := hgood.out
      rw [hrt] at hgd hown2
      have hql : (framesB rs).length = q := by have h := hq.out; unfold startB at h; rwa [hrt] at h
      obtain ⟨k, hkq, r, hr1, hb1, hm1, hm1'⟩ := mod_bits z q (by omega)
      obtain ⟨hN1, hN2, hN3⟩ := cntB_spec rs k
      obtain ⟨hc1, hc2, hc3⟩ := cut_end rs k hgd (by omega)
      obtain ⟨N, hN⟩ : ∃ N, cntB rs k = N := ⟨_, rfl⟩
      rw [hN] at hN1 hN2 hN3 hc1 hc2 hc3
      rw [hrl.out] at hN1 hN3
      have hlk : Hid (((framesB rs).take k).length = k) := hid (by rw [List.length_take]; omega)
      have hcap2 := own_cap hown2
      have hcap2' := hcap2
      unfold maxLen at hcap2'
      have hA2 : Hid (A2 = none → (framesB rs).take k = []) := hid (fun h => by
        rcases Nat.eq_zero_or_pos q with h0 | h0
        · exact List.eq_nil_of_length_eq_zero (by rw [hlk.out]; omega)
        · obtain ⟨g, hg, _⟩ := own_addr hown2 h0
          rw [h] at hg; cases hg)
      have hdk : Rd wr A2 (cb ((framesB rs).take k)) := by have h := (Rd.of_own hown2).take k; rwa [cb_take] at h
      have hol : Hid ((rowsF ((framesB rs).take k)).length = N) := hid (by rw [hc2, outF_length, List.length_take, hrl.out]; omega)
      have rd3 := Rd.of_own hown3
      have hcap3 := own_cap hown3
      unfold maxLen at hcap3
      obtain ⟨s, hs⟩ : ∃ s, startB rs N = s := ⟨_, rfl⟩
      rw [hs] at hc1 hc3
      replace hN2 := hid hN2
      replace hN3 := hid hN3
      replace hc1 := hid hc1
      replace hc3 := hid hc3
      replace hql := hid hql
      have hs' := hid hs
      clear hrt hgd hm1' hN hown2 hown3 hgood hc2 hs hrow hvr hvl
      by_cases hML : j < L
      rotate_left
      have hjL : ¬ (j : Int) < (L : Int) := by omega
      focus (go_wp2_with fail)
      rotate_left
      have hjL : (j : Int) < (L : Int) := by omega
      have hj6 : (6 : Int) ≤ (j : Int) := by have := hM3.out hML; omega
      focus (go_wp2_with fail)
      all_goals
        go_loop [11] (fun i => ∃ p : Nat, i = .int .i64 p ∧ p ≤ N) (fun i => N - (intOf i).toNat)
        case atStart => exact ⟨0, rfl, by omega⟩
        case round =>
          obtain ⟨p, rfl, hp⟩ := hrel
          obtain ⟨b, o, hA3, hbl, hce⟩ := rd3 (by rw [i64s_length, begs_length]; omega)
          subst hA3
          by_cases hpN : p < N
          · have hck := hce (p + 1) _ (begs_get rs (j + 1) (p + 1) (by omega))
            have hek := hN2.out (p + 1) (by omega)
            generalize startB rs (p + 1) = e at hck hek
            have hpj : (p : Int) + 1 < (j : Int) + 1 := by omega
            have hed : decide ((e : Int) ≤ (k : Int)) = true := by simp; omega
            clear hce
            go_wp2
            go_round
            case rel => exact ⟨p + 1, by go_num, by omega⟩
            case measure => simp [intOf]; omega
          · obtain rfl : p = N := by omega
            have hcs := hce p _ (begs_get rs (j + 1) p (by omega))
            rw [hs'.out] at hcs
            clear hp hpN
            obtain ⟨j2, hj2, hj2p⟩ : ∃ j2, j2 = j ∧ p ≤ j2 := ⟨j, rfl, hN1⟩
            by_cases hNM : p < j
            rotate_left
            obtain rfl : p = j := by omega
            clear hce hNM
            focus (go_wp2_with fail)
            rotate_left
            have hck := hce (p + 1) _ (begs_get rs (j + 1) (p + 1) (by omega))
            have hek := hN3.out hNM
            generalize startB rs (p + 1) = e at hck hek
            have hpj : (p : Int) + 1 < (j : Int) + 1 := by omega
            have hed : decide ((e : Int) ≤ (k : Int)) = false := by simp; omega
            clear hce hNM
            focus (go_wp2_with fail)
            all_goals
              (try clear hck)
              (try clear hed)
              refine (end_any (A2) k ((framesB rs).take k) c2 _ hlk.out hdk hA2.out (by omega) hcap2.2 (by omega)).mono ?_
              rintro e w2 ⟨rfl, hb2⟩
              rw [hc1.out]
              obtain ⟨y, hy⟩ : ∃ y, whyF ((framesB rs).take k) = y := ⟨_, rfl⟩
              rw [hy]
              have hy2 : Hid (y = if s = k then 0 else 4) := hid (by rw [← hy, hc3.out])
              clear hy
              have hbw2 := hbw.trans (hb2.mono hbw.size)
              have hcs2 := (hb2.cell (p := ⟨b, o + p, none⟩) hbl).trans hcs
              go_wp2_with fail
              refine (told_any A2 k ((framesB rs).take k) c2 100 w2 hlk.out (hdk.below hb2) hA2.out (by omega) (by omega)).mono ?_
              rintro e w3 ⟨xs, A4, c4, A5, c5, hxs, rfl, hx1, hx2, hx3, hb3⟩
              have hlen : xs.length = p := by
                have h := congrArg List.length hxs
                rw [List.length_map, List.length_take, hol.out] at h
                omega
              rw [hlen] at hx1 hx2 ⊢
              have hcs3 := (hb3.cell (p := ⟨b, o + p, none⟩) (Nat.lt_of_lt_of_le hbl hb2.size)).trans hcs2
              have hbw3 := hbw2.trans (hb3.mono hbw2.size)
              have hpj2 : (p : Int) < (j2 : Int) + 1 := by omega
              replace hlen := hid hlen
              clear hcs hcs2 hx1 hx2 hx3 hxs hdk rd3
              by_cases hsk : s = k
              · have hsb : ((k : Int) == (s : Int)) = true := by rw [hsk]; simp
                obtain rfl : y = 0 := by rw [hy2.out, if_pos hsk]
                clear hsk
                go_wp2_with (go_at_call 10; refine (awake_any _).mono ?_; rintro e w5 ⟨rfl, hb5⟩)
                go_ret
                exact ⟨rfl, hbw3.trans (hb5.mono hbw3.size)⟩
              · have hsb : ((k : Int) == (s : Int)) = false := by rw [beq_eq_false_iff_ne]; omega
                obtain rfl : y = 4 := by rw [hy2.out, if_neg hsk]
                clear hsk
                go_wp2_with (go_at_call 10; refine (awake_any _).mono ?_; rintro e w5 ⟨rfl, hb5⟩)
                go_ret
                exact ⟨rfl, hbw3.trans (hb5.mono hbw3.size)⟩
end Go.Proofs.Ytcmbdbphddokmaa
