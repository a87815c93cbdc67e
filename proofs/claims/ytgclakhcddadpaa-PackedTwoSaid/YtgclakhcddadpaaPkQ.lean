/-
  THE WALK of PackedTwo.
-/
import Derived.Test.YtgclakhcddadpaaPkO
import Derived.Test.YtgclakhcddadpaaPkB32
import Derived.Test.YtgclakhcddadpaaPkC16
import Derived.Test.YtgclakhcddadpaaPkC32
import Derived.Test.YtgclakhcddadpaaPkG32
import Derived.Test.YtgclakhcddadpaaPkI
import Derived.Deep.DeepCutAuto
namespace Go.Proofs.Ytgclakhcddadpaa
open Go.RowKit

set_option maxHeartbeats 8000000 in
set_option maxRecDepth 100000 in
theorem two_walk (A : Option Addr) (n c : Nat) (l : List Nat) (B : Option Addr) (m d : Nat) (r : List Nat) (more : Bool) (w : World) (hn : l.length = n) (hr : Rd w A (uk .u16 l)) (hA : A = none → l = []) (hnm : n ≤ 9223372036854775807) (hm : Hid (∀ x ∈ l, x < 65536))
    (hn2 : r.length = m) (hr2 : Rd w B (uk .u32 r)) (hB : B = none → r = []) (hmm : m ≤ 9223372036854775807) (hm2 : Hid (∀ x ∈ r, x < 4294967296)) :
    Calls Try.prog 8 #[.slice A n c, .slice B m d, .bool more] w (Yes w) := by
  by_cases hbig : 1000 < n
  · go_enter Try.func8, Try.ntmps8
    go_wp2_with (go_at_call 11; refine (awake_any _).mono ?_; rintro e w3 ⟨rfl, hb3⟩)
    go_ret
    exact ⟨rfl, hb3⟩
  by_cases hbig2 : 1000 < m
  · go_enter Try.func8, Try.ntmps8
    go_wp2_with (go_at_call 11; refine (awake_any _).mono ?_; rintro e w3 ⟨rfl, hb3⟩)
    go_ret
    exact ⟨rfl, hb3⟩
  clear hnm hmm
  obtain ⟨i0, hi, hz0, hz1, hz2⟩ := info_parts info_u8
  obtain ⟨q1, hq1⟩ : ∃ q, widthL l = q := ⟨_, rfl⟩
  obtain ⟨q2, hq2⟩ : ∃ q, widthL r = q := ⟨_, rfl⟩
  have hq1b : q1 ≤ 16 := by rw [← hq1]; exact widthL_le.2 hm.out
  have hq2b : q2 ≤ 32 := by rw [← hq2]; exact widthL_le.2 hm2.out
  replace hn := hid hn
  replace hn2 := hid hn2
  replace hq1 := hid hq1
  replace hq2 := hid hq2
  replace hA := hid hA
  replace hB := hid hB
  go_enter Try.func8, Try.ntmps8
  go_upto_if 35 with (first | (go_at_call 15; refine (width16 A n l c _ hn.out hr (by omega) hm).mono ?_; rintro e w3 ⟨rfl, rfl⟩; rw [hq1.out]) | (go_at_call 23; refine (width32 B m r d _ hn2.out hr2 (by omega) hm2).mono ?_; rintro e w3 ⟨rfl, rfl⟩; rw [hq2.out]))
  go_cut [7, 8] (fun s7 s8 wx => ∃ z1 z2 : Nat, s7 = .int .i64 z1 ∧ s8 = .int .i64 z2 ∧ q1 ≤ z1 ∧ z1 ≤ 64 ∧ q2 ≤ z2 ∧ z2 ≤ 64 ∧ Below w.heap.size w wx)
  case first =>
    cases more with
    | true =>
      go_wp2
      go_meet
      case rel => exact ⟨q1 + 1, q2 + 1, by go_num, by go_num, by omega, by omega, by omega, by omega, Below.refl _ w⟩
    | false =>
      go_wp2
      go_meet
      case rel => exact ⟨q1, q2, rfl, rfl, by omega, by omega, by omega, by omega, Below.refl _ w⟩
  case rest =>
    obtain ⟨z1, z2, rfl, rfl, hz11, hz12, hz21, hz22, hbc⟩ := hcut
    have hp1 : ∀ g wx, (binOp BinOp.eql 43 (.pointer (some ⟨g, 0, none⟩)) (.pointer none)).run Try.prog wx = .ok (.bool false) wx := fun g wx => by rfl
    have hp2 : ∀ g wx, (binOp BinOp.eql 55 (.pointer (some ⟨g, 0, none⟩)) (.pointer none)).run Try.prog wx = .ok (.bool false) wx := fun g wx => by rfl
    obtain ⟨X, hX⟩ : ∃ X, packAll z1 l = X := ⟨_, rfl⟩
    obtain ⟨Z, hZ⟩ : ∃ Z, packAll z2 r = Z := ⟨_, rfl⟩
    obtain ⟨N, hN⟩ : ∃ N, X.length = N := ⟨_, rfl⟩
    obtain ⟨M, hM⟩ : ∃ M, Z.length = M := ⟨_, rfl⟩
    have hND : sizeP n z1 ≤ 8001 := by
      have : n * z1 ≤ 1000 * 64 := Nat.mul_le_mul (by omega) hz12
      unfold sizeP; omega
    have hMD : sizeP m z2 ≤ 8001 := by
      have : m * z2 ≤ 1000 * 64 := Nat.mul_le_mul (by omega) hz22
      unfold sizeP; omega
    have hNb : N ≤ 8100 := by
      have h1 := put_le10 n (by omega)
      rw [← hN, ← hX, packAll_length, hn.out]; omega
    have hMb : 1 ≤ M ∧ M ≤ 8100 := by
      have h1 := put_le10 m (by omega)
      rw [← hM, ← hZ, packAll_length, hn2.out]; omega
    obtain ⟨hMb1, hMb2⟩ := hMb
    have hrd1 : Hid (readP 16 (X ++ Z) = (z1, l, N, 0)) := hid (by
      rw [← hN, ← hX]
      exact read_pack 16 z1 l Z hz12 (by rw [hn.out]; omega) (widthL_le.1 (by rw [hq1.out]; exact hz11)) hm.out)
    have hrd2 : Hid (readP 32 Z = (z2, r, M, 0)) := hid (by
      rw [← hM, ← hZ]
      have h := read_pack 32 z2 r [] hz22 (by rw [hn2.out]; omega) (widthL_le.1 (by rw [hq2.out]; exact hz21)) hm2.out
      rwa [List.append_nil] at h)
    replace hX := hid hX
    replace hZ := hid hZ
    replace hN := hid hN
    replace hM := hid hM
    have hz11 := hid hz11
    have hz21 := hid hz21
    have hrA := hr.below hbc
    have hrB := hr2.below hbc
    clear hND hMD
    go_wp2_with fail
    refine (newOk16 z1 A n l c _ hn.out hrA hA.out (by omega) hm hz12 (by rw [hq1.out]; exact hz11.out)).mono ?_
    rintro e w1 ⟨g1, rfl, hg1, hv1, hb1⟩
    go_wp2_with fail
    refine (newOk32 z2 B m r d _ hn2.out (hrB.below hb1) hB.out (by omega) hm2 hz22 (by rw [hq2.out]; exact hz21.out)).mono ?_
    rintro e w2 ⟨g2, rfl, hg2, hv2, hb2⟩
    have hbw1 := hbc.trans (hb1.mono hbc.size)
    have hbw2 := hbw1.trans (hb2.mono hbw1.size)
    have hv1 := hv1.below hb2
    have hv1w := hv1
    go_wp2_with fail
    refine (bytes16 g1 z1 n l _ hv1 hz12 hn.out (by omega) hm).mono ?_
    rintro e w3 ⟨A3, c3, rfl, hown3, hb3⟩
    rw [hX.out, hN.out] at hown3 ⊢
    have hv1 := hv1.below hb3
    have hv2 := hv2.below hb3
    have hbw3 := hbw2.trans (hb3.mono hbw2.size)
    go_wp2_with fail
    refine (bytes32 g2 z2 m r _ hv2 hz22 hn2.out (by omega) hm2).mono ?_
    rintro e w4 ⟨A4, c4, rfl, hown4, hb4⟩
    rw [hZ.out, hM.out] at hown4 ⊢
    have hv1 := hv1.below hb4
    have hbw4 := hbw3.trans (hb4.mono hbw3.size)
    have hown3' := hown3.kept (⟨hb4.os, hb4.tape, hb4.output, hb4.size, fun k hk _ => hb4.block k hk⟩ : w3.grownBy w4 none) (by rcases (Value.slice A3 N c3).ownBlock with _ | q; exact .inl rfl; exact .inr (by simp))
    have hs23 : w2.heap.size ≤ w4.heap.size := Nat.le_trans hb3.size hb4.size
    go_wp2_with (at_builtin; refine wpList_app _ rfl (.tmp 67) (.tmp 69) 23 rfl w2.heap.size 5 i0 (.int .u8 0) 1 Try.underlying23 hi hz0 hz1 hz2 rfl _ _ _ _ rfl hown3' _ _ _ _ rfl (Rd.of_own hown4) (by rw [cb_length, hM.out]) (cb_one _) (by unfold maxLen; omega) (by omega) hs23 ?_; intro A5 c5 w5 hown5 hg5 hb5 _)
    have hb25 : Below w2.heap.size w2 w5 := (hb3.trans (hb4.mono hb3.size)).trans hb5
    have hbw5 := hbw2.trans (hb25.mono hbw2.size)
    have hv1 := hv1w.below hb25
    have hrA5 := hr.below hbw5
    have hrB5 := hr2.below hbw5
    rw [← cb_append] at hown5
    have hcap5 := own_cap hown5
    have hr5 := Rd.of_own hown5
    have hcN : ¬ c5 = N := by omega
    have hNM : (N : Int) ≤ (N : Int) + (M : Int) := by omega
    have hNc : (N : Int) + (M : Int) ≤ (c5 : Int) := by omega
    have hNMl : Hid ((X ++ Z).length = N + M) := hid (by rw [List.length_append, hN.out, hM.out])
    clear hv1w hown3 hown3' hown4 hown5 hg5 hb3 hb4 hb5 hv2 hb25 hbw1 hbw3 hbw4 hb1 hb2 hrA hrB
    refine (read16 A5 (N + M) c5 (X ++ Z) w5 hNMl.out hr5 hcap5.1 hcap5.2 (by omega)).mono ?_
    rintro e w6 ⟨hb6, h6⟩
    rw [hrd1.out] at h6
    rw [if_pos rfl] at h6
    obtain ⟨g3, rfl, hg3, hv3⟩ := h6
    have hv1 := hv1.below hb6
    have hn1 : ((N : Int) != (N : Int)) = false := by simp
    go_wp2_with fail
    refine (bytes16 g1 z1 n l _ hv1 hz12 hn.out (by omega) hm).mono ?_
    rintro e w7 ⟨A7, c7, rfl, hown7, hb7⟩
    rw [hX.out, hN.out] at hown7 ⊢
    have hr57 : Rd w7 A5 (cb (X ++ Z)) := (hr5.below hb6).below hb7
    have hr5d := hr57.drop N
    have hdrop : (cb (X ++ Z)).drop N = cb Z := by rw [cb_drop, ← hN.out, List.drop_left]
    rw [hdrop] at hr5d
    have hbw6 := hbw5.trans (hb6.mono hbw5.size)
    have hbw7 := hbw6.trans (hb7.mono hbw6.size)
    have hv3 := hv3.below hb7
    have hcM : M ≤ c5 - N := by omega
    have hcmx : c5 - N ≤ maxLen := by unfold maxLen; unfold maxLen at hcap5; omega
    have hNM2 : N + M - N = M := by omega
    replace hdrop := hid hdrop
    clear hown7 hr57 hr5
    go_wp2_with fail
    clear hNM2
    refine (read32 _ M (c5 - N) Z w7 hM.out hr5d hcM hcmx (by omega)).mono ?_
    rintro e w8 ⟨hb8, h8⟩
    rw [hrd2.out] at h8
    rw [if_pos rfl] at h8
    obtain ⟨g4, rfl, hg4, hv4⟩ := h8
    have hv3 := hv3.below hb8
    have hbw8 := hbw7.trans (hb8.mono hbw7.size)
    have hn2' : ((n : Int) != (n : Int)) = false := by simp
    have hn3 : ((m : Int) != (m : Int)) = false := by simp
    have hn4 : (((N : Int) + (M : Int)) != ((N : Int) + (M : Int))) = false := by simp
    have hl3 : (l.length : Int) = (n : Int) := by rw [hn.out]
    have hl4 : (r.length : Int) = (m : Int) := by rw [hn2.out]
    clear hr5d
    go_wp2_with (first | (go_at_call 28; refine (len16 g3 z1 l _ hv3).mono ?_; rintro e w9 ⟨rfl, rfl⟩; rw [hl3]) | (go_at_call 29; refine (len32 g4 z2 r _ hv4).mono ?_; rintro e w9 ⟨rfl, rfl⟩; rw [hl4]))
    have hbl := hbw8
    clear hv1 hn1 hn2' hn3 hn4 hl3 hl4
    go_loopw [20] (fun i wr => ∃ p : Nat, i = .int .i64 p ∧ p ≤ n ∧ Below w8.heap.size w8 wr) (fun i _ => n - (intOf i).toNat)
    case atStart => exact ⟨0, rfl, Nat.zero_le _, Below.refl _ w8⟩
    case round =>
      obtain ⟨p, rfl, hp, hby⟩ := hrel
      have hbz := hbw8.trans (hby.mono hbw8.size)
      by_cases hpn : p < n
      · have hpl : p < l.length := by rw [hn.out]; exact hpn
        obtain ⟨b, o, rfl, hb, hc⟩ := hr (by rw [uk_length]; omega)
        have hce := hc p _ (uk_get .u16 l p hpl)
        have hgg := getN16_in l p hpl
        obtain ⟨x, hx⟩ : ∃ x, l[p] = x := ⟨_, rfl⟩
        rw [hx] at hce hgg
        have q0 : ∀ wx, Ext wr wx → wx.cell? ⟨b, o + p, none⟩ = some (.int .u16 (x : Int)) := fun wx hx => ((hbz.trans (Below.mono hx hbz.size)).cell (p := ⟨b, o + p, none⟩) hb).trans hce
        have c0 : ∀ wx, Ext wr wx → Calls Try.prog 30 #[.pointer (some ⟨g3, 0, none⟩), .int .i64 (p : Int)] wx fun e w' => e = .returned (.int .u16 (x : Int)) ∧ wx = w' := fun wx hx => by
          have h := get16 g3 z1 n l (p : Int) wx ((hv3.below hby).below hx) hn.out (by omega)
          rwa [hgg] at h
        have hpI : (p : Int) < (n : Int) := by omega
        have hxx : ((x : Int) != (x : Int)) = false := by simp
        have hx0 : Ext wr wr := Ext.refl wr
        replace hx := hid hx
        clear hce hgg hc
        go_wp2
        refine wp_region_free (by kernel_rfl) (by kernel_rfl) ?_
        repeat
          (refine walk_q ?_
           apply Exists.intro
           refine ⟨fun vs wx hw hd => ?_, ?_⟩
           rotate_left
           simp only [Act.put, Nat.reduceAdd, List.setIfInBounds_toArray, List.set_cons_succ, List.set_cons_zero]
           rotate_right
           focus
             (try simp [updE, Region.binds] at hd)
             go_simp
             try go_bits
             try (rw [if_pos (by omega)]; try go_simp; try go_bits)
             try (rw [if_neg (by omega)]; try go_simp; try go_bits)
             first
               | rfl
               | (go_at_call 30; refine (c0 _ hw).mono ?_; rintro e w9 ⟨rfl, rfl⟩; exact ⟨rfl, Below.refl _ _⟩))
        refine walk_end ?_
        intro vs wx hw hv
        simp [AllE, updE] at hv
        simp only [hv]
        clear hv
        have hb9 := hby.trans (Below.mono hw hby.size)
        clear q0 c0
        go_wp2
        go_roundw
        case rel => exact ⟨p + 1, by go_num, by omega, hb9⟩
        case measure => simp [intOf]; omega
      · obtain rfl : p = n := by omega
        have hv4 := hv4.below hby
        clear hv3
        go_wp2_with fail
        go_loopw [21] (fun i wx => ∃ p : Nat, i = .int .i64 p ∧ p ≤ m ∧ Below wr.heap.size wr wx) (fun i _ => m - (intOf i).toNat)
        case atStart => exact ⟨0, rfl, Nat.zero_le _, Below.refl _ _⟩
        case round =>
          obtain ⟨q, rfl, hq, hbq⟩ := hrel
          have hbz2 := hbz.trans (hbq.mono hbz.size)
          by_cases hqm : q < m
          · have hpl : q < r.length := by rw [hn2.out]; exact hqm
            obtain ⟨b, o, rfl, hb, hc⟩ := hr2 (by rw [uk_length]; omega)
            have hce := hc q _ (uk_get .u32 r q hpl)
            have hgg := getN32_in r q hpl
            obtain ⟨x, hx⟩ : ∃ x, r[q] = x := ⟨_, rfl⟩
            rw [hx] at hce hgg
            have q0 : ∀ wx, Ext wr wx → wx.cell? ⟨b, o + q, none⟩ = some (.int .u32 (x : Int)) := fun wx hx => ((hbz2.trans (Below.mono hx hbz2.size)).cell (p := ⟨b, o + q, none⟩) hb).trans hce
            have c0 : ∀ wx, Ext wr wx → Calls Try.prog 31 #[.pointer (some ⟨g4, 0, none⟩), .int .i64 (q : Int)] wx fun e w' => e = .returned (.int .u32 (x : Int)) ∧ wx = w' := fun wx hx => by
              have h := get32 g4 z2 m r (q : Int) wx ((hv4.below hbq).below hx) hn2.out (by omega)
              rwa [hgg] at h
            have hpI : (q : Int) < (m : Int) := by omega
            have hxx : ((x : Int) != (x : Int)) = false := by simp
            have hx0 : Ext wr wr := Ext.refl wr
            replace hx := hid hx
            clear hce hgg hc
            go_wp2
            refine wp_region_free (by kernel_rfl) (by kernel_rfl) ?_
            repeat
              (refine walk_q ?_
               apply Exists.intro
               refine ⟨fun vs wx hw hd => ?_, ?_⟩
               rotate_left
               simp only [Act.put, Nat.reduceAdd, List.setIfInBounds_toArray, List.set_cons_succ, List.set_cons_zero]
               rotate_right
               focus
                 (try simp [updE, Region.binds] at hd)
                 go_simp
                 try go_bits
                 try (rw [if_pos (by omega)]; try go_simp; try go_bits)
                 try (rw [if_neg (by omega)]; try go_simp; try go_bits)
                 first
                   | rfl
                   | (go_at_call 31; refine (c0 _ hw).mono ?_; rintro e w9 ⟨rfl, rfl⟩; exact ⟨rfl, Below.refl _ _⟩))
            refine walk_end ?_
            intro vs wx hw hv
            simp [AllE, updE] at hv
            simp only [hv]
            clear hv
            have hb9 := hbq.trans (Below.mono hw hbq.size)
            clear q0 c0
            go_wp2
            go_roundw
            case rel => exact ⟨q + 1, by go_num, by omega, hb9⟩
            case measure => simp [intOf]; omega
          · obtain rfl : q = m := by omega
            go_wp2_with (go_at_call 11; refine (awake_any _).mono ?_; rintro e w9 ⟨rfl, hb9⟩)
            go_ret
            exact ⟨rfl, hbz2.trans (hb9.mono hbz2.size)⟩
end Go.Proofs.Ytgclakhcddadpaa
