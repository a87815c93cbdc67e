/-
  THE WALK of NumFixes.
-/
import Derived.Test.YtkaigeodeabicaaNumH
namespace Go.Proofs.Ytkaigeodeabicaa
open Go.RowKit

theorem fixSize_le (k : Nat) (h : k ≤ 8) : fixSize (k : Int) = k := by unfold fixSize; omega

theorem fixedR_at (n k : Nat) (l : List UInt8) (h : k ≤ 8) : fixedR (fix n k ++ l) k = (n % 256 ^ k, 0) := by
  unfold fixedR
  rw [if_neg (by omega), if_neg (by rw [List.length_append, fix_length]; omega)]
  rw [Int.toNat_natCast, List.take_append_of_le_length (by rw [fix_length]; omega), List.take_of_length_le (by rw [fix_length]; omega), fixed_fix]

theorem mask_eq (n k : Nat) (hn : n < 18446744073709551616) (hk : k ≤ 8) :
    k < 8 → bits BinOp.and IntKind.u64 (n : Int) (IntKind.u64.wrap (IntKind.u64.wrap (2 ^ (8 * k)) - 1)) = ((n % 256 ^ k : Nat) : Int) := by
  intro h8
  have h1 : 2 ^ (8 * k) ≤ 2 ^ 56 := Nat.pow_le_pow_right (by omega) (by omega)
  have h0 : 1 ≤ 2 ^ (8 * k) := Nat.one_le_pow _ _ (by omega)
  have e1 : ((2 : Int) ^ (8 * k)) = ((2 ^ (8 * k) : Nat) : Int) := by rw [Int.natCast_pow]; rfl
  rw [e1, IntKind.wrap_u64, IntKind.wrap_u64]
  rw [show (((2 ^ (8 * k) : Nat) : Int) % 18446744073709551616 - 1) % 18446744073709551616 = ((2 ^ (8 * k) - 1 : Nat) : Int) from by omega]
  rw [u64_and_nat _ _ hn (by omega), Nat.and_two_pow_sub_one_eq_mod, Nat.pow_mul]

theorem own_none {w : World} {base : Nat} {e : TypeId} {A : Option Addr} {n c : Nat} {xs : List Value} (h : w.ownsRow base e 1 (.slice A n c) n xs) (hA : A = none) : n = 0 := by
  rcases Nat.eq_zero_or_pos n with h0 | h0
  · exact h0
  · obtain ⟨g, hg, _⟩ := own_addr h h0
    rw [hA] at hg
    cases hg

theorem fix_nil (n k : Nat) (w : World) (hn : Hid (n < 18446744073709551616)) (hk : k ≤ 8) :
    Calls Try.prog 16 #[.slice none 0 0, .int .u64 n, .int .i64 k] w (ResC 5 k (cb (fix n k)) w) := by
  have h := fix_any none [] 0 n k k w (Rd.nil _ _) (fun _ => rfl) (by simp) hn (fixSize_le k hk)
  simpa using h

set_option maxHeartbeats 1000000 in
set_option maxRecDepth 100000 in
theorem fixes_walk (n : Nat) (size : Int) (A : Option Addr) (L : Nat) (c : Nat) (l : List UInt8) (w : World) (hn : Hid (n < 18446744073709551616)) (hL : l.length = L) (hr : Rd w A (cb l)) (hA : A = none → l = []) :
    Calls Try.prog 9 #[.int .u64 n, .int .i64 size, .slice A L c] w (Yes w) := by
  obtain ⟨i0, hi, hz0, hz1, hz2⟩ := info_parts info_u8
  replace hL := hid hL
  by_cases hbig : 100 < L
  · go_enter Try.func9, Try.ntmps9
    go_wp2_with (go_at_call 12; refine (awake_any _).mono ?_; rintro e w3 ⟨rfl, hb3⟩)
    go_ret
    exact ⟨rfl, hb3⟩
  · obtain ⟨r, hr255, hb⟩ := i64_mask size 255 (by omega)
    have hb : bits BinOp.and IntKind.i64 size 255 = (r : Int) := hb
    obtain ⟨k, hk, hk8⟩ : ∃ k : Nat, (r : Int) % 9 = (k : Int) ∧ k ≤ 8 := ⟨r % 9, by omega, by omega⟩
    have hR1 := hid (fixedR_at n k l hk8)
    have hR2 : Hid (fixedR (fix n k ++ l) 9 = (0, 1)) := by refine hid ?_; unfold fixedR; rw [if_pos (.inr (by omega))]
    have hlen : Hid ((fix n k ++ l).length = k + L) := by refine hid ?_; rw [List.length_append, fix_length, hL.out]
    have hmask := mask_eq n k hn.out hk8
    by_cases hk0 : k = 0
    · have hR3 : Hid (fixedR ([] : List UInt8) 0 = (0, 0)) := hid (by decide)
      subst hk0
      have hR1 : Hid (fixedR l 0 = (0, 0)) := by refine hid ?_; rw [show (fixedR l 0) = fixedR (fix n 0 ++ l) ((0 : Nat) : Int) from rfl, fixedR_at n 0 l (by omega), Nat.pow_zero, Nat.mod_one]
      have hmask : bits BinOp.and IntKind.u64 (n : Int) 0 = 0 := by
        have h := u64_and_nat n 0 hn.out (by omega)
        rw [Nat.and_zero] at h
        exact h
      clear hlen
      go_enter Try.func9, Try.ntmps9
      go_wp2_with (first
        | (go_at_call 16; refine (fix_nil n 0 w hn hk8).mono ?_; rintro e w1 ⟨A1, c1, rfl, hown1, hb1⟩)
        | (at_builtin; (refine wpList_appC _ rfl (.tmp 24) (.tmp 25) 23 rfl 5 i0 (.int .u8 0) 1 Try.underlying23 hi hz0 hz1 hz2 rfl _ _ _ rfl (Rd.of_own hown1) (by simp [cb, fix_length]) (fun h => own_none hown1 h) _ _ _ _ rfl (hr.below hb1) (by rw [cb_length]; exact hL.out) (cb_one l) (by unfold maxLen; omega) (by unfold maxLen; omega) (by omega) ?_); intro A2 c2 w2 hd2 hc2 hm2 hb2 hn2 _))
      rw [← cb_append, show fix n 0 = [] from rfl, List.nil_append] at hd2
      unfold maxLen at hm2
      refine (fixed_any A2 L l c2 0 w2 hL.out (by omega) hd2 (by omega)).mono ?_
      rintro e w3 ⟨rfl, rfl⟩
      rw [hR1.out]
      go_wp2_with fail
      refine (fixed_any A2 L l c2 9 w2 hL.out (by omega) hd2 (by omega)).mono ?_
      rintro e w3 ⟨rfl, rfl⟩
      rw [show fixedR l 9 = (0, 1) from hR2.out]
      go_wp2_with fail
      refine (fixed_any A2 0 [] c2 0 w2 rfl (by omega) (Rd.nil _ _) (by omega)).mono ?_
      rintro e w3 ⟨rfl, rfl⟩
      rw [hR3.out]
      go_wp2_with (go_at_call 12; refine (awake_any _).mono ?_; rintro e w3 ⟨rfl, hb3⟩)
      go_ret
      exact ⟨rfl, (hb1.trans (hb2.mono hb1.size)).trans (hb3.mono (Nat.le_trans hb1.size hb2.size))⟩
    · have hR3 : Hid (fixedR ((fix n k ++ l).take (k - 1)) k = (0, 4)) := by refine hid ?_; unfold fixedR; rw [if_neg (by omega), if_pos (by rw [List.length_take, hlen.out]; omega)]
      have hkb : ((k : Int) == 0) = false := by rw [beq_eq_false_iff_ne]; omega
      by_cases h8 : k < 8
      · go_enter Try.func9, Try.ntmps9
        go_wp2_with (first
          | (go_at_call 16; refine (fix_nil n k w hn hk8).mono ?_; rintro e w1 ⟨A1, c1, rfl, hown1, hb1⟩)
          | (at_builtin; (refine wpList_appC _ rfl (.tmp 24) (.tmp 25) 23 rfl 5 i0 (.int .u8 0) 1 Try.underlying23 hi hz0 hz1 hz2 rfl _ _ _ rfl (Rd.of_own hown1) (by simp [cb, fix_length]) (fun h => own_none hown1 h) _ _ _ _ rfl (hr.below hb1) (by rw [cb_length]; exact hL.out) (cb_one l) (by unfold maxLen; omega) (by unfold maxLen; omega) (by omega) ?_); intro A2 c2 w2 hd2 hc2 hm2 hb2 hn2 _))
        rw [← cb_append] at hd2
        unfold maxLen at hm2
        refine (fixed_any A2 (k + L) (fix n k ++ l) c2 k w2 hlen.out hc2 hd2 (by omega)).mono ?_
        rintro e w3 ⟨rfl, rfl⟩
        rw [hR1.out]
        go_wp2_with fail
        refine (fixed_any A2 (k + L) (fix n k ++ l) c2 9 w2 hlen.out hc2 hd2 (by omega)).mono ?_
        rintro e w3 ⟨rfl, rfl⟩
        rw [hR2.out]
        go_wp2_with fail
        refine (fixed_any A2 (k - 1) (fix n k ++ l |>.take (k - 1)) c2 k w2 (by rw [List.length_take, hlen.out]; omega) (by omega) (by rw [← cb_take]; exact hd2.take _) (by omega)).mono ?_
        rintro e w3 ⟨rfl, rfl⟩
        rw [hR3.out]
        go_wp2_with (go_at_call 12; refine (awake_any _).mono ?_; rintro e w3 ⟨rfl, hb3⟩)
        go_ret
        exact ⟨rfl, (hb1.trans (hb2.mono hb1.size)).trans (hb3.mono (Nat.le_trans hb1.size hb2.size))⟩
      · have hR1 : Hid (fixedR (fix n k ++ l) k = (n, 0)) := by
          refine hid ?_
          rw [hR1.out, show k = 8 from by omega, Nat.mod_eq_of_lt (show n < 256 ^ 8 from hn.out)]
        go_enter Try.func9, Try.ntmps9
        go_wp2_with (first
          | (go_at_call 16; refine (fix_nil n k w hn hk8).mono ?_; rintro e w1 ⟨A1, c1, rfl, hown1, hb1⟩)
          | (at_builtin; (refine wpList_appC _ rfl (.tmp 24) (.tmp 25) 23 rfl 5 i0 (.int .u8 0) 1 Try.underlying23 hi hz0 hz1 hz2 rfl _ _ _ rfl (Rd.of_own hown1) (by simp [cb, fix_length]) (fun h => own_none hown1 h) _ _ _ _ rfl (hr.below hb1) (by rw [cb_length]; exact hL.out) (cb_one l) (by unfold maxLen; omega) (by unfold maxLen; omega) (by omega) ?_); intro A2 c2 w2 hd2 hc2 hm2 hb2 hn2 _))
        rw [← cb_append] at hd2
        unfold maxLen at hm2
        refine (fixed_any A2 (k + L) (fix n k ++ l) c2 k w2 hlen.out hc2 hd2 (by omega)).mono ?_
        rintro e w3 ⟨rfl, rfl⟩
        rw [hR1.out]
        go_wp2_with fail
        refine (fixed_any A2 (k + L) (fix n k ++ l) c2 9 w2 hlen.out hc2 hd2 (by omega)).mono ?_
        rintro e w3 ⟨rfl, rfl⟩
        rw [hR2.out]
        go_wp2_with fail
        refine (fixed_any A2 (k - 1) (fix n k ++ l |>.take (k - 1)) c2 k w2 (by rw [List.length_take, hlen.out]; omega) (by omega) (by rw [← cb_take]; exact hd2.take _) (by omega)).mono ?_
        rintro e w3 ⟨rfl, rfl⟩
        rw [hR3.out]
        go_wp2_with (go_at_call 12; refine (awake_any _).mono ?_; rintro e w3 ⟨rfl, hb3⟩)
        go_ret
        exact ⟨rfl, (hb1.trans (hb2.mono hb1.size)).trans (hb3.mono (Nat.le_trans hb1.size hb2.size))⟩
end Go.Proofs.Ytkaigeodeabicaa
