/-
  THE WALK of NumSizes.
-/
import Derived.Test.YtkaigeodeabicaaNumD
import Derived.BigQuiet
import Derived.Deep.RegionWith
namespace Go.Proofs.Ytkaigeodeabicaa
open Go.RowKit

theorem pow7 (j : Nat) : 128 ^ j = 2 ^ (7 * j) := by rw [Nat.pow_mul]
theorem put_len (n j : Nat) (h1 : 128 ^ j ≤ n) (h2 : n < 128 ^ (j + 1)) : (put n).length = j + 1 := by
  have := put_le j n h2
  have := put_ge j n h1
  omega
theorem put_two (k : Nat) : (put (2 ^ k)).length = k / 7 + 1 := by
  apply put_len
  · rw [pow7]; exact Nat.pow_le_pow_right (by omega) (by omega)
  · rw [pow7]; exact Nat.pow_lt_pow_right (by omega) (by omega)
theorem put_two1 (k : Nat) : (put (2 ^ k - 1)).length = Nat.max ((k + 6) / 7) 1 := by
  rcases Nat.eq_zero_or_pos k with rfl | hk
  · rw [show 2 ^ 0 - 1 = 0 from rfl, put_small (by omega)]; rfl
  · have h1 : 2 ^ k = 2 * 2 ^ (k - 1) := by rw [show k = (k - 1) + 1 from by omega, Nat.pow_succ, Nat.add_sub_cancel]; omega
    have h2 : 1 ≤ 2 ^ (k - 1) := Nat.one_le_pow _ _ (by omega)
    have h3 : (put (2 ^ k - 1)).length = (k - 1) / 7 + 1 := by
      apply put_len
      · rw [pow7]
        have : 2 ^ (7 * ((k - 1) / 7)) ≤ 2 ^ (k - 1) := Nat.pow_le_pow_right (by omega) (by omega)
        omega
      · rw [pow7]
        have : 2 ^ k ≤ 2 ^ (7 * ((k - 1) / 7 + 1)) := Nat.pow_le_pow_right (by omega) (by omega)
        omega
    rw [h3, show Nat.max ((k + 6) / 7) 1 = max ((k + 6) / 7) 1 from rfl]
    omega

/-- What Put hands back, as a string asked for later. -/
def PutCv (n : Nat) (w : World) (e : Ending) (w' : World) : Prop :=
  ∃ A, e = .returned (.slice A (put n).length (put n).length) ∧ (∀ wx, Below w'.heap.size w' wx → (convert 23 9 (.slice A (put n).length (put n).length)).run Try.prog wx = .ok (.string ⟨(put n).toArray⟩) wx) ∧
    Below w.heap.size w w' ∧ Below w'.heap.size w' w'

theorem put_cv (n : Nat) (w : World) (hn : Hid (n < 18446744073709551616)) : Calls Try.prog 10 #[.slice none 0 0, .int .u64 n] w (PutCv n w) := by
  refine (put_nil n _ w rfl hn).mono ?_
  rintro e w' ⟨A, c, rfl, hown, hb⟩
  exact ⟨A, rfl, fun wx hx => run_strn wx 23 9 5 Try.underlying23 Try.underlying5 Try.underlying9 A _ (put n) _ rfl ((Rd.of_own hown).below hx), hb, Below.refl _ _⟩

theorem chain3 {w a b c : World} (h1 : Below w.drew.heap.size w.drew a) (h2 : Below a.heap.size a b) (h3 : Below b.heap.size b c) : Below w.heap.size w c := by
  have h0 : Below w.heap.size w w.drew := (Below.refl _ w).drew
  have h1' : Below w.heap.size w.drew a := h1
  have s1 := h1.size
  have s2 := h2.size
  have e : w.drew.heap.size = w.heap.size := rfl
  exact ((h0.trans h1').trans (h2.mono (by omega))).trans (h3.mono (by omega))

set_option maxHeartbeats 4000000 in
set_option maxRecDepth 100000 in
theorem sizes_walk (b : Int) (n m : Nat) (w : World) (hn : Hid (n < 18446744073709551616)) (hm : Hid (m < 18446744073709551616)) :
    Calls Try.prog 5 #[.int .i64 b, .int .u64 n, .int .u64 m] w (Yes w) := by
  obtain ⟨k, hk, hb⟩ := i64_mask b 63 (by omega)
  have hb : bits BinOp.and IntKind.i64 b 63 = (k : Int) := hb
  go_enter Try.func5, Try.ntmps5
  have hk64 : 2 ^ k < 18446744073709551616 := by
    have : 2 ^ k ≤ 2 ^ 63 := Nat.pow_le_pow_right (by omega) hk
    omega
  have hk1 : 1 ≤ 2 ^ k := Nat.one_le_pow _ _ (by omega)
  have e1 : ((2 : Int) ^ k) = ((2 ^ k : Nat) : Int) := by rw [Int.natCast_pow]; rfl
  have e2 : IntKind.u64.wrap ((2 : Int) ^ k) = ((2 ^ k : Nat) : Int) := by rw [e1, IntKind.wrap_u64]; omega
  have e3 : IntKind.u64.wrap (IntKind.u64.wrap ((2 : Int) ^ k) - 1) = ((2 ^ k - 1 : Nat) : Int) := by rw [e2, IntKind.wrap_u64]; omega
  replace e2 := hid e2
  replace e3 := hid e3
  replace hk64 := hid hk64
  replace hk1 := hid hk1
  replace e1 := hid e1
  go_wp2_with fail
  rw [e2.out]
  refine (size_any (2 ^ k) _ hk64).mono ?_
  rintro e w1 ⟨rfl, rfl⟩
  rw [put_two, show ((k / 7 + 1 : Nat) : Int) = (k : Int) / 7 + 1 from by omega]
  go_wp2_with fail
  rw [e3.out]
  have hJ : (if ((k : Int) + 6) / 7 < 1 then (1 : Int) else ((k : Int) + 6) / 7) = ((put (2 ^ k - 1)).length : Int) := by
    rw [put_two1, show Nat.max ((k + 6) / 7) 1 = max ((k + 6) / 7) 1 from rfl]
    split <;> omega
  refine (size_any (2 ^ k - 1) _ (hid (by have := hk64.out; omega))).mono ?_
  rintro e w1 ⟨rfl, rfl⟩
  generalize (put (2 ^ k - 1)).length = J at hJ ⊢
  by_cases hlt : m < n
  · have hpe : (put m == put n) = false := by
      rw [beq_eq_false_iff_ne]
      intro h
      have := put_inj _ _ h
      omega
    have hpl := put_mono m n (by omega)
    have hnm : ((m : Int) == (n : Int)) = false := by rw [beq_eq_false_iff_ne]; omega
    go_wp2_with fail
    go_region_with (first
      | (go_at_call 15; refine (size_any _ _ (by assumption)).mono ?_; rintro e w3 ⟨rfl, rfl⟩)
      | (go_at_call 10; refine (put_cv _ _ (by assumption)).mono ?_; rintro e w3 ⟨A, rfl, hcv, hb, hbr⟩)
      | (go_at_call 12; refine (awake_any _).mono ?_; rintro e w3 ⟨rfl, hb3⟩))
    all_goals go_wp2
    all_goals go_ret
    all_goals exact ⟨rfl, chain3 (by assumption) (by assumption) (by assumption)⟩
  · by_cases hnm : n = m
    · subst hnm
      go_wp2_with fail
      go_region_with (first
        | (go_at_call 15; refine (size_any _ _ (by assumption)).mono ?_; rintro e w3 ⟨rfl, rfl⟩)
        | (go_at_call 10; refine (put_cv _ _ (by assumption)).mono ?_; rintro e w3 ⟨A, rfl, hcv, hb, hbr⟩)
        | (go_at_call 12; refine (awake_any _).mono ?_; rintro e w3 ⟨rfl, hb3⟩))
      all_goals go_wp2
      all_goals go_ret
      all_goals exact ⟨rfl, chain3 (by assumption) (by assumption) (by assumption)⟩
    · have hpe : (put n == put m) = false := by
        rw [beq_eq_false_iff_ne]
        intro h
        have := put_inj _ _ h
        omega
      have hpl := put_mono n m (by omega)
      have hnm : ((n : Int) == (m : Int)) = false := by rw [beq_eq_false_iff_ne]; omega
      go_wp2_with fail
      go_region_with (first
        | (go_at_call 15; refine (size_any _ _ (by assumption)).mono ?_; rintro e w3 ⟨rfl, rfl⟩)
        | (go_at_call 10; refine (put_cv _ _ (by assumption)).mono ?_; rintro e w3 ⟨A, rfl, hcv, hb, hbr⟩)
        | (go_at_call 12; refine (awake_any _).mono ?_; rintro e w3 ⟨rfl, hb3⟩))
      all_goals go_wp2
      all_goals go_ret
      all_goals exact ⟨rfl, chain3 (by assumption) (by assumption) (by assumption)⟩
end Go.Proofs.Ytkaigeodeabicaa
