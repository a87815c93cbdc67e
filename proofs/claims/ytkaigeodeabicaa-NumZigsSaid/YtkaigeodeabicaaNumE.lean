/-
  THE WALK of NumZigs.
-/
import Derived.Test.YtkaigeodeabicaaNumD
namespace Go.Proofs.Ytkaigeodeabicaa
open Go.RowKit

theorem tmod62 (a : Int) : -4611686018427387904 < a.tmod 4611686018427387904 ∧ a.tmod 4611686018427387904 < 4611686018427387904 := by
  have h1 := Int.tmod_lt_of_pos a (b := 4611686018427387904) (by omega)
  have h2 := Int.tmod_lt_of_pos (-a) (b := 4611686018427387904) (by omega)
  rw [Int.neg_tmod] at h2
  omega

theorem zig_neg {p : Int} (h : p < 0) : zig p = -2 * p - 1 := by unfold zig; rw [if_pos h]
theorem zig_nn {p : Int} (h : 0 ≤ p) : zig p = 2 * p := by unfold zig; rw [if_neg (by omega)]

set_option maxHeartbeats 1000000 in
set_option maxRecDepth 100000 in
theorem zigs_walk (a b : Int) (w : World) :
    Calls Try.prog 4 #[.int .i64 a, .int .i64 b] w (Yes w) := by
  have h1 := tmod62 a
  have h2 := tmod62 b
  obtain ⟨p, hp⟩ : ∃ p, a.tmod 4611686018427387904 = p := ⟨_, rfl⟩
  obtain ⟨q, hq⟩ : ∃ q, b.tmod 4611686018427387904 = q := ⟨_, rfl⟩
  rw [hp] at h1
  rw [hq] at h2
  obtain ⟨h1a, h1b⟩ := h1
  obtain ⟨h2a, h2b⟩ := h2
  have hz0 : zig 0 = 0 := by decide
  have key : (p < 0 ∧ q < 0 ∧ -p < -q) ∨ (p < 0 ∧ q < 0 ∧ -q < -p) ∨ (p < 0 ∧ p = q) ∨ (p < 0 ∧ 0 ≤ q ∧ -p < q) ∨ (p < 0 ∧ 0 ≤ q ∧ q < -p) ∨ (p < 0 ∧ q = -p) ∨
      (0 < p ∧ q < 0 ∧ p < -q) ∨ (0 < p ∧ q < 0 ∧ -q < p) ∨ (0 < p ∧ q = -p) ∨ (0 < p ∧ 0 ≤ q ∧ p < q) ∨ (0 < p ∧ 0 ≤ q ∧ q < p) ∨ (0 < p ∧ p = q) ∨
      (p = 0 ∧ q < 0) ∨ (p = 0 ∧ q = 0) ∨ (p = 0 ∧ 0 < q) := by omega
  rcases key with ⟨k1, k2, k3⟩ | ⟨k1, k2, k3⟩ | ⟨k1, rfl⟩ | ⟨k1, k2, k3⟩ | ⟨k1, k2, k3⟩ | ⟨k1, rfl⟩ | ⟨k1, k2, k3⟩ | ⟨k1, k2, k3⟩ | ⟨k1, rfl⟩ | ⟨k1, k2, k3⟩ | ⟨k1, k2, k3⟩ | ⟨k1, rfl⟩ | ⟨rfl, k2⟩ | ⟨rfl, rfl⟩ | ⟨rfl, k2⟩
  · have e1 := zig_neg k1
    have e3 : zig (-p) = -2 * p := by rw [zig_nn (by omega)]; omega
    have e5 : ((-2 * p - 1 : Int) == -2 * p) = false := by rw [beq_eq_false_iff_ne]; omega
    have e4 : zag (-2 * p - 1) = p := by rw [← e1]; exact zag_zig p
    have e2 := zig_neg k2
    go_enter Try.func4, Try.ntmps4
    go_wp2_with (first
      | (go_at_call 13; refine (zig_any _ _ (by omega)).mono ?_; rintro e w3 ⟨rfl, rfl⟩)
      | (go_at_call 14; refine (zag_any _ _ (by omega)).mono ?_; rintro e w3 ⟨rfl, rfl⟩)
      | (go_at_call 12; refine (awake_any _).mono ?_; rintro e w3 ⟨rfl, hb3⟩))
    all_goals first | (exfalso; omega) | (go_ret; exact ⟨rfl, by assumption⟩)
  · have e1 := zig_neg k1
    have e3 : zig (-p) = -2 * p := by rw [zig_nn (by omega)]; omega
    have e5 : ((-2 * p - 1 : Int) == -2 * p) = false := by rw [beq_eq_false_iff_ne]; omega
    have e4 : zag (-2 * p - 1) = p := by rw [← e1]; exact zag_zig p
    have e2 := zig_neg k2
    go_enter Try.func4, Try.ntmps4
    go_wp2_with (first
      | (go_at_call 13; refine (zig_any _ _ (by omega)).mono ?_; rintro e w3 ⟨rfl, rfl⟩)
      | (go_at_call 14; refine (zag_any _ _ (by omega)).mono ?_; rintro e w3 ⟨rfl, rfl⟩)
      | (go_at_call 12; refine (awake_any _).mono ?_; rintro e w3 ⟨rfl, hb3⟩))
    all_goals first | (exfalso; omega) | (go_ret; exact ⟨rfl, by assumption⟩)
  · have e1 := zig_neg k1
    have e3 : zig (-p) = -2 * p := by rw [zig_nn (by omega)]; omega
    have e5 : ((-2 * p - 1 : Int) == -2 * p) = false := by rw [beq_eq_false_iff_ne]; omega
    have e4 : zag (-2 * p - 1) = p := by rw [← e1]; exact zag_zig p
    go_enter Try.func4, Try.ntmps4
    go_wp2_with (first
      | (go_at_call 13; refine (zig_any _ _ (by omega)).mono ?_; rintro e w3 ⟨rfl, rfl⟩)
      | (go_at_call 14; refine (zag_any _ _ (by omega)).mono ?_; rintro e w3 ⟨rfl, rfl⟩)
      | (go_at_call 12; refine (awake_any _).mono ?_; rintro e w3 ⟨rfl, hb3⟩))
    all_goals first | (exfalso; omega) | (go_ret; exact ⟨rfl, by assumption⟩)
  · have e1 := zig_neg k1
    have e3 : zig (-p) = -2 * p := by rw [zig_nn (by omega)]; omega
    have e5 : ((-2 * p - 1 : Int) == -2 * p) = false := by rw [beq_eq_false_iff_ne]; omega
    have e4 : zag (-2 * p - 1) = p := by rw [← e1]; exact zag_zig p
    have e2 : zig q = 2 * q := zig_nn (by omega)
    go_enter Try.func4, Try.ntmps4
    go_wp2_with (first
      | (go_at_call 13; refine (zig_any _ _ (by omega)).mono ?_; rintro e w3 ⟨rfl, rfl⟩)
      | (go_at_call 14; refine (zag_any _ _ (by omega)).mono ?_; rintro e w3 ⟨rfl, rfl⟩)
      | (go_at_call 12; refine (awake_any _).mono ?_; rintro e w3 ⟨rfl, hb3⟩))
    all_goals first | (exfalso; omega) | (go_ret; exact ⟨rfl, by assumption⟩)
  · have e1 := zig_neg k1
    have e3 : zig (-p) = -2 * p := by rw [zig_nn (by omega)]; omega
    have e5 : ((-2 * p - 1 : Int) == -2 * p) = false := by rw [beq_eq_false_iff_ne]; omega
    have e4 : zag (-2 * p - 1) = p := by rw [← e1]; exact zag_zig p
    have e2 : zig q = 2 * q := zig_nn (by omega)
    go_enter Try.func4, Try.ntmps4
    go_wp2_with (first
      | (go_at_call 13; refine (zig_any _ _ (by omega)).mono ?_; rintro e w3 ⟨rfl, rfl⟩)
      | (go_at_call 14; refine (zag_any _ _ (by omega)).mono ?_; rintro e w3 ⟨rfl, rfl⟩)
      | (go_at_call 12; refine (awake_any _).mono ?_; rintro e w3 ⟨rfl, hb3⟩))
    all_goals first | (exfalso; omega) | (go_ret; exact ⟨rfl, by assumption⟩)
  · have e1 := zig_neg k1
    have e3 : zig (-p) = -2 * p := by rw [zig_nn (by omega)]; omega
    have e5 : ((-2 * p - 1 : Int) == -2 * p) = false := by rw [beq_eq_false_iff_ne]; omega
    have e4 : zag (-2 * p - 1) = p := by rw [← e1]; exact zag_zig p
    go_enter Try.func4, Try.ntmps4
    go_wp2_with (first
      | (go_at_call 13; refine (zig_any _ _ (by omega)).mono ?_; rintro e w3 ⟨rfl, rfl⟩)
      | (go_at_call 14; refine (zag_any _ _ (by omega)).mono ?_; rintro e w3 ⟨rfl, rfl⟩)
      | (go_at_call 12; refine (awake_any _).mono ?_; rintro e w3 ⟨rfl, hb3⟩))
    all_goals first | (exfalso; omega) | (go_ret; exact ⟨rfl, by assumption⟩)
  · have e1 : zig p = 2 * p := zig_nn (by omega)
    have e3 : zig (-p) = 2 * p - 1 := by rw [zig_neg (by omega)]; omega
    have e5 : ((2 * p : Int) == 2 * p - 1) = false := by rw [beq_eq_false_iff_ne]; omega
    have e4 : zag (2 * p) = p := by rw [← e1]; exact zag_zig p
    have e2 := zig_neg k2
    go_enter Try.func4, Try.ntmps4
    go_wp2_with (first
      | (go_at_call 13; refine (zig_any _ _ (by omega)).mono ?_; rintro e w3 ⟨rfl, rfl⟩)
      | (go_at_call 14; refine (zag_any _ _ (by omega)).mono ?_; rintro e w3 ⟨rfl, rfl⟩)
      | (go_at_call 12; refine (awake_any _).mono ?_; rintro e w3 ⟨rfl, hb3⟩))
    all_goals first | (exfalso; omega) | (go_ret; exact ⟨rfl, by assumption⟩)
  · have e1 : zig p = 2 * p := zig_nn (by omega)
    have e3 : zig (-p) = 2 * p - 1 := by rw [zig_neg (by omega)]; omega
    have e5 : ((2 * p : Int) == 2 * p - 1) = false := by rw [beq_eq_false_iff_ne]; omega
    have e4 : zag (2 * p) = p := by rw [← e1]; exact zag_zig p
    have e2 := zig_neg k2
    go_enter Try.func4, Try.ntmps4
    go_wp2_with (first
      | (go_at_call 13; refine (zig_any _ _ (by omega)).mono ?_; rintro e w3 ⟨rfl, rfl⟩)
      | (go_at_call 14; refine (zag_any _ _ (by omega)).mono ?_; rintro e w3 ⟨rfl, rfl⟩)
      | (go_at_call 12; refine (awake_any _).mono ?_; rintro e w3 ⟨rfl, hb3⟩))
    all_goals first | (exfalso; omega) | (go_ret; exact ⟨rfl, by assumption⟩)
  · have e1 : zig p = 2 * p := zig_nn (by omega)
    have e3 : zig (-p) = 2 * p - 1 := by rw [zig_neg (by omega)]; omega
    have e5 : ((2 * p : Int) == 2 * p - 1) = false := by rw [beq_eq_false_iff_ne]; omega
    have e4 : zag (2 * p) = p := by rw [← e1]; exact zag_zig p
    go_enter Try.func4, Try.ntmps4
    go_wp2_with (first
      | (go_at_call 13; refine (zig_any _ _ (by omega)).mono ?_; rintro e w3 ⟨rfl, rfl⟩)
      | (go_at_call 14; refine (zag_any _ _ (by omega)).mono ?_; rintro e w3 ⟨rfl, rfl⟩)
      | (go_at_call 12; refine (awake_any _).mono ?_; rintro e w3 ⟨rfl, hb3⟩))
    all_goals first | (exfalso; omega) | (go_ret; exact ⟨rfl, by assumption⟩)
  · have e1 : zig p = 2 * p := zig_nn (by omega)
    have e3 : zig (-p) = 2 * p - 1 := by rw [zig_neg (by omega)]; omega
    have e5 : ((2 * p : Int) == 2 * p - 1) = false := by rw [beq_eq_false_iff_ne]; omega
    have e4 : zag (2 * p) = p := by rw [← e1]; exact zag_zig p
    have e2 : zig q = 2 * q := zig_nn (by omega)
    go_enter Try.func4, Try.ntmps4
    go_wp2_with (first
      | (go_at_call 13; refine (zig_any _ _ (by omega)).mono ?_; rintro e w3 ⟨rfl, rfl⟩)
      | (go_at_call 14; refine (zag_any _ _ (by omega)).mono ?_; rintro e w3 ⟨rfl, rfl⟩)
      | (go_at_call 12; refine (awake_any _).mono ?_; rintro e w3 ⟨rfl, hb3⟩))
    all_goals first | (exfalso; omega) | (go_ret; exact ⟨rfl, by assumption⟩)
  · have e1 : zig p = 2 * p := zig_nn (by omega)
    have e3 : zig (-p) = 2 * p - 1 := by rw [zig_neg (by omega)]; omega
    have e5 : ((2 * p : Int) == 2 * p - 1) = false := by rw [beq_eq_false_iff_ne]; omega
    have e4 : zag (2 * p) = p := by rw [← e1]; exact zag_zig p
    have e2 : zig q = 2 * q := zig_nn (by omega)
    go_enter Try.func4, Try.ntmps4
    go_wp2_with (first
      | (go_at_call 13; refine (zig_any _ _ (by omega)).mono ?_; rintro e w3 ⟨rfl, rfl⟩)
      | (go_at_call 14; refine (zag_any _ _ (by omega)).mono ?_; rintro e w3 ⟨rfl, rfl⟩)
      | (go_at_call 12; refine (awake_any _).mono ?_; rintro e w3 ⟨rfl, hb3⟩))
    all_goals first | (exfalso; omega) | (go_ret; exact ⟨rfl, by assumption⟩)
  · have e1 : zig p = 2 * p := zig_nn (by omega)
    have e3 : zig (-p) = 2 * p - 1 := by rw [zig_neg (by omega)]; omega
    have e5 : ((2 * p : Int) == 2 * p - 1) = false := by rw [beq_eq_false_iff_ne]; omega
    have e4 : zag (2 * p) = p := by rw [← e1]; exact zag_zig p
    go_enter Try.func4, Try.ntmps4
    go_wp2_with (first
      | (go_at_call 13; refine (zig_any _ _ (by omega)).mono ?_; rintro e w3 ⟨rfl, rfl⟩)
      | (go_at_call 14; refine (zag_any _ _ (by omega)).mono ?_; rintro e w3 ⟨rfl, rfl⟩)
      | (go_at_call 12; refine (awake_any _).mono ?_; rintro e w3 ⟨rfl, hb3⟩))
    all_goals first | (exfalso; omega) | (go_ret; exact ⟨rfl, by assumption⟩)
  · have e4 : zag 0 = 0 := by decide
    have e2 := zig_neg k2
    go_enter Try.func4, Try.ntmps4
    go_wp2_with (first
      | (go_at_call 13; refine (zig_any _ _ (by omega)).mono ?_; rintro e w3 ⟨rfl, rfl⟩)
      | (go_at_call 14; refine (zag_any _ _ (by omega)).mono ?_; rintro e w3 ⟨rfl, rfl⟩)
      | (go_at_call 12; refine (awake_any _).mono ?_; rintro e w3 ⟨rfl, hb3⟩))
    all_goals first | (exfalso; omega) | (go_ret; exact ⟨rfl, by assumption⟩)
  · have e4 : zag 0 = 0 := by decide
    go_enter Try.func4, Try.ntmps4
    go_wp2_with (first
      | (go_at_call 13; refine (zig_any _ _ (by omega)).mono ?_; rintro e w3 ⟨rfl, rfl⟩)
      | (go_at_call 14; refine (zag_any _ _ (by omega)).mono ?_; rintro e w3 ⟨rfl, rfl⟩)
      | (go_at_call 12; refine (awake_any _).mono ?_; rintro e w3 ⟨rfl, hb3⟩))
    all_goals first | (exfalso; omega) | (go_ret; exact ⟨rfl, by assumption⟩)
  · have e4 : zag 0 = 0 := by decide
    have e2 : zig q = 2 * q := zig_nn (by omega)
    go_enter Try.func4, Try.ntmps4
    go_wp2_with (first
      | (go_at_call 13; refine (zig_any _ _ (by omega)).mono ?_; rintro e w3 ⟨rfl, rfl⟩)
      | (go_at_call 14; refine (zag_any _ _ (by omega)).mono ?_; rintro e w3 ⟨rfl, rfl⟩)
      | (go_at_call 12; refine (awake_any _).mono ?_; rintro e w3 ⟨rfl, hb3⟩))
    all_goals first | (exfalso; omega) | (go_ret; exact ⟨rfl, by assumption⟩)
end Go.Proofs.Ytkaigeodeabicaa
