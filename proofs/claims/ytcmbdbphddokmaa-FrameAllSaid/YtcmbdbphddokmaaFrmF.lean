/-
  THE WALK of FrameBounds.
-/
import Derived.Test.YtcmbdbphddokmaaFrmD
namespace Go.Proofs.Ytcmbdbphddokmaa
open Go.RowKit

/-- The lowest bits of whatever int. -/
theorem i64_mask (a : Int) (m : Nat) (hm : m < 9223372036854775808) : ∃ r : Nat, r ≤ m ∧ bits BinOp.and IntKind.i64 a (m : Int) = (r : Int) := by
  have h2 : (BitVec.ofInt 64 (m : Int)).toNat = m := by
    rw [BitVec.ofInt_natCast, BitVec.toNat_ofNat]; exact Nat.mod_eq_of_lt (by omega)
  refine ⟨(BitVec.ofInt 64 a).toNat &&& m, Nat.and_le_right, ?_⟩
  show IntKind.i64.wrap ((BitVec.ofInt 64 a &&& BitVec.ofInt 64 (m : Int)).toNat : Int) = _
  have hx : (BitVec.ofInt 64 a).toNat &&& m ≤ m := Nat.and_le_right
  rw [BitVec.toNat_and, h2, IntKind.wrap_i64]
  omega

theorem take_zero (k : Nat) (b : List UInt8) (h1 : 1 ≤ k) (h2 : k ≤ 250) (h3 : b.length ≤ 70000) : takeF (frameB k b) 0 = (k, b, b.length + 12, 0) := by
  have h := takeF_frame [] k b [] h1 h2 h3
  simpa using h

set_option maxHeartbeats 4000000 in
set_option maxRecDepth 100000 in
theorem bounds_walk (z1 z2 : Int) (w : World) : Calls Try.prog 5 #[.int .i64 z1, .int .i64 z2] w (Yes w) := by
  obtain ⟨i0, hi, hz0, hz1, hz2⟩ := info_parts info_u8
  obtain ⟨r, hr, hb1⟩ := i64_mask z1 511 (by omega)
  have hb1 : bits BinOp.and IntKind.i64 z1 511 = (r : Int) := hb1
  obtain ⟨s, hs, hb2⟩ := i64_mask z2 31 (by omega)
  have hb2 : bits BinOp.and IntKind.i64 z2 31 = (s : Int) := hb2
  obtain ⟨n, hn⟩ : ∃ n : Nat, (s : Int) + 69990 = (n : Int) := ⟨s + 69990, by omega⟩
  have hn1 : 69990 ≤ n := by omega
  have hn2 : n ≤ 70021 := by omega
  obtain ⟨kind, hk⟩ : ∃ k : Int, (r : Int) - 10 = k := ⟨_, rfl⟩
  have hk1 : -10 ≤ kind := by omega
  have hk2 : kind ≤ 501 := by omega
  go_enter Try.func5, Try.ntmps5
  go_wp2_with (at_make; refine wpList_mk _ rfl _ _ 22 rfl w.heap.size 5 i0 (.int .u8 0) Try.underlying22 hi hz0 hz1 rfl _ _ _ _ n rfl rfl rfl rfl (by rw [hz2]; omega) (by unfold maxLen; omega) (Nat.le_refl _) ?_; intro w1 hown1 hbw1 hbw1')
  clear hb1 hb2 hn hk hs hr
  rw [show List.replicate n (Value.int .u8 0) = cb (List.replicate n 0) from (cb_replicate n).symm] at hown1
  have hlen : Hid ((List.replicate n (0 : UInt8)).length = n) := hid (by simp)
  obtain ⟨body, hbody⟩ : ∃ body, List.replicate n (0 : UInt8) = body := ⟨_, rfl⟩
  rw [hbody] at hown1 hlen
  clear hbody
  by_cases hbad : kind < 1 ∨ 250 < kind
  · refine (putF_arg none 0 0 kind (some ⟨w.heap.size, 0, none⟩) n n w1 hbad).mono ?_
    rintro e w2 ⟨rfl, rfl⟩
    rcases (show kind < 1 ∨ (¬ kind < 1 ∧ 250 < kind) from by omega) with h1 | ⟨h1, h2⟩
    all_goals
      clear hbad
      go_wp2_with (go_at_call 10; refine (awake_any _).mono ?_; rintro e w3 ⟨rfl, hb3⟩)
      go_ret
      exact ⟨rfl, hbw1.trans (hb3.mono hbw1.size)⟩
  · have h1 : ¬ kind < 1 := by omega
    have h2 : ¬ 250 < kind := by omega
    by_cases hlong : 70000 < n
    · refine (putF_long none 0 0 kind (some ⟨w.heap.size, 0, none⟩) n n w1 (by omega) (by omega) hlong).mono ?_
      rintro e w2 ⟨rfl, rfl⟩
      have hli : (70000 : Int) < (n : Int) := by omega
      clear hbad
      go_wp2_with (go_at_call 10; refine (awake_any _).mono ?_; rintro e w3 ⟨rfl, hb3⟩)
      go_ret
      exact ⟨rfl, hbw1.trans (hb3.mono hbw1.size)⟩
    · obtain ⟨k, rfl⟩ := Int.eq_ofNat_of_zero_le (show 0 ≤ kind by omega)
      have hli : ¬ (70000 : Int) < (n : Int) := by omega
      have htk := take_zero k body (by omega) (by omega) (by rw [hlen.out]; omega)
      rw [hlen.out] at htk
      replace htk := hid htk
      have hfl : Hid ((frameB k body).length = n + 12) := hid (by rw [frameB_length, hlen.out])
      clear hbad
      refine (putF_any none 0 0 [] k (some ⟨w.heap.size, 0, none⟩) n n body w1 rfl (Rd.nil _ _) (by omega) (by omega) (by omega) hlen.out (Rd.of_own hown1) (by omega)).mono ?_
      rintro e w2 ⟨A2, c2, rfl, hown2, hb2⟩
      rw [Nat.zero_add, List.nil_append] at hown2
      rw [Nat.zero_add]
      have hcap := own_cap hown2
      have hbw2 := hbw1.trans (hb2.mono hbw1.size)
      go_wp2_with fail
      refine (takeF_in A2 (n + 12) c2 (frameB k body) 0 w2 hfl.out (Rd.of_own hown2) hcap.1 hcap.2 (by omega)).mono ?_
      rintro e w3 ⟨A3, c3, c3', rfl, hown3, hlc3, hcm3, hb3⟩
      rw [htk.out] at hown3 hlc3 ⊢
      unfold recV
      simp only [] at hown3 hlc3 ⊢
      rw [hlen.out] at hlc3 ⊢
      have hbw3 := hbw2.trans (hb3.mono hbw2.size)
      go_wp2_with fail
      have hbx : (w3.alloc (.cells #[.int .i64 (k : Int), .slice A3 n c3] 29)).heap[w3.heap.size]? = some (.cells #[.int .i64 (k : Int), .slice A3 n c3] 29 (0, 0)) := heap_alloc_new w3 _
      have hbw4 := hbw3.alloc hbw3.size (.cells #[.int .i64 (k : Int), .slice A3 n c3] 29)
      refine (takeF_out A2 (n + 12) c2 ((n : Int) + 12 + 1) _ (.inr (by omega))).mono ?_
      rintro e w5 ⟨A5, c5, c5', rfl, hown5, hlc5, hcm5, hb5⟩
      clear hown5
      have hbx5 := (hb5.block w3.heap.size (by simp)).trans hbx
      have hbw5 := hbw4.trans (hb5.mono hbw4.size)
      have hlt5 : w3.heap.size < w5.heap.size := by have := hb5.size; simp at this; omega
      unfold recV
      simp only [List.length_nil] at hlc5 ⊢
      go_wp2_with fail
      have hbx5a : (w5.alloc (.cells #[.int .i64 0, .slice A5 0 c5] 29)).heap[w3.heap.size]? = some (.cells #[.int .i64 (k : Int), .slice A3 n c3] 29 (0, 0)) := (Below.heap_alloc w5 _ _ hlt5).trans hbx5
      have hbw6 := hbw5.alloc hbw5.size (.cells #[.int .i64 0, .slice A5 0 c5] 29)
      refine (takeF_out A2 (n + 12) c2 (-1) _ (.inl (by omega))).mono ?_
      rintro e w7 ⟨A7, c7, c7', rfl, hown7, hlc7, hcm7, hb7⟩
      clear hown7
      have hbx7 := (hb7.block w3.heap.size (by simp; omega)).trans hbx5a
      have hbw7 := hbw6.trans (hb7.mono hbw6.size)
      have hlt7 : w3.heap.size < w7.heap.size := by have := hb7.size; simp at this; omega
      unfold recV
      simp only [List.length_nil] at hlc7 ⊢
      have hbx8 : (w7.alloc (.cells #[.int .i64 0, .slice A7 0 c7] 29)).heap[w3.heap.size]? = some (.cells #[.int .i64 (k : Int), .slice A3 n c3] 29 (0, 0)) := (Below.heap_alloc w7 _ _ hlt7).trans hbx7
      have hbw8 := hbw7.alloc hbw7.size (.cells #[.int .i64 0, .slice A7 0 c7] 29)
      obtain ⟨hk0, hk1⟩ := rec_cells hbx8
      go_wp2_with (first
        | (go_at_call 15; refine (size_neg (-4) _ (by omega)).mono ?_; rintro e w9 ⟨rfl, rfl⟩)
        | (go_at_call 10; refine (awake_any _).mono ?_; rintro e w9 ⟨rfl, hb9⟩))
      go_ret
      exact ⟨rfl, hbw8.trans (hb9.mono hbw8.size)⟩
end Go.Proofs.Ytcmbdbphddokmaa
