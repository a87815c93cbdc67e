/-
  THE WALK of packed.Width at uint8.
-/
import Derived.Test.YtgclakhcddadpaaPkW
namespace Go.Proofs.Ytgclakhcddadpaa
open Go.RowKit

set_option maxRecDepth 100000 in
set_option maxHeartbeats 1000000 in
theorem width8 (A : Option Addr) (n : Nat) (l : List Nat) (c : Nat) (w : World) (hn : l.length = n) (hr : Rd w A (uk .u8 l)) (hl : n ≤ 1000000) (hm : Hid (∀ x ∈ l, x < 256)) :
    Calls Try.prog 41 #[.slice A n c] w fun e w' => e = .returned (.int .i64 (widthL l : Int)) ∧ w = w' := by
  replace hn := hid hn
  go_enter Try.func41, Try.ntmps41
  go_wp2
  go_loop [3, 8] (fun m i => ∃ j q : Nat, i = .int .i64 j ∧ j ≤ n ∧ m = .int .i64 q ∧ Hid (widthL (l.take j) = q) ∧ q ≤ 64) (fun _ i => n - (intOf i).toNat)
  case atStart => exact ⟨0, 0, rfl, Nat.zero_le _, rfl, hid (by rw [List.take_zero]; rfl), by omega⟩
  case round =>
    obtain ⟨j, q, rfl, hj, rfl, hq, hq64⟩ := hrel
    by_cases hlt : j < n
    · have hjl : j < l.length := by rw [hn.out]; exact hlt
      have hjI : (j : Int) < (n : Int) := by omega
      obtain ⟨b, o, rfl, hb, hc⟩ := hr (by rw [uk_length]; omega)
      have hce := hc j _ (uk_get .u8 l j hjl)
      have hws := hid (widthL_take l j hjl)
      have hxm := hm.out _ (List.getElem_mem hjl)
      obtain ⟨x, hx⟩ : ∃ x, l[j] = x := ⟨_, rfl⟩
      rw [hx] at hce hws hxm
      have hbl : Hid (blen x ≤ 64) := hid (blen_le.2 (by omega))
      have hwr : IntKind.u64.wrap (x : Int) = (x : Int) := by rw [IntKind.wrap_u64]; omega
      have hx64 : Hid (x < 18446744073709551616) := hid (by omega)
      obtain ⟨y, hy⟩ : ∃ y, blen x = y := ⟨_, rfl⟩
      rw [hy] at hbl hws
      rw [hq.out] at hws
      have hb64 : y ≤ 64 := hbl.out
      replace hxm := hid hxm
      replace hx := hid hx
      replace hy := hid hy
      clear hc
      go_wp2_with (go_at_call 47; refine (len64_any x _ hx64).mono ?_; rintro e w1 ⟨rfl, rfl⟩; rw [hy.out])
      all_goals
        go_round
        case rel => exact ⟨j + 1, max q y, by go_num, by omega, by congr 1; omega, hid hws.out, by omega⟩
        case measure => simp [intOf]; omega
    · obtain rfl : j = n := by omega
      have ht : l.take j = l := List.take_of_length_le (by rw [hn.out]; exact Nat.le_refl _)
      rw [ht] at hq
      go_wp2
      go_ret
      rw [hq.out]
      exact ⟨rfl, rfl⟩

end Go.Proofs.Ytgclakhcddadpaa
