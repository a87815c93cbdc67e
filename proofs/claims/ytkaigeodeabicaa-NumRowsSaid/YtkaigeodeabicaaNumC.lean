/-
  THE WALKS of num.Zig, num.Zag, num.Size and of the law's own awake.
-/
import Derived.Test.YtkaigeodeabicaaNumB
namespace Go.Proofs.Ytkaigeodeabicaa
open Go.RowKit

set_option maxHeartbeats 400000 in
theorem zig_any (n : Int) (w : World) (h : -9223372036854775808 ≤ n ∧ n ≤ 9223372036854775807) :
    Calls Try.prog 13 #[.int .i64 n] w fun e w' => e = .returned (.int .u64 (zig n)) ∧ w = w' := by
  have h := hid h
  go_enter Try.func13, Try.ntmps13
  go_wp2
  go_ret
  exact ⟨congrArg (fun x => Ending.returned (.int .u64 x)) (zig_bits n h.out), rfl⟩

set_option maxHeartbeats 400000 in
theorem zag_any (n : Int) (w : World) (h : 0 ≤ n ∧ n ≤ 18446744073709551615) :
    Calls Try.prog 14 #[.int .u64 n] w fun e w' => e = .returned (.int .i64 (zag n)) ∧ w = w' := by
  have h := hid h
  go_enter Try.func14, Try.ntmps14
  go_wp2
  go_ret
  exact ⟨congrArg (fun x => Ending.returned (.int .i64 x)) (zag_bits n h.out), rfl⟩

set_option maxHeartbeats 400000 in
set_option maxRecDepth 100000 in
theorem size_any (n : Nat) (w : World) (hn : Hid (n < 18446744073709551616)) :
    Calls Try.prog 15 #[.int .u64 n] w fun e w' => e = .returned (.int .i64 (put n).length) ∧ w = w' := by
  go_enter Try.func15, Try.ntmps15
  go_wp2
  go_loop [0, 3] (fun m k => ∃ (x j : Nat), m = .int .u64 x ∧ k = .int .i64 j ∧ 1 ≤ j ∧ Hid ((put n).length = j - 1 + (put x).length) ∧ j ≤ 10) (fun m _ => (intOf m).toNat)
  case atStart => exact ⟨n, 1, rfl, rfl, by omega, hid (by omega), by omega⟩
  case round =>
    obtain ⟨x, j, rfl, rfl, hj, hp, hj10⟩ := hrel
    by_cases hlt : x < 128
    · go_wp2
      go_ret
      refine ⟨?_, rfl⟩
      have := hp.out
      rw [put_small hlt] at this
      simp at this
      rw [this, show j - 1 + 1 = j from by omega]
      rfl
    · go_wp2
      go_round
      case rel =>
        have h1 := hp.out
        rw [put_big hlt] at h1
        have h2 := put_pos (x / 128)
        have h3 := put_le10 n hn.out
        simp at h1
        exact ⟨x / 128, j + 1, by rw [Int.natCast_ediv]; rfl, by go_num, by omega, hid (by omega), by omega⟩
      case measure => simp [intOf]; omega
theorem put300 : put 300 = [172, 2] := by
  rw [put_big (by omega), put_small (by omega)]; rfl
theorem take300 : take [172, 2, 9] = (300, 2, 0) := by decide

/-- A law's answer: true; nothing that was there has turned. -/
def Yes (w : World) (e : Ending) (w' : World) : Prop := e = .returned (.bool true) ∧ Below w.heap.size w w'

set_option maxHeartbeats 1000000 in
set_option maxRecDepth 100000 in
theorem awake_any (w : World) : Calls Try.prog 12 #[] w (Yes w) := by
  go_enter Try.func12, Try.ntmps12
  go_wp2_with fail
  refine (put_any none [] 0 300 w (Rd.nil _ _) (fun _ => rfl) (by simp) (hid (by omega))).mono ?_
  rintro e w1 ⟨A1, c1, rfl, hown1, hb1⟩
  rw [put300] at hown1 ⊢
  have hs1 := hb1.size
  go_wp2_with fail
  refine (take_any (some ⟨w1.heap.size, 0, none⟩) [172, 2, 9] 3 _ (Rd.block w1 (cb [172, 2, 9]) 5) (by simp)).mono ?_
  rintro e w2 ⟨rfl, rfl⟩
  rw [take300]
  unfold tup3
  have hz1 : zig (-1) = 1 := by decide
  have hz2 : zag 2 = 1 := by decide
  go_wp2_with fail
  rw [run_strn _ 23 9 5 Try.underlying23 Try.underlying5 Try.underlying9 A1 2 [172, 2] 2 rfl ((Rd.of_own hown1).alloc _)]
  go_wp2_with (first
    | (go_at_call 15; refine (size_any 300 _ (hid (by omega))).mono ?_; rintro e w3 ⟨rfl, rfl⟩; rw [put300])
    | (go_at_call 13; refine (zig_any (-1) _ (by omega)).mono ?_; rintro e w3 ⟨rfl, rfl⟩)
    | (go_at_call 14; refine (zag_any 2 _ (by omega)).mono ?_; rintro e w3 ⟨rfl, rfl⟩))
  go_ret
  exact ⟨rfl, hb1.alloc hb1.size _⟩

end Go.Proofs.Ytkaigeodeabicaa
