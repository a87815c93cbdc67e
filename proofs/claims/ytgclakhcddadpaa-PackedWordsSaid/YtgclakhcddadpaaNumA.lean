/-
  THE WALK of num.Put.
-/
import Derived.Test.YtgclakhcddadpaaSl
namespace Go.Proofs.Ytgclakhcddadpaa
open Go.RowKit

set_option maxHeartbeats 400000 in
set_option maxRecDepth 100000 in
theorem put_any (A : Option Addr) (l : List UInt8) (c : Nat) (n : Nat) (w : World) (hr : Rd w A (cb l)) (hA : A = none → l = []) (hl : l.length ≤ 140737488355000) (hn : Hid (n < 18446744073709551616)) :
    Calls Try.prog 51 #[.slice A l.length c, .int .u64 n] w (ResC 5 (l ++ put n).length (cb (l ++ put n)) w) := by
  obtain ⟨i0, hi, hz0, hz1, hz2⟩ := info_parts info_u8
  go_enter Try.func51, Try.ntmps51
  go_wp2_with (go_at_call 63; refine (clone_any A l c w hr hA (by omega)).mono ?_; rintro e w1 ⟨A1, c1, rfl, hown1, hb1⟩)
  go_loopw [1, 5] (fun m out wr => ∃ (k : Nat) (dn : List UInt8) (A2 : Option Addr) (c2 : Nat), m = .int .u64 k ∧ Hid (k < 18446744073709551616) ∧ Hid (put n = dn ++ put k) ∧ dn.length + (put k).length ≤ 10 ∧
      out = .slice A2 (l.length + dn.length) c2 ∧ wr.ownsRow w.heap.size 5 1 (.slice A2 (l.length + dn.length) c2) (l.length + dn.length) (cb (l ++ dn)) ∧ Below w.heap.size w wr)
    (fun m _ _ => (intOf m).toNat)
  case atStart => exact ⟨n, [], A1, c1, rfl, hn, hid rfl, by have := put_le10 n hn.out; simpa using this, rfl, by simpa using hown1, hb1⟩
  case round =>
    obtain ⟨k, dn, A2, c2, rfl, hk, hp, hlen, rfl, hown, hb⟩ := hrel
    clear hown1; have hl2 := hid hl; clear hl
    by_cases hlt : k < 128
    · have hsz := hb.size
      have e8 : Hid (Value.int .u8 (k : Int) = u8c (UInt8.ofNat k)) := by refine hid ?_; unfold u8c; simp; omega
      go_wp2_with (at_builtin; refine wpList_app _ rfl (.tmp 18) (.tmp 21) 23 rfl w.heap.size 5 i0 (.int .u8 0) 1 Try.underlying23 hi hz0 hz1 hz2 rfl _ _ _ _ rfl (hown.alloc _) _ _ _ [.int .u8 k] rfl (Rd.one _ _ _) rfl (one_int _ _) (by have := hl2.out; unfold maxLen; omega) (by have := hl2.out; omega) (by simp; omega) ?_; intro A' c' w' hown' hg' hb' hn')
      have hcap := own_cap hown'
      go_wp2_with (go_at_call 64; refine (clip_any _ _ _ _ hcap.1 hcap.2).mono ?_; rintro e w2 ⟨rfl, rfl⟩)
      go_ret
      have hq := hp.out
      rw [put_small hlt] at hq
      rw [show (Value.int .u8 (k : Int)) = u8c (UInt8.ofNat k) from e8.out] at hown'
      rw [hq]
      refine ⟨A', c', ?_, ?_, (hb.alloc hsz _).trans hb'⟩
      · simp [Nat.add_assoc]
      · simpa [cb, Nat.add_assoc] using hown'
    · have e8 := u8_or128 k
      go_wp2_with (at_builtin; refine wpList_app _ rfl (.tmp 10) (.tmp 14) 23 rfl w.heap.size 5 i0 (.int .u8 0) 1 Try.underlying23 hi hz0 hz1 hz2 rfl _ _ _ _ rfl (hown.alloc _) _ _ _ [.int .u8 ((k % 128 + 128 : Nat) : Int)] rfl (Rd.one _ _ _) rfl (one_int _ _) (by have := hl2.out; unfold maxLen; omega) (by have := hl2.out; omega) (by have := hb.size; simp; omega) ?_; intro A' c' w' hown' hg' hb' hn')
      go_roundw
      case rel =>
        have hq := hp.out
        rw [put_big hlt] at hq
        have hk2 := hk.out
        refine ⟨k / 128, dn ++ [UInt8.ofNat (k % 128 + 128)], A', c', ?_, hid (by omega), hid (by rw [hq]; simp), ?_, ?_, ?_, (hb.alloc hb.size _).trans hb'⟩
        · rw [Int.natCast_ediv]; rfl
        · rw [put_big hlt] at hlen; simp at hlen ⊢; omega
        · simp [Nat.add_assoc]
        · have e9 : Value.int .u8 ((k % 128 + 128 : Nat) : Int) = u8c (UInt8.ofNat (k % 128 + 128)) := by
            unfold u8c
            rw [show (UInt8.ofNat (k % 128 + 128)).toNat = k % 128 + 128 from by simp; omega]
          rw [e9] at hown'
          simpa [cb, Nat.add_assoc] using hown'
      case measure => simp [intOf]; omega
end Go.Proofs.Ytgclakhcddadpaa
