/-
  THE WALK of NumCanon.
-/
import Derived.Test.YtkaigeodeabicaaNumC
namespace Go.Proofs.Ytkaigeodeabicaa
open Go.RowKit

theorem u64_of {a : Int} (h : (Lit.int .u64 a).wf = true) : ∃ n : Nat, a = n ∧ n < 18446744073709551616 := by
  simp [Lit.wf, IntKind.min, IntKind.max, IntKind.signed, IntKind.bits] at h
  exact ⟨a.toNat, by omega, by omega⟩
theorem i64_of {a : Int} (h : (Lit.int .i64 a).wf = true) : -9223372036854775808 ≤ a ∧ a ≤ 9223372036854775807 := by
  simp [Lit.wf, IntKind.min, IntKind.max, IntKind.signed, IntKind.bits] at h
  omega

/-- The lowest bits of whatever int. -/
theorem i64_mask (a : Int) (m : Nat) (hm : m < 9223372036854775808) : ∃ r : Nat, r ≤ m ∧ bits BinOp.and IntKind.i64 a (m : Int) = (r : Int) := by
  have h2 : (BitVec.ofInt 64 (m : Int)).toNat = m := by
    rw [BitVec.ofInt_natCast, BitVec.toNat_ofNat]; exact Nat.mod_eq_of_lt (by omega)
  refine ⟨(BitVec.ofInt 64 a).toNat &&& m, Nat.and_le_right, ?_⟩
  show IntKind.i64.wrap ((BitVec.ofInt 64 a &&& BitVec.ofInt 64 (m : Int)).toNat : Int) = _
  have hx : (BitVec.ofInt 64 a).toNat &&& m ≤ m := Nat.and_le_right
  rw [BitVec.toNat_and, h2, IntKind.wrap_i64]
  omega

theorem put_nil (n L : Nat) (w : World) (hL : (put n).length = L) (hn : Hid (n < 18446744073709551616)) :
    Calls Try.prog 10 #[.slice none 0 0, .int .u64 n] w (ResC 5 L (cb (put n)) w) := by
  have h := put_any none [] 0 n w (Rd.nil _ _) (fun _ => rfl) (by simp) hn
  subst hL
  simpa using h

set_option maxHeartbeats 1000000 in
set_option maxRecDepth 100000 in
theorem canon_walk (n : Nat) (way : Int) (w : World) (hn : Hid (n < 18446744073709551616)) :
    Calls Try.prog 3 #[.int .u64 n, .int .i64 way] w (Yes w) := by
  obtain ⟨i0, hi, hz0, hz1, hz2⟩ := info_parts info_u8
  obtain ⟨L, hL⟩ : ∃ L, (put n).length = L := ⟨_, rfl⟩
  have hp1 : 1 ≤ L := by have := put_pos n; omega
  have hp2 : L ≤ 10 := by have := put_le10 n hn.out; omega
  have hL := hid hL
  have hlz : ((L : Int) == 0) = false := by simp; omega
  obtain ⟨r, hr, hway⟩ := i64_mask way 3 (by omega)
  rcases (show r = 0 ∨ r = 1 ∨ r = 2 ∨ r = 3 from by omega) with rfl | rfl | rfl | rfl
  · have hway : bits BinOp.and IntKind.i64 way 3 = 0 := hway
    by_cases h10 : L = 10
    · have h10b : ((L : Int) == 10) = true := by simp; omega
      go_enter Try.func3, Try.ntmps3
      go_wp2_with fail
      refine (put_nil n L w hL.out hn).mono ?_
      rintro e w1 ⟨A1, c1, rfl, hown1, hb1⟩
      have hs1 := hb1.size
      go_wp2_with fail
      refine (take_any (some ⟨w1.heap.size, 0, none⟩) [128, 0] 2 _ (Rd.block w1 (cb [128, 0]) 5) (by simp)).mono ?_
      rintro e w2 ⟨rfl, rfl⟩
      rw [show take [128, 0] = (0, 0, 3) from by decide]
      unfold tup3
      go_wp2_with (go_at_call 12; refine (awake_any _).mono ?_; rintro e w3 ⟨rfl, hb3⟩)
      go_ret
      exact ⟨rfl, (hb1.alloc hs1 _).trans (hb3.mono (by simp; omega))⟩
    · have h10b : ((L : Int) == 10) = false := by simp; omega
      go_enter Try.func3, Try.ntmps3
      go_wp2_with fail
      refine (put_nil n L w hL.out hn).mono ?_
      rintro e w1 ⟨A1, c1, rfl, hown1, hb1⟩
      have hs1 := hb1.size
      obtain ⟨g, rfl, hg1, hg2⟩ := own_addr hown1 (by omega)
      have hLt : L - 1 < (put n).length := by have := hL.out; omega
      have hce : w1.cell? ⟨g, L - 1, none⟩ = some (.int .u8 ((put n)[L - 1].toNat : Int)) := by
        rw [hown1.cellAt (L - 1) (by omega), cb_get _ _ hLt]; rfl
      have hfr := hown1.frozenAt (L - 1)
      have hor := u8_or_c (put n)[L - 1] 128
      have hst := hown1.stored (L - 1) (u8c ((put n)[L - 1] ||| 128))
      rw [cb_set, long_set n L hL.out hLt] at hst
      obtain ⟨hst1, hst2⟩ := hst
      generalize (put n)[L - 1] ||| 128 = v at hor hst1 hst2
      generalize (put n)[L - 1] = u at hce hor
      have hor : bits BinOp.or IntKind.u8 (u.toNat : Int) 128 = (v.toNat : Int) := hor
      have hst3 := (hb1.setCell (p := ⟨g, L - 1, none⟩) hg1 (u8c v))
      go_wp2_with (at_builtin; go_loud (refine wpList_appC _ rfl (.tmp 36) (.tmp 37) 23 rfl 5 i0 (.int .u8 0) 1 Try.underlying23 hi hz0 hz1 hz2 rfl (some ⟨g, 0, none⟩) L (cb (long n)) rfl ((Rd.of_own hst1).alloc _) (by rw [cb_length, long_length, hL.out]) (fun h => by cases h) _ _ _ (cb [0]) rfl (Rd.blk (by simp) (cb [0]) _) rfl (cb_one [0]) (by unfold maxLen; omega) (by unfold maxLen; omega) (by omega) ?_); intro A' c' w' hd1 hd2 hd3 hd4 hd5 hd6)
      refine (take_n _ (L + 1) (long n ++ [0]) _ _ (by rw [List.length_append, long_length, hL.out]; rfl) (by rw [cb_append]; exact hd1) (by omega)).mono ?_
      rintro e w2 ⟨rfl, rfl⟩
      rw [take_long n (by have := hL.out; omega)]
      unfold tup3
      go_wp2_with (go_at_call 12; refine (awake_any _).mono ?_; rintro e w3 ⟨rfl, hb3⟩)
      go_ret
      exact ⟨rfl, ((hst3.alloc (by simp; omega) _).trans (hd4.mono (by simp; omega))).trans (hb3.mono (by have := hd4.size; simp at this; omega))⟩
  · have hway : bits BinOp.and IntKind.i64 way 3 = 1 := hway
    obtain ⟨u, hu1, hu2⟩ : ∃ u : UInt8, 1 < u.toNat ∧ bits BinOp.and IntKind.u64 (n : Int) 125 = (u.toNat : Int) - 2 := by
      have hx : n &&& 125 ≤ 125 := Nat.and_le_right
      have h := u64_and_nat n 125 hn.out (by omega)
      have e : (UInt8.ofNat ((n &&& 125) + 2)).toNat = (n &&& 125) + 2 := by rw [UInt8.toNat_ofNat']; exact Nat.mod_eq_of_lt (by omega)
      refine ⟨UInt8.ofNat ((n &&& 125) + 2), by omega, ?_⟩
      rw [e]
      refine Eq.trans h ?_
      omega
    have hult := u.toNat_lt
    go_enter Try.func3, Try.ntmps3
    go_wp2_with fail
    refine (put_nil n L w hL.out hn).mono ?_
    rintro e w1 ⟨A1, c1, rfl, hown1, hb1⟩
    have hs1 := hb1.size
    go_wp2_with fail
    refine (take_any (some ⟨w1.heap.size, 0, none⟩) [255, 255, 255, 255, 255, 255, 255, 255, 255, u] 10 _ (Rd.block w1 (cb [255, 255, 255, 255, 255, 255, 255, 255, 255, u]) 5) (by simp)).mono ?_
    rintro e w2 ⟨rfl, rfl⟩
    rw [take_255 u hu1]
    unfold tup3
    go_wp2_with (go_at_call 12; refine (awake_any _).mono ?_; rintro e w3 ⟨rfl, hb3⟩)
    go_ret
    exact ⟨rfl, (hb1.alloc hs1 _).trans (hb3.mono (by simp; omega))⟩
  · have hway : bits BinOp.and IntKind.i64 way 3 = 2 := hway
    go_enter Try.func3, Try.ntmps3
    go_wp2_with fail
    refine (put_nil n L w hL.out hn).mono ?_
    rintro e w1 ⟨A1, c1, rfl, hown1, hb1⟩
    have hs1 := hb1.size
    go_wp2_with fail
    refine (take_any (some ⟨w1.heap.size, 0, none⟩) [128, 128, 128, 128, 128, 128, 128, 128, 128, 128, 1] 11 _ (Rd.block w1 (cb [128, 128, 128, 128, 128, 128, 128, 128, 128, 128, 1]) 5) (by simp)).mono ?_
    rintro e w2 ⟨rfl, rfl⟩
    rw [show take [128, 128, 128, 128, 128, 128, 128, 128, 128, 128, 1] = (0, 0, 3) from by decide]
    unfold tup3
    go_wp2_with (go_at_call 12; refine (awake_any _).mono ?_; rintro e w3 ⟨rfl, hb3⟩)
    go_ret
    exact ⟨rfl, (hb1.alloc hs1 _).trans (hb3.mono (by simp; omega))⟩
  · have hway : bits BinOp.and IntKind.i64 way 3 = 3 := hway
    go_enter Try.func3, Try.ntmps3
    go_wp2_with fail
    refine (put_nil n L w hL.out hn).mono ?_
    rintro e w1 ⟨A1, c1, rfl, hown1, hb1⟩
    have hs1 := hb1.size
    have hd : Rd w1 A1 (cb (put n).dropLast) := by
      have := (Rd.of_own hown1).take (L - 1)
      rwa [cb_take, ← hL.out, ← List.dropLast_eq_take] at this
    go_wp2_with fail
    refine (take_n _ (L - 1) (put n).dropLast _ _ (by rw [List.length_dropLast, hL.out]) hd (by omega)).mono ?_
    rintro e w2 ⟨rfl, rfl⟩
    rw [take_torn n hn.out]
    unfold tup3
    go_wp2_with (go_at_call 12; refine (awake_any _).mono ?_; rintro e w3 ⟨rfl, hb3⟩)
    go_ret
    exact ⟨rfl, hb1.trans (hb3.mono (by omega))⟩

end Go.Proofs.Ytkaigeodeabicaa
