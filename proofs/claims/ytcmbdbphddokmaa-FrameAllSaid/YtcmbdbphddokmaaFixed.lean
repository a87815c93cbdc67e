/-
  THE WALKS: num.Fix, num.Fixed.
-/
import Derived.Test.YtcmbdbphddokmaaSl
namespace Go.Proofs.Ytcmbdbphddokmaa
open Go.RowKit

/-- The size that Fix takes. -/
def fixSize (size : Int) : Nat := (min (max size 0) 8).toNat

theorem ofNat_mod256 (x : Nat) : Value.int .u8 ((x : Int) % 256) = u8c (UInt8.ofNat x) := by
  unfold u8c
  rw [UInt8.toNat_ofNat']
  rfl

set_option maxHeartbeats 1000000 in
set_option maxRecDepth 100000 in
theorem fix_any (A : Option Addr) (l : List UInt8) (c : Nat) (n : Nat) (size : Int) (k : Nat) (w : World) (hr : Rd w A (cb l)) (hA : A = none → l = []) (hl : l.length ≤ 140737488355000) (hn : Hid (n < 18446744073709551616)) (hk : fixSize size = k) :
    Calls Try.prog 19 #[.slice A l.length c, .int .u64 n, .int .i64 size] w (ResC 5 (l.length + k) (cb (l ++ fix n k)) w) := by
  obtain ⟨i0, hi, hz0, hz1, hz2⟩ := info_parts info_u8
  have hl2 := hid hl
  clear hl
  have hk := hid hk
  go_enter Try.func19, Try.ntmps19
  go_wp2_with (go_at_call 29; refine (clone_any A l c w hr hA (by have := hl2.out; omega)).mono ?_; rintro e w1 ⟨A1, c1, rfl, hown1, hb1⟩)
  all_goals
    go_loopw [7, 8] (fun out i wr => ∃ (j : Nat) (dn : List UInt8) (A2 : Option Addr) (c2 : Nat), i = .int .i64 ((j : Int) - 1) ∧ j ≤ 8 ∧ Hid (fix n k = dn ++ fix n j) ∧ dn.length + j = k ∧ k ≤ 8 ∧
        out = .slice A2 (l.length + dn.length) c2 ∧ wr.ownsRow w.heap.size 5 1 (.slice A2 (l.length + dn.length) c2) (l.length + dn.length) (cb (l ++ dn)) ∧ Below w.heap.size w wr)
      (fun _ i _ => (intOf i + 1).toNat)
    case atStart =>
      have hk' := hk.out
      unfold fixSize at hk'
      have hk8 : k ≤ 8 := by omega
      exact ⟨k, [], A1, c1, by first | (congr 1; omega) | (rw [show k = 0 from by omega]; rfl) | (rw [show k = 8 from by omega]; rfl), hk8, hid rfl, by simp, hk8, rfl, by simpa using hown1, hb1⟩
    case round =>
      obtain ⟨j, dn, A2, c2, rfl, hj, hp, hlen, hk8, rfl, hown, hb⟩ := hrel
      clear hown1
      have hsz := hb.size
      by_cases h0 : j = 0
      · subst h0
        have hcap := own_cap hown
        go_wp2_with (go_at_call 30; refine (clip_any _ _ _ _ hcap.1 hcap.2).mono ?_; rintro e w2 ⟨rfl, rfl⟩)
        go_ret
        have hq := hp.out
        rw [show fix n 0 = [] from rfl, List.append_nil] at hq
        rw [hq]
        exact ⟨A2, c2, by rw [← hlen]; rfl, by rw [← hlen]; simpa using hown, hb⟩
      · have h1 : 1 ≤ j := by omega
        obtain ⟨u, hu, ev⟩ : ∃ u : UInt8, Hid (UInt8.ofNat (n / 256 ^ (j - 1)) = u) ∧ (n : Int) / 2 ^ (8 * (j - 1)) % 256 = (u.toNat : Int) := ⟨_, hid rfl, fix_byte n (j - 1)⟩
        go_wp2_with (at_builtin; refine wpList_app _ rfl (.tmp 19) (.tmp 25) 22 rfl w.heap.size 5 i0 (.int .u8 0) 1 Try.underlying22 hi hz0 hz1 hz2 rfl _ _ _ _ rfl (hown.alloc _) _ _ _ [u8c u] rfl (Rd.one _ _ _) rfl (cb_one [u]) (by have := hl2.out; unfold maxLen; omega) (by have := hl2.out; omega) (by simp; omega) ?_; intro A' c' w' hown' hg' hb' hn')
        go_roundw
        case rel =>
          have hq := hp.out
          rw [show j = (j - 1) + 1 from by omega, fix, hu.out] at hq
          exact ⟨j - 1, dn ++ [u], A', c', by congr 1; omega, by omega, hid (by rw [hq]; simp), by simp; omega, hk8, by simp [Nat.add_assoc], by simpa [cb, Nat.add_assoc] using hown', (hb.alloc hsz _).trans hb'⟩
        case measure => simp [intOf]; omega

/-- What Fixed hands back. -/
def fixedR (l : List UInt8) (size : Int) : Nat × Nat :=
  if size < 0 ∨ 8 < size then (0, 1) else if (l.length : Int) < size then (0, 4) else (fixed (l.take size.toNat), 0)

theorem shl8_or (acc : Nat) (u : UInt8) (h : acc < 72057594037927936) : bits BinOp.or IntKind.u64 (IntKind.u64.wrap ((acc : Int) * 256)) (u.toNat : Int) = ((acc * 256 + u.toNat : Nat) : Int) := by
  have hu := u.toNat_lt
  rw [IntKind.wrap_u64, show (acc : Int) * 256 % 18446744073709551616 = ((acc * 256 : Nat) : Int) from by omega, u64_or_nat _ _ (by omega) (by omega)]
  congr 1
  rw [show acc * 256 = acc * 2 ^ 8 from rfl, nat_join 8 _ _ (Nat.mul_mod_left _ _) (by omega)]

set_option maxHeartbeats 1000000 in
set_option maxRecDepth 100000 in
theorem fixed_any (A : Option Addr) (n : Nat) (l : List UInt8) (c : Nat) (size : Int) (w : World) (hn : l.length = n) (hnc : n ≤ c) (hr : Rd w A (cb l)) (hl : n ≤ 140737488355328) :
    Calls Try.prog 23 #[.slice A n c, .int .i64 size] w fun e w' => e = .returned (.tuple #[.int .u64 ((fixedR l size).1 : Int), .int .i64 ((fixedR l size).2 : Int)]) ∧ w = w' := by
  have hn := hid hn
  by_cases h0 : size < 0
  · have hR : Hid (fixedR l size = (0, 1)) := by refine hid ?_; unfold fixedR; rw [if_pos (.inl h0)]
    go_enter Try.func23, Try.ntmps23
    go_wp2
    go_ret2
    rw [hR.out]
    exact ⟨rfl, rfl⟩
  · by_cases h8 : 8 < size
    · have hR : Hid (fixedR l size = (0, 1)) := by refine hid ?_; unfold fixedR; rw [if_pos (.inr h8)]
      go_enter Try.func23, Try.ntmps23
      go_wp2
      go_ret2
      rw [hR.out]
      exact ⟨rfl, rfl⟩
    · obtain ⟨k, rfl⟩ := Int.eq_ofNat_of_zero_le (show 0 ≤ size by omega)
      by_cases hk : n < k
      · have hR : Hid (fixedR l k = (0, 4)) := by refine hid ?_; unfold fixedR; rw [if_neg (by omega), if_pos (by rw [hn.out]; omega)]
        go_enter Try.func23, Try.ntmps23
        go_wp2
        go_ret2
        rw [hR.out]
        exact ⟨rfl, rfl⟩
      · have hR : Hid (fixedR l k = (fixed (l.take k), 0)) := by refine hid ?_; unfold fixedR; rw [if_neg (by omega), if_neg (by rw [hn.out]; omega)]; simp
        have hk8 : k ≤ 8 := by omega
        go_enter Try.func23, Try.ntmps23
        go_wp2
        go_loop [6, 25] (fun x i => ∃ (j acc : Nat), j ≤ k ∧ i = .int .i64 j ∧ x = .int .u64 acc ∧ Hid (acc = fixed (l.take j))) (fun _ i => k - (intOf i).toNat)
        case atStart => exact ⟨0, 0, by omega, rfl, rfl, hid rfl⟩
        case round =>
          obtain ⟨j, acc, hj, rfl, rfl, hacc⟩ := hrel
          by_cases hjk : j < k
          · have hjl : j < l.length := by have := hn.out; omega
            obtain ⟨b, o, rfl, hb, hc⟩ := hr (by rw [cb_length]; omega)
            have hck := hc j _ (cb_get l j hjl)
            unfold u8c at hck
            obtain ⟨u, hu⟩ : ∃ u, u = l[j] := ⟨_, rfl⟩
            rw [← hu] at hck
            replace hu := hid hu
            have hsh := shl8_or acc u (by
              rw [hacc.out]
              have := fixed_lt (l.take j) 7 (by rw [List.length_take]; omega)
              simpa using this)
            have hult := u.toNat_lt
            clear hr hc
            go_wp2
            go_round
            case rel => exact ⟨j + 1, acc * 256 + u.toNat, by omega, by go_num, rfl, hid (by rw [List.take_succ_eq_append_getElem hjl, fixed, fixedG_snoc, ← hu.out, hacc.out, fixed])⟩
            case measure => simp [intOf]; omega
          · obtain rfl : j = k := by omega
            go_wp2
            go_ret2
            rw [hR.out, ← hacc.out]
            exact ⟨rfl, rfl⟩

end Go.Proofs.Ytcmbdbphddokmaa
