/-
  THE WALK of CrcApart.
-/
import Derived.Test.YtbneihahfagoiaaCrcF
namespace Go.Proofs.Ytbneihahfagoiaa
open Go.RowKit

set_option maxHeartbeats 1000000 in
set_option maxRecDepth 100000 in
theorem apart_walk (A : Option Addr) (L : Nat) (c : Nat) (l : List UInt8) (at_ : Int) (x : UInt8) (w : World) (hL : l.length = L) (hr : Rd w A (cb l)) (hA : A = none → l = []) :
    Calls Try.prog 3 #[.slice A L c, .int .i64 at_, .int .u8 (x.toNat : Int)] w (Yes w) := by
  obtain ⟨i0, hi, hz0, hz1, hz2⟩ := info_parts info_u8
  replace hL := hid hL
  by_cases hbig : L = 0 ∨ 3000 < L
  · go_enter Try.func3, Try.ntmps3
    rcases hbig with rfl | hbig
    · go_wp2_with fail
      refine (awake_any _).mono ?_
      rintro e w3 ⟨rfl, hb3⟩
      go_wp2_with fail
      go_ret
      exact ⟨rfl, hb3⟩
    · have h0 : ((L : Int) == 0) = false := by simp; omega
      go_wp2_with fail
      refine (awake_any _).mono ?_
      rintro e w3 ⟨rfl, hb3⟩
      go_wp2_with fail
      go_ret
      exact ⟨rfl, hb3⟩
  · have h0 : ((L : Int) == 0) = false := by simp; omega
    have hL3 : L ≤ 3000 := by omega
    have hL1 : 0 < L := by omega
    obtain ⟨r, hr65, hb⟩ := i64_mask at_ 65535 (by omega)
    have hb : bits BinOp.and IntKind.i64 at_ 65535 = (r : Int) := hb
    have hk1 := Nat.mod_lt r hL1
    have hk2 : ((r : Int).tmod (L : Int)) = ((r % L : Nat) : Int) := by rw [Int.tmod_eq_emod_of_nonneg (by omega)]; rfl
    have hk3 : ((r : Int) % (L : Int)) = ((r % L : Nat) : Int) := rfl
    generalize r % L = k at hk1 hk2 hk3
    have hkl : k < l.length := by rw [hL.out]; exact hk1
    have hxc := u8_xor_c l[k] x
    have hown0 := own_empty w 5
    have hiff : Hid (sum l = sum (l.set k (l[k] ^^^ x)) ↔ x = 0) := by
      refine hid ⟨fun h => xor_self_of (sum_set l k hkl _ h), fun h => ?_⟩
      subst h
      rw [UInt8.xor_zero, List.set_getElem_self]
    obtain ⟨y, hy⟩ : ∃ y, l[k] = y := ⟨_, rfl⟩
    rw [hy] at hxc hiff
    have hyv : (cb l)[k]? = some (.int .u8 (y.toNat : Int)) := by rw [cb_get _ _ hkl, hy]; rfl
    obtain ⟨v, hv⟩ : ∃ v, y ^^^ x = v := ⟨_, rfl⟩
    rw [hv] at hxc hiff
    replace hy := hid hy
    replace hv := hid hv
    obtain ⟨s1, hs1⟩ : ∃ s, (sum l).toNat = s := ⟨_, rfl⟩
    obtain ⟨s2, hs2⟩ : ∃ s, (sum (l.set k v)).toNat = s := ⟨_, rfl⟩
    have heqb : ((s1 : Int) == (s2 : Int)) = ((x.toNat : Int) == 0) := by
      have h1 : s1 = s2 ↔ x = 0 := by rw [← hs1, ← hs2, ← hiff.out]; exact ⟨fun h => BitVec.eq_of_toNat_eq h, fun h => by rw [h]⟩
      have h2 : x.toNat = 0 ↔ x = 0 := ⟨fun h => UInt8.toNat_inj.1 (by simpa using h), fun h => by subst h; rfl⟩
      rw [Bool.eq_iff_iff, beq_iff_eq, beq_iff_eq]
      refine ⟨fun h => ?_, fun h => ?_⟩
      · have := h2.2 (h1.1 (Int.ofNat_inj.1 h)); omega
      · have := h1.2 (h2.1 (by omega)); omega
    generalize hxb : ((x.toNat : Int) == 0) = xb at heqb
    replace hs1 := hid hs1
    replace hs2 := hid hs2
    replace hyv := hid hyv
    go_enter Try.func3, Try.ntmps3
    go_wp2_with (at_builtin; refine wpList_app _ rfl (.tmp 17) (.tmp 18) 22 rfl w.heap.size 5 i0 (.int .u8 0) 1 Try.underlying22 hi hz0 hz1 hz2 rfl _ _ _ _ rfl hown0 _ _ _ _ rfl (hr.alloc _) (by rw [cb_length]; exact hL.out) (cb_one l) (by unfold maxLen; omega) (by omega) (by simp) ?_; intro A1 c1 w1 hown1 hg1 hb1 _; rw [Nat.zero_add, List.nil_append] at hown1; obtain ⟨g, rfl, hg1', hg2'⟩ := own_addr hown1 hL1; have hce : w1.cell? ⟨g, k, none⟩ = some (.int .u8 (y.toNat : Int)) := (by rw [hown1.cellAt k (by omega)]; exact hyv.out); have hfr := hown1.frozenAt k; obtain ⟨hst1, _⟩ := hown1.stored k (u8c v); rw [cb_set] at hst1; have hst2 := ((Below.refl _ w).alloc (Nat.le_refl _) (.cells #[] 5)).trans (hb1.setCell (p := ⟨g, k, none⟩) hg1' (u8c v)))
    refine (sum_any A L l c _ hL.out (hr.below hst2) (by omega)).mono ?_
    rintro e w2 ⟨rfl, hb2⟩
    rw [hs1.out]
    go_wp2_with fail
    refine (sum_any _ L (l.set k v) c1 _ (by rw [List.length_set]; exact hL.out) ((Rd.of_own hst1).below hb2) (by omega)).mono ?_
    rintro e w3 ⟨rfl, hb3⟩
    rw [hs2.out]
    have hb03 : Below w.heap.size w w3 := (hst2.trans (hb2.mono hst2.size)).trans (hb3.mono (Nat.le_trans hst2.size hb2.size))
    go_wp2_with fail
    refine (awake_any _).mono ?_
    rintro e w4 ⟨rfl, hb4⟩
    go_wp2_with fail
    go_ret
    exact ⟨rfl, hb03.trans (hb4.mono hb03.size)⟩
end Go.Proofs.Ytbneihahfagoiaa
