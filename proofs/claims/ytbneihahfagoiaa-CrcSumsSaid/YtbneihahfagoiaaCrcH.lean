/-
  THE WALK of CrcSeals.
-/
import Derived.Test.YtbneihahfagoiaaCrcF
namespace Go.Proofs.Ytbneihahfagoiaa
open Go.RowKit

theorem own_none {w : World} {base : Nat} {e : TypeId} {A : Option Addr} {n c : Nat} {xs : List Value} (h : w.ownsRow base e 1 (.slice A n c) n xs) (hA : A = none) : n = 0 := by
  rcases Nat.eq_zero_or_pos n with h0 | h0
  · exact h0
  · obtain ⟨g, hg, _⟩ := own_addr h h0
    rw [hA] at hg
    cases hg

/-- Sealed so many times. -/
def sealN : Nat → List UInt8 → List UInt8
  | 0, l => l
  | j + 1, l => seal_ (sealN j l)
theorem sealN_length (j L : Nat) (l : List UInt8) (h : l.length = L) : (sealN j l).length = L + 4 * j := by
  induction j with
  | zero => exact h
  | succ j ih => show (seal_ (sealN j l)).length = _; rw [seal_length, ih]; omega

set_option maxHeartbeats 2000000 in
set_option maxRecDepth 100000 in
theorem seals_walk (A : Option Addr) (L : Nat) (c : Nat) (l : List UInt8) (z : Int) (w : World) (hL : l.length = L) (hr : Rd w A (cb l)) (hA : A = none → l = []) (hLc : L ≤ c) (hcm : c ≤ maxLen) :
    Calls Try.prog 4 #[.slice A L c, .int .i64 z] w (Yes w) := by
  have hln := hid fun j => sealN_length j L l hL
  replace hL := hid hL
  replace hcm := hid hcm
  by_cases hbig : 2000 < L
  · go_enter Try.func4, Try.ntmps4
    go_wp2_with fail
    refine (awake_any _).mono ?_
    rintro e w3 ⟨rfl, hb3⟩
    go_wp2_with fail
    go_ret
    exact ⟨rfl, hb3⟩
  · obtain ⟨r, hr255, hb⟩ := i64_mask z 255 (by omega)
    have hb : bits BinOp.and IntKind.i64 z 255 = (r : Int) := hb
    obtain ⟨m, hm, hm5⟩ : ∃ m : Nat, (r : Int) % 6 = (m : Int) ∧ m ≤ 5 := ⟨r % 6, by omega, by omega⟩
    go_enter Try.func4, Try.ntmps4
    go_wp2
    try rw [hm]
    clear hm hb
    go_loopw [5, 6] (fun s i wr => ∃ (j : Nat) (A1 : Option Addr) (c1 : Nat), s = .slice A1 (L + 4 * j) c1 ∧ i = .int .i64 j ∧ j ≤ m ∧ L + 4 * j ≤ c1 ∧ Hid (c1 ≤ maxLen) ∧ Rd wr A1 (cb (sealN j l)) ∧ Hid (A1 = none → sealN j l = []) ∧ Below w.heap.size w wr) (fun _ i _ => m - (intOf i).toNat)
    case atStart => exact ⟨0, A, c, rfl, rfl, by omega, hLc, hcm, hr, hid hA, Below.refl _ _⟩
    case round =>
      obtain ⟨j, A1, c1, rfl, rfl, hj, hc1, hm1, hd1, hn1, hb1⟩ := hrel
      by_cases hlt : j < m
      · go_wp2_with fail
        refine (seal_any A1 (L + 4 * j) (sealN j l) c1 _ (hln.out j) hd1 (by omega)).mono ?_
        rintro e w2 ⟨A2, c2, rfl, hown2, hb2⟩
        have hcap := own_cap hown2
        replace hcap := hid hcap
        go_wp2_with fail
        go_roundw
        case rel => exact ⟨j + 1, A2, c2, rfl, by go_num, by omega, hcap.out.1, hid hcap.out.2, Rd.of_own hown2, hid (fun h => by have := own_none hown2 h; omega), hb1.trans (hb2.mono hb1.size)⟩
        case measure => simp [intOf]; omega
      · obtain rfl : j = m := by omega
        go_wp2
        go_loopw [5, 7] (fun s i wr => ∃ (k q : Nat) (A1 : Option Addr) (c1 : Nat), s = .slice A1 (L + 4 * q) c1 ∧ i = .int .i64 k ∧ k + q = j ∧ L + 4 * q ≤ c1 ∧ Hid (c1 ≤ maxLen) ∧ Rd wr A1 (cb (sealN q l)) ∧ Hid (A1 = none → sealN q l = []) ∧ Below w.heap.size w wr) (fun _ i _ => j - (intOf i).toNat)
        case atStart => exact ⟨0, j, A1, c1, rfl, rfl, by omega, hc1, hm1, hd1, hn1, hb1⟩
        case round =>
          clear hd1 hn1 hb1 hc1 hm1
          obtain ⟨k, q, A1, c1, rfl, rfl, hk, hc1, hm1, hd1, hn1, hb1⟩ := hrel
          rcases q with _ | q
          · obtain rfl : k = j := by omega
            have hA1 : Hid (A1 = none → l = []) := hn1
            have hd1 : Rd _ A1 (cb l) := hd1
            by_cases h3 : 3 < L
            · go_wp2_with fail
              refine (open_any A 3 (l.take 3) c _ (by rw [List.length_take, hL.out]; omega) (by rw [← cb_take]; exact (hr.below hb1).take 3) (fun h => by rw [hA h]; rfl) (by omega) hcm.out (by omega)).mono ?_
              rintro e w2 ⟨A2, c2, rfl, hown2, hb2⟩
              rw [open_short _ (by rw [List.length_take]; omega)] at hown2 ⊢
              simp only [] at hown2 ⊢
              have hcv1 := run_strn (P := Try.prog) w2 22 9 5 Try.underlying22 Try.underlying5 Try.underlying9 A1 L l c1 hL.out (hd1.below hb2)
              have hcv0 := run_strn (P := Try.prog) w2 22 9 5 Try.underlying22 Try.underlying5 Try.underlying9 A L l c hL.out ((hr.below hb1).below hb2)
              clear hown2
              go_wp2_with fail
              refine (awake_any _).mono ?_
              rintro e w3 ⟨rfl, hb3⟩
              have hb03 := hb1.trans (hb2.mono hb1.size)
              go_wp2_with fail
              go_ret
              exact ⟨rfl, hb03.trans (hb3.mono hb03.size)⟩
            · go_wp2_with fail
              refine (open_any A L l c _ hL.out (hr.below hb1) hA hLc hcm.out (by omega)).mono ?_
              rintro e w2 ⟨A2, c2, rfl, hown2, hb2⟩
              rw [open_short _ (by rw [hL.out]; omega)] at hown2 ⊢
              simp only [] at hown2 ⊢
              have hcv1 := run_strn (P := Try.prog) w2 22 9 5 Try.underlying22 Try.underlying5 Try.underlying9 A1 L l c1 hL.out (hd1.below hb2)
              have hcv0 := run_strn (P := Try.prog) w2 22 9 5 Try.underlying22 Try.underlying5 Try.underlying9 A L l c hL.out ((hr.below hb1).below hb2)
              clear hown2
              go_wp2_with fail
              refine (awake_any _).mono ?_
              rintro e w3 ⟨rfl, hb3⟩
              have hb03 := hb1.trans (hb2.mono hb1.size)
              go_wp2_with fail
              go_ret
              exact ⟨rfl, hb03.trans (hb3.mono hb03.size)⟩
          · go_wp2_with fail
            refine (open_any A1 (L + 4 * (q + 1)) (seal_ (sealN q l)) c1 _ (hln.out (q + 1)) hd1 hn1.out hc1 hm1.out (by omega)).mono ?_
            rintro e w2 ⟨A2, c2, rfl, hown2, hb2⟩
            rw [open_seal] at hown2 ⊢
            simp only [] at hown2 ⊢
            rw [hln.out q] at hown2 ⊢
            go_wp2_with fail
            go_roundw
            case rel => exact ⟨k + 1, q, A2, L + 4 * q, rfl, by go_num, by omega, by omega, hid (by unfold maxLen; omega), Rd.of_own hown2, hid (fun h => by have := own_none hown2 h; exact List.eq_nil_of_length_eq_zero (by rw [hln.out q]; omega)), hb1.trans (hb2.mono hb1.size)⟩
            case measure => simp [intOf]; omega
end Go.Proofs.Ytbneihahfagoiaa
