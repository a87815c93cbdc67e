/-
  THE WALKS at uint32: Len, Width, Get.
-/
import Derived.Test.YtgclakhcddadpaaPkA32
namespace Go.Proofs.Ytgclakhcddadpaa
open Go.RowKit

set_option maxHeartbeats 400000 in
theorem len32 (g z : Nat) (l : List Nat) (w : World) (hv : VecAt 94 .u32 g z l w) :
    Calls Try.prog 29 #[.pointer (some ⟨g, 0, none⟩)] w fun e w' => e = .returned (.int .i64 (l.length : Int)) ∧ w = w' := by
  obtain ⟨A, c, h1, h2, h3, h4, h5⟩ := hv
  obtain ⟨c0, c1⟩ := vec_cells h1
  clear h1
  go_enter Try.func29, Try.ntmps29
  go_wp2
  go_ret
  exact ⟨rfl, rfl⟩

set_option maxHeartbeats 400000 in
theorem vwidth32 (g z : Nat) (l : List Nat) (w : World) (hv : VecAt 94 .u32 g z l w) :
    Calls Try.prog 35 #[.pointer (some ⟨g, 0, none⟩)] w fun e w' => e = .returned (.int .i64 (z : Int)) ∧ w = w' := by
  obtain ⟨A, c, h1, h2, h3, h4, h5⟩ := hv
  obtain ⟨c0, c1⟩ := vec_cells h1
  clear h1
  go_enter Try.func35, Try.ntmps35
  go_wp2
  go_ret
  exact ⟨rfl, rfl⟩

/-- The number at a place; nought where there is none. -/
def getN32 (l : List Nat) (i : Int) : Nat := if i < 0 then 0 else l.getD i.toNat 0
theorem getN32_out (l : List Nat) (i : Int) (h : i < 0 ∨ (l.length : Int) ≤ i) : getN32 l i = 0 := by
  unfold getN32
  split
  · rfl
  · rw [List.getD_eq_getElem?_getD, List.getElem?_eq_none (by omega)]; rfl
theorem getN32_in (l : List Nat) (j : Nat) (h : j < l.length) : getN32 l (j : Int) = l[j] := by
  unfold getN32
  rw [if_neg (by omega), List.getD_eq_getElem?_getD, Int.toNat_natCast, List.getElem?_eq_getElem h]
  rfl

set_option maxHeartbeats 1000000 in
theorem get32 (g z n : Nat) (l : List Nat) (i : Int) (w : World) (hv : VecAt 94 .u32 g z l w) (hn : l.length = n) (hnm : n ≤ 1000000) :
    Calls Try.prog 31 #[.pointer (some ⟨g, 0, none⟩), .int .i64 i] w fun e w' => e = .returned (.int .u32 (getN32 l i : Int)) ∧ w = w' := by
  obtain ⟨A, c, h1, h2, h3, h4, h5⟩ := hv
  obtain ⟨c0, c1⟩ := vec_cells h1
  rw [hn] at c1
  clear h1 h3
  by_cases h0 : i < 0
  · have hg := hid (getN32_out l i (.inl h0))
    go_enter Try.func31, Try.ntmps31
    go_wp2
    go_ret
    rw [hg.out]
    exact ⟨rfl, rfl⟩
  · by_cases h6 : (n : Int) ≤ i
    · have hg := hid (getN32_out l i (.inr (by rw [hn]; exact h6)))
      replace hn := hid hn
      go_enter Try.func31, Try.ntmps31
      go_wp2
      go_ret
      rw [hg.out]
      exact ⟨rfl, rfl⟩
    · obtain ⟨j, rfl⟩ : ∃ j : Nat, i = (j : Int) := ⟨i.toNat, by omega⟩
      have hjl : j < l.length := by omega
      have hg := hid (getN32_in l j hjl)
      obtain ⟨b, o, rfl, hb, hc⟩ := h2 (by rw [uk_length]; omega)
      have hce := hc j _ (uk_get .u32 l j hjl)
      have hjI : (j : Int) < (n : Int) := by omega
      obtain ⟨x, hx⟩ : ∃ x, l[j] = x := ⟨_, rfl⟩
      rw [hx] at hce hg
      replace hn := hid hn
      replace hx := hid hx
      clear hc
      go_enter Try.func31, Try.ntmps31
      go_wp2
      go_ret
      rw [hg.out]
      exact ⟨rfl, rfl⟩
end Go.Proofs.Ytgclakhcddadpaa
