/-
  THE WALKS at uint16: Clone, Width, New, Len, Width, Get.
-/
import Derived.Test.YtgclakhcddadpaaPkW
namespace Go.Proofs.Ytgclakhcddadpaa
open Go.RowKit

theorem info16 : (Try.prog.info? 40).map (fun i => (i.zero, i.size, i.bytes)) = some (some (.int .u16 0), 1, 2) := by kernel_rfl

set_option maxHeartbeats 400000 in
theorem clone16 (A : Option Addr) (n : Nat) (l : List Nat) (c : Nat) (w : World) (hn : l.length = n) (hr : Rd w A (uk .u16 l)) (hA : A = none → l = []) (hl : n ≤ 100000) :
    Calls Try.prog 49 #[.slice A n c] w (Res 40 n (uk .u16 l) w) := by
  subst hn
  obtain ⟨i0, hi, hz0, hz1, hz2⟩ := info_parts info16
  have heq := fun (w : World) (a : Option Addr) (n c : Nat) => Lib.run_eql_slice_nil (P := Try.prog) w 38 40 a n c 0 0 Try.underlying38
  rcases A with _ | a
  · obtain rfl := hA rfl
    go_enter Try.func49, Try.ntmps49
    go_wp2
    go_ret
    exact ⟨none, 0, rfl, World.ownsRow_nil _ _ _ _, Below.refl _ _⟩
  · have h0 : (w.alloc (.cells #[] 40)).ownsRow w.heap.size 40 1 (.slice (some ⟨w.heap.size, 0, none⟩) 0 0) 0 [] := own_empty w 40
    go_enter Try.func49, Try.ntmps49
    go_wp2_with (at_builtin; refine wpList_app _ rfl (.tmp 5) (.tmp 6) 38 rfl w.heap.size 40 i0 (.int .u16 0) 2 Try.underlying38 hi hz0 hz1 hz2 rfl _ _ _ _ rfl h0 _ _ _ _ rfl (hr.alloc _) (uk_length .u16 l) (uk_one .u16 l) ?c1 ?c2 ?c3 ?_)
    case c1 => unfold maxLen; omega
    case c2 => omega
    case c3 => simp
    intro A' c' w' hown hg hb _
    go_wp2
    go_ret
    exact ⟨A', c', rfl, by simpa using hown, (((Below.refl _ w).alloc (Nat.le_refl _) _)).trans hb⟩

set_option maxRecDepth 100000 in
set_option maxHeartbeats 1000000 in
theorem width16 (A : Option Addr) (n : Nat) (l : List Nat) (c : Nat) (w : World) (hn : l.length = n) (hr : Rd w A (uk .u16 l)) (hl : n ≤ 1000000) (hm : Hid (∀ x ∈ l, x < 65536)) :
    Calls Try.prog 15 #[.slice A n c] w fun e w' => e = .returned (.int .i64 (widthL l : Int)) ∧ w = w' := by
  replace hn := hid hn
  go_enter Try.func15, Try.ntmps15
  go_wp2
  go_loop [3, 8] (fun m i => ∃ j q : Nat, i = .int .i64 j ∧ j ≤ n ∧ m = .int .i64 q ∧ Hid (widthL (l.take j) = q) ∧ q ≤ 64) (fun _ i => n - (intOf i).toNat)
  case atStart => exact ⟨0, 0, rfl, Nat.zero_le _, rfl, hid (by rw [List.take_zero]; rfl), by omega⟩
  case round =>
    obtain ⟨j, q, rfl, hj, rfl, hq, hq64⟩ := hrel
    by_cases hlt : j < n
    · have hjl : j < l.length := by rw [hn.out]; exact hlt
      have hjI : (j : Int) < (n : Int) := by omega
      obtain ⟨b, o, rfl, hb, hc⟩ := hr (by rw [uk_length]; omega)
      have hce := hc j _ (uk_get .u16 l j hjl)
      have hws := hid (widthL_take l j hjl)
      have hxm := hm.out _ (List.getElem_mem hjl)
      obtain ⟨x, hx⟩ : ∃ x, l[j] = x := ⟨_, rfl⟩
      rw [hx] at hce hws hxm
      have hbl : Hid (blen x ≤ 64) := hid (blen_le.2 (by omega))
      have hwr : IntKind.u64.wrap (x : Int) = (x : Int) := by rw [IntKind.wrap_u64]; omega
      have hx64 : Hid (x < 18446744073709551616) := hid (by omega)
      obtain ⟨y, hy⟩ : ∃ y, blen x = y := ⟨_, rfl⟩
      rw [hy] at hbl hws
      rw [hq.out] at hws
      have hb64 : y ≤ 64 := hbl.out
      replace hxm := hid hxm
      replace hx := hid hx
      replace hy := hid hy
      clear hc
      go_wp2_with (go_at_call 47; refine (len64_any x _ hx64).mono ?_; rintro e w1 ⟨rfl, rfl⟩; rw [hy.out])
      all_goals
        go_round
        case rel => exact ⟨j + 1, max q y, by go_num, by omega, by congr 1; omega, hid hws.out, by omega⟩
        case measure => simp [intOf]; omega
    · obtain rfl : j = n := by omega
      have ht : l.take j = l := List.take_of_length_le (by rw [hn.out]; exact Nat.le_refl _)
      rw [ht] at hq
      go_wp2
      go_ret
      rw [hq.out]
      exact ⟨rfl, rfl⟩

set_option maxRecDepth 100000 in
set_option maxHeartbeats 1000000 in
theorem newArg16 (z : Int) (A : Option Addr) (n : Nat) (l : List Nat) (c : Nat) (w : World) (hn : l.length = n) (hr : Rd w A (uk .u16 l)) (hl : n ≤ 100000) (hm : Hid (∀ x ∈ l, x < 65536)) (h : z < 0 ∨ 64 < z ∨ z < (widthL l : Int)) :
    Calls Try.prog 16 #[.int .i64 z, .slice A n c] w fun e w' => e = .returned (.tuple #[.pointer none, .int .i64 1]) ∧ w = w' := by
  obtain ⟨q, hq⟩ : ∃ q, widthL l = q := ⟨_, rfl⟩
  rw [hq] at h
  replace hn := hid hn
  replace hq := hid hq
  by_cases h0 : z < 0
  · clear h
    go_enter Try.func16, Try.ntmps16
    go_wp2
    go_ret2
    exact ⟨rfl, rfl⟩
  · by_cases h1 : 64 < z
    · clear h
      go_enter Try.func16, Try.ntmps16
      go_wp2
      go_ret2
      exact ⟨rfl, rfl⟩
    · have h2 : z < (q : Int) := by omega
      clear h
      go_enter Try.func16, Try.ntmps16
      go_wp2_with (go_at_call 15; refine (width16 _ n l c _ hn.out hr (by omega) hm).mono ?_; rintro e w1 ⟨rfl, rfl⟩; rw [hq.out])
      go_ret2
      exact ⟨rfl, rfl⟩

set_option maxRecDepth 100000 in
set_option maxHeartbeats 1000000 in
theorem newOk16 (z : Nat) (A : Option Addr) (n : Nat) (l : List Nat) (c : Nat) (w : World) (hn : l.length = n) (hr : Rd w A (uk .u16 l)) (hA : A = none → l = []) (hl : n ≤ 100000) (hm : Hid (∀ x ∈ l, x < 65536)) (h1 : z ≤ 64) (h2 : widthL l ≤ z) :
    Calls Try.prog 16 #[.int .i64 z, .slice A n c] w (NewOk 86 .u16 z l w) := by
  obtain ⟨q, hq⟩ : ∃ q, widthL l = q := ⟨_, rfl⟩
  rw [hq] at h2
  have h2i : ¬ (z : Int) < (q : Int) := by omega
  have h3i : ¬ (100000 : Int) < (n : Int) := by omega
  have h1i : ¬ (64 : Int) < (z : Int) := by omega
  replace hn := hid hn
  replace hq := hid hq
  replace hA := hid hA
  go_enter Try.func16, Try.ntmps16
  go_wp2_with (first
    | (go_at_call 15; refine (width16 _ n l c _ hn.out hr (by omega) hm).mono ?_; rintro e w1 ⟨rfl, rfl⟩; rw [hq.out])
    | (go_at_call 49; refine (clone16 A n l c _ hn.out hr hA.out (by omega)).mono ?_; rintro e w1 ⟨A1, c1, rfl, hown1, hb1⟩))
  have hcap := own_cap hown1
  have hv : VecAt 86 .u16 w1.heap.size z l (w1.alloc (.cells #[.int .i64 (z : Int), .slice A1 n c1] 86)) := by
    refine ⟨A1, c1, by rw [hn.out]; exact heap_alloc_new w1 _, (Rd.of_own hown1).alloc _, fun h => ?_, by rw [hn.out]; exact hcap.1, hcap.2⟩
    rcases Nat.eq_zero_or_pos n with h0 | h0
    · exact List.eq_nil_of_length_eq_zero (by rw [hn.out]; exact h0)
    · obtain ⟨g, hg, _⟩ := own_addr hown1 h0
      rw [h] at hg; cases hg
  have hbz := hb1.alloc hb1.size (.cells #[.int .i64 (z : Int), .slice A1 n c1] 86)
  have hsz := hb1.size
  go_ret2
  exact ⟨_, rfl, hsz, hv, hbz⟩

end Go.Proofs.Ytgclakhcddadpaa
