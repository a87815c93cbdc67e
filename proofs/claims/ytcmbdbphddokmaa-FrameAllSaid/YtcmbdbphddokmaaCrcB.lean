/-
  THE WALKS: crc.More, crc.Sum, crc.Tail.
-/
import Derived.Test.YtcmbdbphddokmaaCrcA
import Derived.Deep.WholeRow
namespace Go.Proofs.Ytcmbdbphddokmaa
open Go.RowKit

def zer16 : List Value := List.replicate 16 (.int .u32 0)

set_option maxHeartbeats 1000000 in
set_option maxRecDepth 100000 in
theorem more_any (s : Reg) (A : Option Addr) (n : Nat) (l : List UInt8) (c : Nat) (w : World) (hn : l.length = n) (hr : Rd w A (cb l)) (hl : n ≤ 140737488355328) :
    Calls Try.prog 38 #[.int .u32 (s.toNat : Int), .slice A n c] w fun e w' => e = .returned (.int .u32 ((more s l).toNat : Int)) ∧ Below w.heap.size w w' := by
  replace hn := hid hn
  have hnb := not_bits s
  obtain ⟨s1, hs1⟩ : ∃ s1, ~~~s = s1 := ⟨_, rfl⟩
  rw [hs1] at hnb
  replace hs1 := hid hs1
  go_enter Try.func38, Try.ntmps38
  go_wp2_with fail
  refine (table_any w).mono ?_
  rintro e w1 ⟨rfl, hb1⟩
  have hsc := run_storeCells_new (P := Try.prog) w1 74 zer16.toArray (tabL 16).toArray (by kernel_rfl) (by kernel_rfl) (by rw [Array.all_eq_true_iff_forall_mem]; intro v hv; exact tabL_one 16 v (by simpa using hv))
  have hsc : (storeCells ⟨w1.heap.size, 0, none⟩ (tabL 16)).run Try.prog (w1.alloc (.cells #[.int .u32 0, .int .u32 0, .int .u32 0, .int .u32 0, .int .u32 0, .int .u32 0, .int .u32 0, .int .u32 0, .int .u32 0, .int .u32 0, .int .u32 0, .int .u32 0, .int .u32 0, .int .u32 0, .int .u32 0, .int .u32 0] 74)) = .ok () (w1.alloc (.cells (tabL 16).toArray 74)) := by
    exact hsc
  go_wp2_with fail
  have htab : ∀ j, j < 16 → (w1.alloc (.cells (tabL 16).toArray 74)).cell? ⟨w1.heap.size, j, none⟩ = some (regV (tab j)) := by
    intro j hj
    rw [cell_of_row _ _ j _ _ _ (heap_alloc_new w1 _), List.getElem?_toArray, tabL_get 16 j hj, if_pos hj]
  have hrd : Rd (w1.alloc (.cells (tabL 16).toArray 74)) A (cb l) := (hr.below hb1).alloc _
  have hbw : Below w.heap.size w (w1.alloc (.cells (tabL 16).toArray 74)) := hb1.alloc hb1.size _
  obtain ⟨wm, hwm⟩ : ∃ wm, w1.alloc (.cells (tabL 16).toArray 74) = wm := ⟨_, rfl⟩
  rw [hwm] at htab hrd hbw ⊢
  clear hwm hsc hb1 hr
  replace htab := hid htab
  go_loop [6, 14] (fun x i => ∃ (j : Nat) (r : Reg), i = .int .i64 j ∧ j ≤ n ∧ x = .int .u32 (r.toNat : Int) ∧ Hid (r = reg s1 (l.take j))) (fun _ i => n - (intOf i).toNat)
  case atStart => exact ⟨0, s1, rfl, by omega, rfl, hid rfl⟩
  case round =>
    obtain ⟨j, r, rfl, hj, rfl, hreg⟩ := hrel
    by_cases hlt : j < n
    · have hjl : j < l.length := by rw [hn.out]; exact hlt
      obtain ⟨b, o, rfl, hb, hc⟩ := hrd (by rw [cb_length]; omega)
      have hck := hc j _ (cb_get l j hjl)
      unfold u8c at hck
      obtain ⟨u, hu⟩ : ∃ u, u = l[j] := ⟨_, rfl⟩
      rw [← hu] at hck
      replace hu := hid hu
      have hult := u.toNat_lt
      have hx := xor_bits r u
      obtain ⟨r1, hr1⟩ : ∃ r1, r ^^^ rb u = r1 := ⟨_, rfl⟩
      rw [hr1] at hx
      have ha1 := and15_bits r1
      have ht1 := htab.out (r1.toNat % 16) (by omega)
      unfold regV at ht1
      have hn1 := nib_bits r1
      obtain ⟨r2, hr2⟩ : ∃ r2, sts 4 r1 = r2 := ⟨_, rfl⟩
      rw [hr2] at hn1
      have ha2 := and15_bits r2
      have ht2 := htab.out (r2.toNat % 16) (by omega)
      unfold regV at ht2
      have hn2 := nib_bits r2
      have hm1 : r1.toNat % 16 < 16 := by omega
      have hm2 : r2.toNat % 16 < 16 := by omega
      replace hr1 := hid hr1
      replace hr2 := hid hr2
      clear hrd hc
      go_wp2
      go_round
      case rel => exact ⟨j + 1, sts 4 r2, by go_num, by omega, rfl, hid (by rw [List.take_succ_eq_append_getElem hjl, reg_snoc, ← hu.out, ← hreg.out, hr1.out, hr2.out])⟩
      case measure => simp [intOf]; omega
    · have hnb2 := not_bits r
      obtain ⟨r1, hr1⟩ : ∃ r1, ~~~r = r1 := ⟨_, rfl⟩
      rw [hr1] at hnb2
      replace hr1 := hid hr1
      go_wp2
      go_ret
      have : l.take j = l := List.take_of_length_le (by rw [hn.out]; omega)
      refine ⟨?_, hbw⟩
      rw [more, hs1.out, ← this, ← hreg.out, hr1.out]
      rfl
end Go.Proofs.Ytcmbdbphddokmaa
