/-
  THE WALKS: crc.table, crc.Tail.
-/
import Derived.Test.YtcmbdbphddokmaaSl
import Derived.Test.YtcmbdbphddokmaaPlainCrc
import Derived.Laws.Rows
namespace Go.Proofs.Ytcmbdbphddokmaa
open Go.RowKit

def regV (r : Reg) : Value := .int .u32 (r.toNat : Int)
def tabL (k : Nat) : List Value := (List.range 16).map fun i => if i < k then regV (tab i) else .int .u32 0

theorem tabL_get (k j : Nat) (h : j < 16) : (tabL k)[j]? = some (if j < k then regV (tab j) else .int .u32 0) := by
  unfold tabL
  rw [List.getElem?_map, List.getElem?_range h]
  rfl
theorem tabL_set (k : Nat) (h : k < 16) : (tabL k).set k (regV (tab k)) = tabL (k + 1) := by
  apply List.ext_getElem?
  intro j
  by_cases hj : j < 16
  · rw [List.getElem?_set, tabL_get (k + 1) j hj, tabL_get k j hj]
    by_cases e : k = j
    · subst e; simp [tabL, h]
    · simp only [e, if_false]
      by_cases h1 : j < k
      · rw [if_pos h1, if_pos (by omega)]
      · rw [if_neg h1, if_neg (by omega)]
  · rw [List.getElem?_eq_none (by simp [tabL]; omega), List.getElem?_eq_none (by simp [tabL]; omega)]

theorem tabL_one (k : Nat) : ∀ v ∈ tabL k, v.oneCell' = true := by
  intro v hv
  simp only [tabL, List.mem_map] at hv
  obtain ⟨i, _, rfl⟩ := hv
  split <;> rfl

theorem below_setR {B : Nat} {a w : World} (h : Below B a w) {g : Nat} (hg : B ≤ g) (cs : Array Value) : Below B a (w.setRow g cs) :=
  h.trans ⟨rfl, rfl, rfl, by simp, fun k hk => setRow_other w g k cs (by omega)⟩

set_option maxHeartbeats 1000000 in
set_option maxRecDepth 100000 in
theorem table_any (w : World) :
    Calls Try.prog 39 #[] w fun e w' => e = .returned (.agg (tabL 16).toArray) ∧ Below w.heap.size w w' := by
  go_enter Try.func39, Try.ntmps39
  go_wp2
  go_loopw [4] (fun i wr => ∃ k : Nat, i = .int .i64 k ∧ k ≤ 16 ∧ wr.heap[w.heap.size + 1]? = some (.cells (tabL k).toArray 74 (0, 0)) ∧ wr.heap[w.heap.size]? = some (.cells (tabL 0).toArray 74 (0, 0)) ∧ Below w.heap.size w wr)
    (fun i _ => 16 - (intOf i).toNat)
  case atStart => exact ⟨0, rfl, by omega, heap_alloc2_new w _ _, heap_alloc2_old w _ _, ((Below.refl _ w).alloc (Nat.le_refl _) _).alloc (by simp) _⟩
  case round =>
    obtain ⟨k, rfl, hk, hh1, hh0, hb⟩ := hrel
    by_cases hlt : k < 16
    · have hce := cell_of_row wr (w.heap.size + 1) k _ _ _ hh1
      rw [List.getElem?_toArray, tabL_get k k hlt, if_neg (by omega)] at hce
      have hfr := frozen_of_row wr (w.heap.size + 1) k _ _ hh1
      replace hh1 := hid hh1
      replace hh0 := hid hh0
      go_wp2
      go_loop [3, 9] (fun n j => ∃ (q : Nat) (r : Reg), j = .int .i64 q ∧ q ≤ 4 ∧ n = regV r ∧ Hid (r = sts q (BitVec.ofNat 32 k))) (fun _ j => 4 - (intOf j).toNat)
      case atStart => exact ⟨0, BitVec.ofNat 32 k, rfl, by omega, by unfold regV; congr 1; simp; omega, hid rfl⟩
      case round =>
        obtain ⟨q, r, rfl, hq, rfl, hr⟩ := hrel
        by_cases hq4 : q < 4
        · unfold regV
          go_wp2
          go_round
          case rel => exact ⟨q + 1, st r, by go_num, by omega, by rw [st_bits], hid (by rw [sts_succ, ← hr.out])⟩
          case measure => simp [intOf]; omega
        · unfold regV
          go_wp2
          go_roundw
          case rel =>
            have hq : q = 4 := by omega
            have hr4 : r = tab k := by rw [hr.out, hq]; rfl
            refine ⟨k + 1, by go_num, by omega, ?_, ?_, hb.setCell (p := ⟨w.heap.size + 1, k, none⟩) (by simp) _⟩
            · have h := heap_setCell_same wr (w.heap.size + 1) k _ _ (regV r) hh1.out
              rw [List.setIfInBounds_toArray, hr4, tabL_set k hlt, ← hr4] at h
              exact h
            · have h := heap_setCell_other wr ⟨w.heap.size + 1, k, none⟩ w.heap.size (regV r) (by simp)
              exact h.trans hh0.out
          case measure => simp [intOf]; omega
    · obtain rfl : k = 16 := by omega
      have hsc := run_storeCells_from (P := Try.prog) w.heap.size 74 (tabL 16) 0 _ wr hh0 rfl (tabL_one 16)
      have hsc : (storeCells ⟨w.heap.size, 0, none⟩ (tabL 16)).run Try.prog wr = .ok () (wr.setRow w.heap.size (tabL 16).toArray) := hsc
      have hrow := setRow_heap wr w.heap.size _ (tabL 16).toArray _ _ hh0
      replace hrow := hid hrow
      have hbe := below_setR hb (Nat.le_refl _) (tabL 16).toArray
      go_wp2_with (refine wpList_load_row rfl 74 _ rfl _ rfl _ _ _ _ hh1 Try.underlying74 rfl (by kernel_rfl) ?_)
      refine bodyPost_ret (results_cell_row rfl _ _ _ _ _ _ _ rfl hrow.out Try.underlying74 rfl (by kernel_rfl)) rfl ⟨rfl, hbe⟩
end Go.Proofs.Ytcmbdbphddokmaa
