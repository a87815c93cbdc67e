/-
  THE WALKS of the document's own Width, May, and of the law's own same.
-/
import Derived.Test.YtgclakhcddadpaaPkW
import Derived.Laws.IdiomStrings
namespace Go.Proofs.Ytgclakhcddadpaa
open Go.RowKit

theorem extract_list (l : List UInt8) (a b : Nat) : ByteArray.extract ⟨l.toArray⟩ a b = ⟨((l.take b).drop a).toArray⟩ := by
  apply ByteArray.ext
  rw [ByteArray.data_extract]
  apply Array.ext'
  simp [List.drop_take]

theorem run_add_lists {P : Program} (x y : List UInt8) (h : x.length + y.length ≤ 9223372036854775807) (w : World) :
    (Op.stringOp .add ⟨x.toArray⟩ ⟨y.toArray⟩).run P w = .ok (.string ⟨(x ++ y).toArray⟩) w := by
  rw [run_string_add_sum w _ _ (by simpa [ByteArray.size] using h), ByteArray.mk_append_mk]

theorem shr_zero (x k : Nat) : ((x : Int) / 2 ^ k != 0) = decide (¬ x < 2 ^ k) := by
  have e : (x : Int) / 2 ^ k = ((x / 2 ^ k : Nat) : Int) := by rw [Int.natCast_ediv]; simp
  have hp : 0 < 2 ^ k := Nat.pow_pos (by omega)
  rw [e]
  by_cases h : x < 2 ^ k
  · rw [Nat.div_eq_of_lt h]; simp [h]
  · have : x / 2 ^ k ≠ 0 := by
      intro h0
      rw [Nat.div_eq_zero_iff] at h0
      omega
    simp [h]
    omega

set_option maxRecDepth 100000 in
set_option maxHeartbeats 2000000 in
theorem refWidth_any (A : Option Addr) (n : Nat) (l : List Nat) (c : Nat) (w : World) (hn : l.length = n) (hr : Rd w A (uk .u64 l)) (hl : n ≤ 1000000) (hm : Hid (∀ x ∈ l, x < 18446744073709551616)) :
    Calls Try.prog 40 #[.slice A n c] w fun e w' => e = .returned (.int .i64 (widthL l : Int)) ∧ w = w' := by
  replace hn := hid hn
  go_enter Try.func40, Try.ntmps40
  go_wp2
  go_loop [3, 4] (fun m i => ∃ j q : Nat, i = .int .i64 j ∧ j ≤ n ∧ m = .int .i64 q ∧ Hid (widthL (l.take j) = q) ∧ q ≤ 64) (fun _ i => n - (intOf i).toNat)
  case atStart => exact ⟨0, 0, rfl, Nat.zero_le _, rfl, hid (by rw [List.take_zero]; rfl), by omega⟩
  case round =>
    obtain ⟨j, q, rfl, hj, rfl, hq, hq64⟩ := hrel
    by_cases hlt : j < n
    · have hjl : j < l.length := by rw [hn.out]; exact hlt
      have hjI : (j : Int) < (n : Int) := by omega
      obtain ⟨b, o, rfl, hb, hc⟩ := hr (by rw [uk_length]; omega)
      have hce := hc j _ (uk_get .u64 l j hjl)
      have hws := widthL_take l j hjl
      have hxm := hm.out _ (List.getElem_mem hjl)
      obtain ⟨x, hx⟩ : ∃ x, l[j] = x := ⟨_, rfl⟩
      rw [hx] at hce hws hxm
      obtain ⟨y, hy⟩ : ∃ y, blen x = y := ⟨_, rfl⟩
      rw [hy, hq.out] at hws
      have hy64 : y ≤ 64 := by rw [← hy]; exact blen_le.2 hxm
      replace hxm := hid hxm
      replace hx := hid hx
      replace hy := hid hy
      replace hws := hid hws
      clear hc
      go_wp2_with fail
      go_loop [3] (fun m => ∃ p : Nat, m = .int .i64 p ∧ q ≤ p ∧ p ≤ 64 ∧ p ≤ max q y) (fun m => 64 - (intOf m).toNat)
      case atStart => exact ⟨q, rfl, Nat.le_refl _, hq64, by omega⟩
      case round =>
        obtain ⟨p, rfl, hp1, hp2, hp3⟩ := hrel
        by_cases hp64 : p < 64
        · have hpI : (p : Int) < 64 := by omega
          by_cases hz : x < 2 ^ p
          · have hne : ((x : Int) / 2 ^ p != 0) = false := by rw [shr_zero]; simp [hz]
            have hyp : y ≤ p := by rw [← hy.out]; exact blen_le.2 hz
            replace hz := hid hz
            go_wp2
            go_round
            case rel => exact ⟨j + 1, p, by go_num, by omega, rfl, hid (by rw [hws.out]; omega), hp2⟩
            case measure => simp [intOf]; omega
          · have hne : ((x : Int) / 2 ^ p != 0) = true := by rw [shr_zero]; simp [hz]
            have hyp : p < y := by
              rcases Nat.lt_or_ge p y with h | h
              · exact h
              · exact absurd (blen_le.1 (by rw [hy.out]; exact h)) hz
            replace hz := hid hz
            go_wp2
            go_round
            case rel => exact ⟨p + 1, by go_num, by omega, by omega, by omega⟩
            case measure => simp [intOf]; omega
        · have hpI : ¬ (p : Int) < 64 := by omega
          go_wp2
          go_round
          case rel => exact ⟨j + 1, p, by go_num, by omega, rfl, hid (by rw [hws.out]; omega), hp2⟩
          case measure => simp [intOf]; omega
    · obtain rfl : j = n := by omega
      have ht : l.take j = l := List.take_of_length_le (by rw [hn.out]; exact Nat.le_refl _)
      rw [ht] at hq
      go_wp2
      go_ret
      rw [hq.out]
      exact ⟨rfl, rfl⟩

set_option maxRecDepth 100000 in
set_option maxHeartbeats 1000000 in
theorem may_arg (z : Int) (A : Option Addr) (n : Nat) (l : List Nat) (c : Nat) (w : World) (hn : l.length = n) (hr : Rd w A (uk .u64 l)) (hl : n ≤ 100000) (hm : Hid (∀ x ∈ l, x < 18446744073709551616)) (h : z < 0 ∨ 64 < z ∨ z < (widthL l : Int)) :
    Calls Try.prog 34 #[.int .i64 z, .slice A n c] w fun e w' => e = .returned (.int .i64 1) ∧ w = w' := by
  obtain ⟨q, hq⟩ : ∃ q, widthL l = q := ⟨_, rfl⟩
  rw [hq] at h
  replace hn := hid hn
  replace hq := hid hq
  by_cases h0 : z < 0
  · clear h
    go_enter Try.func34, Try.ntmps34
    go_wp2
    go_ret
    exact ⟨rfl, rfl⟩
  · by_cases h1 : 64 < z
    · clear h
      go_enter Try.func34, Try.ntmps34
      go_wp2
      go_ret
      exact ⟨rfl, rfl⟩
    · have h2 : z < (q : Int) := by omega
      clear h
      go_enter Try.func34, Try.ntmps34
      go_wp2_with (go_at_call 40; refine (refWidth_any _ n l c _ hn.out hr (by omega) hm).mono ?_; rintro e w1 ⟨rfl, rfl⟩; rw [hq.out])
      go_ret
      exact ⟨rfl, rfl⟩

set_option maxRecDepth 100000 in
set_option maxHeartbeats 1000000 in
theorem may_ok (z : Nat) (A : Option Addr) (n : Nat) (l : List Nat) (c : Nat) (w : World) (hn : l.length = n) (hr : Rd w A (uk .u64 l)) (hl : n ≤ 100000) (hm : Hid (∀ x ∈ l, x < 18446744073709551616)) (h1 : z ≤ 64) (h2 : widthL l ≤ z) :
    Calls Try.prog 34 #[.int .i64 z, .slice A n c] w fun e w' => e = .returned (.int .i64 0) ∧ w = w' := by
  obtain ⟨q, hq⟩ : ∃ q, widthL l = q := ⟨_, rfl⟩
  rw [hq] at h2
  have h2i : ¬ (z : Int) < (q : Int) := by omega
  have h3i : ¬ (100000 : Int) < (n : Int) := by omega
  have h1i : ¬ (64 : Int) < (z : Int) := by omega
  replace hn := hid hn
  replace hq := hid hq
  go_enter Try.func34, Try.ntmps34
  go_wp2_with (go_at_call 40; refine (refWidth_any _ n l c _ hn.out hr (by omega) hm).mono ?_; rintro e w1 ⟨rfl, rfl⟩; rw [hq.out])
  go_ret
  exact ⟨rfl, rfl⟩

set_option maxRecDepth 100000 in
set_option maxHeartbeats 2000000 in
/-- Two lists that are the same. -/
theorem same_true (A : Option Addr) (n c : Nat) (B : Option Addr) (d : Nat) (l : List Nat) (w : World) (hn : l.length = n) (hr : Rd w A (uk .u64 l)) (hr2 : Rd w B (uk .u64 l)) (hl : n ≤ 1000000) :
    Calls Try.prog 38 #[.slice A n c, .slice B n d] w fun e w' => e = .returned (.bool true) ∧ Below w.heap.size w w' := by
  replace hn := hid hn
  have hnn : ((n : Int) != (n : Int)) = false := by simp
  go_enter Try.func38, Try.ntmps38
  go_wp2
  clear hnn
  go_loopw [5] (fun i wr => ∃ j : Nat, i = .int .i64 j ∧ j ≤ n ∧ Below w.heap.size w wr) (fun i _ => n - (intOf i).toNat)
  case atStart => exact ⟨0, rfl, Nat.zero_le _, Below.refl _ _⟩
  case round =>
    obtain ⟨j, rfl, hj, hb⟩ := hrel
    by_cases hlt : j < n
    · have hjl : j < l.length := by rw [hn.out]; exact hlt
      have hjI : (j : Int) < (n : Int) := by omega
      obtain ⟨b, o, rfl, hbo, hc⟩ := hr (by rw [uk_length]; omega)
      obtain ⟨b2, o2, rfl, hbo2, hc2⟩ := hr2 (by rw [uk_length]; omega)
      have hce := hc j _ (uk_get .u64 l j hjl)
      have hce2 := hc2 j _ (uk_get .u64 l j hjl)
      obtain ⟨x, hx⟩ : ∃ x, l[j] = x := ⟨_, rfl⟩
      rw [hx] at hce hce2
      have q0 : ∀ wx, Ext wr wx → wx.cell? ⟨b, o + j, none⟩ = some (.int .u64 (x : Int)) := fun wx hx => ((hb.trans (Below.mono hx hb.size)).cell (p := ⟨b, o + j, none⟩) hbo).trans hce
      have q1 : ∀ wx, Ext wr wx → wx.cell? ⟨b2, o2 + j, none⟩ = some (.int .u64 (x : Int)) := fun wx hx => ((hb.trans (Below.mono hx hb.size)).cell (p := ⟨b2, o2 + j, none⟩) hbo2).trans hce2
      have hxx : ((x : Int) != (x : Int)) = false := by simp
      have hx0 : Ext wr wr := Ext.refl wr
      replace hx := hid hx
      clear hce hce2 hc hc2
      go_wp2
      refine wp_region_free (by kernel_rfl) (by kernel_rfl) ?_
      repeat
        (refine walk_q ?_
         apply Exists.intro
         refine ⟨fun vs wx hw hd => ?_, ?_⟩
         rotate_left
         simp only [Act.put, Nat.reduceAdd, List.setIfInBounds_toArray, List.set_cons_succ, List.set_cons_zero]
         rotate_right
         focus
           (try simp [updE, Region.binds] at hd)
           go_simp
           try go_bits
           try (rw [if_pos (by omega)]; try go_simp; try go_bits)
           try (rw [if_neg (by omega)]; try go_simp; try go_bits)
           first
             | rfl
             | (fail))
      refine walk_end ?_
      intro vs wx hw hv
      simp [AllE, updE] at hv
      simp only [hv]
      clear hv
      have hb9 := hb.trans (Below.mono hw hb.size)
      clear q0 q1
      go_wp2
      go_roundw
      case rel => exact ⟨j + 1, by go_num, by omega, hb9⟩
      case measure => simp [intOf]; omega
    · obtain rfl : j = n := by omega
      go_wp2
      go_ret
      exact ⟨rfl, hb⟩
end Go.Proofs.Ytgclakhcddadpaa
