/-
  THE WALKS of the document's own Fix, Fixed, FrameOk, Frame.
-/
import Derived.Test.YtcmbdbphddokmaaFrmC
import Derived.Test.YtcmbdbphddokmaaFree
namespace Go.Proofs.Ytcmbdbphddokmaa
open Go.RowKit

set_option maxHeartbeats 1000000 in
set_option maxRecDepth 100000 in
theorem refFix_any (n : Nat) (size : Int) (k : Nat) (w : World) (hk : fixSize size = k) :
    Calls Try.prog 25 #[.int .u64 n, .int .i64 size] w (ResS (fix n k) w) := by
  obtain ⟨i0, hi, hz0, hz1, hz2⟩ := info_parts info_u8
  obtain ⟨m, hm, hmk, hk8⟩ : ∃ m : Int, (if size < 0 then (0 : Int) else size) = m ∧ (if (8 : Int) < m then (8 : Int) else m) = (k : Int) ∧ k ≤ 8 := by
    unfold fixSize at hk
    refine ⟨_, rfl, ?_, by omega⟩
    split <;> split <;> omega
  clear hk
  go_enter Try.func25, Try.ntmps25
  go_wp2_with (at_make; refine wpList_mk _ rfl (.tmp 10) (.tmp 10) 22 rfl w.heap.size 5 i0 (.int .u8 0) Try.underlying22 hi hz0 hz1 rfl _ _ _ _ k rfl rfl rfl rfl (by rw [hz2]; omega) (by unfold maxLen; omega) (Nat.le_refl _) ?_; intro w1 hown hb1 hb2)
  go_loopw [6] (fun i wr => ∃ (j : Nat), i = .int .i64 j ∧ j ≤ k ∧ wr.ownsRow w.heap.size 5 1 (.slice (some ⟨w.heap.size, 0, none⟩) k k) k (cb (List.replicate (k - j) 0 ++ fix n j)) ∧ Below w.heap.size w wr)
    (fun i _ => k - (intOf i).toNat)
  case atStart => exact ⟨0, rfl, by omega, by rw [show fix n 0 = [] from rfl, List.append_nil, Nat.sub_zero, cb_replicate]; exact hown, hb1⟩
  case round =>
    obtain ⟨j, rfl, hj, hown2, hb⟩ := hrel
    clear hown
    by_cases hlt : j < k
    · obtain ⟨u, hu, ev⟩ : ∃ u : UInt8, Hid (UInt8.ofNat (n / 256 ^ j) = u) ∧ (n : Int) / 2 ^ (8 * j) % 256 = (u.toNat : Int) := ⟨_, hid rfl, fix_byte n j⟩
      have hce : wr.cell? ⟨w.heap.size, k - 1 - j, none⟩ = some (.int .u8 0) := by
        rw [hown2.cellAt (k - 1 - j) (by omega), cb_append, cb_replicate, List.getElem?_append_left (by simp; omega), List.getElem?_replicate, if_pos (by omega)]
      have hfr := hown2.frozenAt (k - 1 - j)
      have hst := hown2.stored (k - 1 - j) (u8c u)
      rw [cb_set, List.set_append_left _ _ (by simp; omega)] at hst
      obtain ⟨hst1, _⟩ := hst
      have hst2 := hb.setCell (p := ⟨w.heap.size, k - 1 - j, none⟩) (Nat.le_refl _) (u8c u)
      go_wp2
      go_roundw
      case rel =>
        refine ⟨j + 1, by go_num, by omega, ?_, hst2⟩
        have e : (List.replicate (k - j) (0 : UInt8)).set (k - 1 - j) u ++ fix n j = List.replicate (k - (j + 1)) 0 ++ fix n (j + 1) := by
          rw [fix, hu.out, show k - j = (k - (j + 1)) + 1 from by omega, List.replicate_succ', List.set_append_right _ _ (by simp; omega)]
          rw [show k - 1 - j - (List.replicate (k - (j + 1)) (0 : UInt8)).length = 0 from by simp; omega]
          simp
        rw [← e]
        exact hst1
      case measure => simp [intOf]; omega
    · obtain rfl : j = k := by omega
      go_wp2_with fail
      rw [run_strn _ 22 9 5 Try.underlying22 Try.underlying5 Try.underlying9 _ j (fix n j) j (fix_length n j) (by have := Rd.of_own hown2; simpa using this)]
      go_wp2
      go_ret
      exact ⟨rfl, hb⟩


set_option maxHeartbeats 1000000 in
set_option maxRecDepth 100000 in
theorem refFixed_any (s : ByteArray) (k : Nat) (w : World) (hs : s.size = k) (hk : k ≤ 8) :
    Calls Try.prog 27 #[.string s, .int .i64 k] w fun e w' => e = .returned (.tuple #[.int .u64 (fixed s.data.toList : Int), .int .i64 0]) ∧ w = w' := by
  obtain ⟨l, hsl⟩ : ∃ l, s.data.toList = l := ⟨_, rfl⟩
  have hll : l.length = s.size := by rw [← hsl]; simp
  rw [hsl]
  have hget : ∀ j (h1 : j < s.size) (h2 : j < l.length), l[j] = s[j] := by intro k h1 h2; subst hsl; simp; rfl
  subst hs
  replace hsl := hid hsl
  replace hll := hid hll
  replace hget := hid hget
  go_enter Try.func27, Try.ntmps27
  go_wp2
  go_loop [6, 7] (fun x i => ∃ (j acc : Nat), j ≤ s.size ∧ i = .int .i64 j ∧ x = .int .u64 acc ∧ Hid (acc = fixed (l.take j))) (fun _ i => s.size - (intOf i).toNat)
  case atStart => exact ⟨0, 0, by omega, rfl, rfl, hid rfl⟩
  case round =>
    obtain ⟨j, acc, hj, rfl, rfl, hacc⟩ := hrel
    by_cases hlt : j < s.size
    · have hjl : j < l.length := by rw [hll.out]; exact hlt
      obtain ⟨u, hu⟩ : ∃ u, l[j] = u := ⟨_, rfl⟩
      have hsu : s[j] = u := by rw [← hu]; exact (hget.out j hlt hjl).symm
      have hsh := shl8_or acc u (by
        rw [hacc.out]
        have := fixed_lt (l.take j) 7 (by rw [List.length_take]; omega)
        simpa using this)
      have hult := u.toNat_lt
      have hnx : Hid (acc * 256 + u.toNat = fixed (l.take (j + 1))) := hid (by rw [List.take_succ_eq_append_getElem hjl, fixed, fixedG_snoc, hu, hacc.out, fixed])
      replace hu := hid hu
      replace hjl := hid hjl
      go_wp2
      go_round
      case rel => exact ⟨j + 1, acc * 256 + u.toNat, by omega, by go_num, rfl, hnx⟩
      case measure => simp [intOf]; omega
    · obtain rfl : j = s.size := by omega
      have ht : fixed (l.take s.size) = fixed l := by rw [List.take_of_length_le (by rw [hll.out]; exact Nat.le_refl _)]
      rw [ht] at hacc
      go_wp2
      go_ret2
      exact ⟨by rw [hacc.out]; rfl, rfl⟩

theorem refFixed_l (l : List UInt8) (w : World) (hl : l.length = 3) :
    Calls Try.prog 27 #[.string ⟨l.toArray⟩, .int .i64 3] w fun e w' => e = .returned (.tuple #[.int .u64 (fixed l : Int), .int .i64 0]) ∧ w = w' :=
  refFixed_any ⟨l.toArray⟩ 3 w (by show l.toArray.size = 3; rw [List.size_toArray]; exact hl) (by omega)

/-- What the document says of a kind and a length. -/
def okE (kind : Int) (n : Nat) : Nat := if kind < 1 ∨ 250 < kind then 1 else if 70000 < n then 2 else 0

theorem refFrameOk_any (kind : Int) (n : Nat) (w : World) (_hn : n ≤ 9223372036854775807) :
    Calls Try.prog 12 #[.int .i64 kind, .int .i64 n] w fun e w' => e = .returned (.int .i64 (okE kind n : Int)) ∧ w = w' := by
  by_cases h1 : kind < 1
  · have h := hid (show okE kind n = 1 by unfold okE; rw [if_pos (.inl h1)])
    go_enter Try.func12, Try.ntmps12
    go_wp2
    go_ret
    exact ⟨by rw [h.out]; rfl, rfl⟩
  · by_cases h2 : 250 < kind
    · have h := hid (show okE kind n = 1 by unfold okE; rw [if_pos (.inr h2)])
      go_enter Try.func12, Try.ntmps12
      go_wp2
      go_ret
      exact ⟨by rw [h.out]; rfl, rfl⟩
    · by_cases h3 : 70000 < n
      · have h := hid (show okE kind n = 2 by unfold okE; rw [if_neg (by omega), if_pos h3])
        go_enter Try.func12, Try.ntmps12
        go_wp2
        go_ret
        exact ⟨by rw [h.out]; rfl, rfl⟩
      · have h := hid (show okE kind n = 0 by unfold okE; rw [if_neg (by omega), if_neg h3])
        go_enter Try.func12, Try.ntmps12
        go_wp2
        go_ret
        exact ⟨by rw [h.out]; rfl, rfl⟩
end Go.Proofs.Ytcmbdbphddokmaa
