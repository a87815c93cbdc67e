/-
  THE WALKS: crc.Sum, crc.Tail, crc.Seal, num.Own.
-/
import Derived.Test.YtcmbdbphddokmaaCrcB
namespace Go.Proofs.Ytcmbdbphddokmaa
open Go.RowKit

set_option maxHeartbeats 400000 in
theorem sum_any (A : Option Addr) (n : Nat) (l : List UInt8) (c : Nat) (w : World) (hn : l.length = n) (hr : Rd w A (cb l)) (hl : n ≤ 140737488355328) :
    Calls Try.prog 33 #[.slice A n c] w fun e w' => e = .returned (.int .u32 ((sum l).toNat : Int)) ∧ Below w.heap.size w w' := by
  have hn := hid hn
  go_enter Try.func33, Try.ntmps33
  go_wp2_with fail
  refine (more_any 0#32 A n l c w hn.out hr hl).mono ?_
  rintro e w1 ⟨rfl, hb1⟩
  go_wp2_with fail
  go_ret
  exact ⟨rfl, hb1⟩

set_option maxHeartbeats 400000 in
theorem tail_any (r : Reg) (w : World) :
    Calls Try.prog 32 #[.int .u32 (r.toNat : Int)] w fun e w' => e = .returned (.slice (some ⟨w.heap.size, 0, none⟩) 4 4) ∧ w' = w.alloc (.cells (cb (four r)).toArray 5) := by
  have h0 := byte_of r.toNat
  have h1 := byte_of (r.toNat / 256)
  have h2 := byte_of (r.toNat / 65536)
  have h3 := byte_of (r.toNat / 16777216)
  have e : Hid ((cb (four r)).toArray = #[.int .u8 ((r.toNat : Int) % 256), .int .u8 ((r.toNat : Int) / 256 % 256), .int .u8 ((r.toNat : Int) / 65536 % 256), .int .u8 ((r.toNat : Int) / 16777216)]) := by
    refine hid ?_
    have hr := r.isLt
    have h4 : (r.toNat : Int) / 16777216 % 256 = (r.toNat : Int) / 16777216 := by omega
    rw [← h4]
    simp only [four, cb, u8c, List.map_cons, List.map_nil, h0, h1, h2, h3, Int.natCast_ediv]
    rfl
  clear h0 h1 h2 h3
  go_enter Try.func32, Try.ntmps32
  go_wp2
  go_ret
  rw [e.out]
  exact ⟨rfl, rfl⟩

set_option maxHeartbeats 400000 in
theorem own_any (A : Option Addr) (n : Nat) (l : List UInt8) (c : Nat) (w : World) (hn : l.length = n) (hr : Rd w A (cb l)) (hA : A = none → l = []) (hl : n ≤ 140737488355328) :
    Calls Try.prog 34 #[.slice A n c] w (ResC 5 n (cb l) w) := by
  subst hn
  go_enter Try.func34, Try.ntmps34
  go_wp2_with fail
  refine (clone_any A l c w hr hA hl).mono ?_
  rintro e w1 ⟨A1, c1, rfl, hown1, hb1⟩
  have hcap := own_cap hown1
  go_wp2_with fail
  refine (clip_any _ _ _ _ hcap.1 hcap.2).mono ?_
  rintro e w2 ⟨rfl, rfl⟩
  go_wp2_with fail
  go_ret
  exact ⟨A1, c1, rfl, hown1, hb1⟩

/-- What was there, as the laws on rows ask it. -/
theorem below_grown {w w' : World} (h : Below w.heap.size w w') : w.grownBy w' none := ⟨h.os, h.tape, h.output, h.size, fun k hk _ => h.block k hk⟩

theorem own_ne {w : World} {base : Nat} {e : TypeId} {v : Value} {n : Nat} {xs : List Value} (_ : w.ownsRow base e 1 v n xs) : v.ownBlock = none ∨ v.ownBlock ≠ none := by
  rcases v.ownBlock with _ | b
  · exact .inl rfl
  · exact .inr (by simp)

set_option maxHeartbeats 1000000 in
theorem seal_any (A : Option Addr) (n : Nat) (l : List UInt8) (c : Nat) (w : World) (hn : l.length = n) (hr : Rd w A (cb l)) (hl : n ≤ 140737488355300) :
    Calls Try.prog 21 #[.slice A n c] w (Res 5 (n + 4) (cb (seal_ l)) w) := by
  obtain ⟨i0, hi, hz0, hz1, hz2⟩ := info_parts info_u8
  replace hn := hid hn
  go_enter Try.func21, Try.ntmps21
  go_wp2_with (first
    | (at_make; refine wpList_make_own _ rfl _ _ 22 rfl w.heap.size 5 i0 (.int .u8 0) 1 Try.underlying22 hi hz0 hz1 _ _ _ (n + 4) rfl rfl (by omega) (by rw [hz2]; omega) (by unfold maxLen; omega) (Nat.le_refl _) ?_; intro w1 hown1 hg1; have hbA := (Below.refl _ w).grown hg1 (Nat.le_refl _) (fun k h => by cases h))
    | (at_builtin; refine wpList_app _ rfl (.tmp 8) (.tmp 9) 22 rfl w.heap.size 5 i0 (.int .u8 0) 1 Try.underlying22 hi hz0 hz1 hz2 rfl _ _ _ _ rfl hown1 _ _ _ _ rfl (hr.below hbA) (by rw [cb_length]; exact hn.out) (cb_one l) (by unfold maxLen; omega) (by omega) hg1.size ?_; intro A2 c2 w2 hown2 hg2 hb2 _; rw [Nat.zero_add, List.nil_append] at hown2)
    | (go_at_call 33; refine (sum_any A n l c _ hn.out (hr.below (hbA.trans hb2)) (by omega)).mono ?_; rintro e w3 ⟨rfl, hb3⟩; have hown3 := hown2.kept (below_grown hb3) (own_ne hown2); have hsz3 := Nat.le_trans (Nat.le_trans hg1.size hb2.size) hb3.size)
    | (go_at_call 32; refine (tail_any _ _).mono ?_; rintro e w4 ⟨rfl, rfl⟩)
    | (at_builtin; refine wpList_app _ rfl (.tmp 10) (.tmp 13) 22 rfl w.heap.size 5 i0 (.int .u8 0) 1 Try.underlying22 hi hz0 hz1 hz2 rfl _ _ _ _ rfl (hown3.alloc _) _ _ _ _ rfl (Rd.block w3 (cb (four (sum l))) _) rfl (cb_one _) (by unfold maxLen; omega) (by omega) (by simp; omega) ?_; intro A5 c5 w5 hown5 hg5 hb5 _)
    | fail)
  go_ret
  have hl2 : cb l ++ cb (four (sum l)) = cb (seal_ l) := by rw [← cb_append]; rfl
  exact ⟨A5, c5, rfl, by rw [← hl2]; exact hown5, (((hbA.trans hb2).trans (hb3.mono (Nat.le_trans hg1.size hb2.size))).alloc hsz3 _).trans hb5⟩
end Go.Proofs.Ytcmbdbphddokmaa
