/-
  THE WALKS of the document's own Frame.
-/
import Derived.Test.YtcmbdbphddokmaaRefF
namespace Go.Proofs.Ytcmbdbphddokmaa
open Go.RowKit

theorem slS_conv {wx : World} {n : Nat} {l : List UInt8} {v : Value} (hn : l.length = n) (h : SlS n l v wx) : (convert 22 9 v).run Try.prog wx = .ok (.string ⟨l.toArray⟩) wx := by
  obtain ⟨A, c, rfl, hd⟩ := h
  exact run_strn wx 22 9 5 Try.underlying22 Try.underlying5 Try.underlying9 A n l c hn hd

set_option maxHeartbeats 2000000 in
set_option maxRecDepth 100000 in
theorem refFrame_any (k m : Nat) (body : List UInt8) (w : World) (hm : body.length = m) (h2 : k ≤ 250) (h3 : m ≤ 70000) :
    Calls Try.prog 14 #[.int .i64 k, .string ⟨body.toArray⟩] w (ResS (frameB k body) w) := by
  replace hm := hid hm
  have e8 : Hid (Value.int .u8 (k : Int) = u8c (UInt8.ofNat k)) := by refine hid ?_; unfold u8c; simp; omega
  have hadd1 : ∀ wx, (Op.stringOp .add ⟨[UInt8.ofNat k].toArray⟩ ⟨(fix m 3).toArray⟩).run Try.prog wx = .ok (.string ⟨(headB k m).toArray⟩) wx := run_add_lists (P := Try.prog) [UInt8.ofNat k] (fix m 3) (by simp [fix_length])
  have hadd2 : ∀ wx, (Op.stringOp .add ⟨(seal_ (headB k m)).toArray⟩ ⟨(seal_ body).toArray⟩).run Try.prog wx = .ok (.string ⟨(frameB k body).toArray⟩) wx := by
    have h := run_add_lists (P := Try.prog) (seal_ (headB k m)) (seal_ body) (by rw [seal_length, seal_length, headB_length, hm.out]; omega)
    intro wx
    rw [h wx]
    unfold frameB
    rw [hm.out]
  have hx0 : Ext w w := Ext.refl w
  have hwr : IntKind.u64.wrap (body.length : Int) = (m : Int) := by rw [IntKind.wrap_u64, hm.out]; omega
  have hf3 : fixSize 3 = 3 := fixSize_le 3 (by omega)
  go_enter Try.func14, Try.ntmps14
  go_wp2_with fail
  refine wp_region_free (by kernel_rfl) (by kernel_rfl) ?_
  (refine walk_q ?_
   apply Exists.intro
   refine ⟨fun vs wx hw hd => ?_, ?_⟩
   rotate_left
   simp only [Act.put, Nat.reduceAdd, List.setIfInBounds_toArray, List.set_cons_succ, List.set_cons_zero]
   rotate_right
   focus
     (try simp [updE, Region.binds] at hd)
     go_simp
     try go_bits
     try (rw [if_pos (by omega)]; try go_simp; try go_bits)
     try (rw [if_neg (by omega)]; try go_simp; try go_bits)
     first
       | rfl
       | (fail))
  (refine walk_q ?_
   apply Exists.intro
   refine ⟨fun vs wx hw hd => ?_, ?_⟩
   rotate_left
   simp only [Act.put, Nat.reduceAdd, List.setIfInBounds_toArray, List.set_cons_succ, List.set_cons_zero]
   rotate_right
   focus
     (try simp [updE, Region.binds] at hd)
     go_simp
     try go_bits
     try (rw [if_pos (by omega)]; try go_simp; try go_bits)
     try (rw [if_neg (by omega)]; try go_simp; try go_bits)
     first
       | rfl
       | (fail))
  refine walk_r (SlS 1 [UInt8.ofNat k]) (slS_stable _ _) (fun vs wx hw hd => ?_) ?_
  · (try simp [updE, Region.binds] at hd)
    go_simp
    refine ⟨(Below.refl _ _).alloc (Nat.le_refl _) _, _, _, rfl, ?_⟩
    have h := Rd.one wx (.int .u8 (k : Int)) 5
    rw [e8.out] at h
    rw [e8.out]
    exact h
  simp only [Act.put, Nat.reduceAdd, List.setIfInBounds_toArray, List.set_cons_succ, List.set_cons_zero]
  refine walk_q ?_
  apply Exists.intro
  refine ⟨fun vs wx hw hd => ?_, ?_⟩
  rotate_left
  simp only [Act.put, Nat.reduceAdd, List.setIfInBounds_toArray, List.set_cons_succ, List.set_cons_zero]
  rotate_right
  · simp [updE, Region.binds] at hd
    have hcs := slS_conv (n := 1) (l := [UInt8.ofNat k]) rfl hd
    go_simp
    rfl
  (refine walk_q ?_
   apply Exists.intro
   refine ⟨fun vs wx hw hd => ?_, ?_⟩
   rotate_left
   simp only [Act.put, Nat.reduceAdd, List.setIfInBounds_toArray, List.set_cons_succ, List.set_cons_zero]
   rotate_right
   focus
     (try simp [updE, Region.binds] at hd)
     go_simp
     try go_bits
     try (rw [if_pos (by omega)]; try go_simp; try go_bits)
     try (rw [if_neg (by omega)]; try go_simp; try go_bits)
     first
       | rfl
       | (fail))
  (refine walk_q ?_
   apply Exists.intro
   refine ⟨fun vs wx hw hd => ?_, ?_⟩
   rotate_left
   simp only [Act.put, Nat.reduceAdd, List.setIfInBounds_toArray, List.set_cons_succ, List.set_cons_zero]
   rotate_right
   focus
     (try simp [updE, Region.binds] at hd)
     go_simp
     try go_bits
     try (rw [if_pos (by omega)]; try go_simp; try go_bits)
     try (rw [if_neg (by omega)]; try go_simp; try go_bits)
     first
       | rfl
       | (fail))
  (refine walk_q ?_
   apply Exists.intro
   refine ⟨fun vs wx hw hd => ?_, ?_⟩
   rotate_left
   simp only [Act.put, Nat.reduceAdd, List.setIfInBounds_toArray, List.set_cons_succ, List.set_cons_zero]
   rotate_right
   focus
     (try simp [updE, Region.binds] at hd)
     go_simp
     try go_bits
     try (rw [if_pos (by omega)]; try go_simp; try go_bits)
     try (rw [if_neg (by omega)]; try go_simp; try go_bits)
     first
       | rfl
       | (fail))
  (refine walk_q ?_
   apply Exists.intro
   refine ⟨fun vs wx hw hd => ?_, ?_⟩
   rotate_left
   simp only [Act.put, Nat.reduceAdd, List.setIfInBounds_toArray, List.set_cons_succ, List.set_cons_zero]
   rotate_right
   focus
     (try simp [updE, Region.binds] at hd)
     go_simp
     try go_bits
     try (rw [if_pos (by omega)]; try go_simp; try go_bits)
     try (rw [if_neg (by omega)]; try go_simp; try go_bits)
     first
       | rfl
       | (go_at_call 25; (with_reducible refine (refFix_any m 3 3 _ hf3).mono ?_); rintro e w3 ⟨rfl, hb3⟩; exact ⟨rfl, hb3⟩))
  (refine walk_q ?_
   apply Exists.intro
   refine ⟨fun vs wx hw hd => ?_, ?_⟩
   rotate_left
   simp only [Act.put, Nat.reduceAdd, List.setIfInBounds_toArray, List.set_cons_succ, List.set_cons_zero]
   rotate_right
   focus
     (try simp [updE, Region.binds] at hd)
     go_simp
     try go_bits
     try (rw [if_pos (by omega)]; try go_simp; try go_bits)
     try (rw [if_neg (by omega)]; try go_simp; try go_bits)
     first
       | rfl
       | (fail))
  (refine walk_q ?_
   apply Exists.intro
   refine ⟨fun vs wx hw hd => ?_, ?_⟩
   rotate_left
   simp only [Act.put, Nat.reduceAdd, List.setIfInBounds_toArray, List.set_cons_succ, List.set_cons_zero]
   rotate_right
   focus
     (try simp [updE, Region.binds] at hd)
     go_simp
     try go_bits
     try (rw [if_pos (by omega)]; try go_simp; try go_bits)
     try (rw [if_neg (by omega)]; try go_simp; try go_bits)
     first
       | rfl
       | (go_at_call 24; refine (refSeal_any (headB k m) _ (by rw [headB_length]; omega)).mono ?_; rintro e w3 ⟨rfl, hb3⟩; exact ⟨rfl, hb3⟩))
  (refine walk_q ?_
   apply Exists.intro
   refine ⟨fun vs wx hw hd => ?_, ?_⟩
   rotate_left
   simp only [Act.put, Nat.reduceAdd, List.setIfInBounds_toArray, List.set_cons_succ, List.set_cons_zero]
   rotate_right
   focus
     (try simp [updE, Region.binds] at hd)
     go_simp
     try go_bits
     try (rw [if_pos (by omega)]; try go_simp; try go_bits)
     try (rw [if_neg (by omega)]; try go_simp; try go_bits)
     first
       | rfl
       | (fail))
  (refine walk_q ?_
   apply Exists.intro
   refine ⟨fun vs wx hw hd => ?_, ?_⟩
   rotate_left
   simp only [Act.put, Nat.reduceAdd, List.setIfInBounds_toArray, List.set_cons_succ, List.set_cons_zero]
   rotate_right
   focus
     (try simp [updE, Region.binds] at hd)
     go_simp
     try go_bits
     try (rw [if_pos (by omega)]; try go_simp; try go_bits)
     try (rw [if_neg (by omega)]; try go_simp; try go_bits)
     first
       | rfl
       | (go_at_call 24; refine (refSeal_any body _ (by rw [hm.out]; omega)).mono ?_; rintro e w3 ⟨rfl, hb3⟩; exact ⟨rfl, hb3⟩))
  (refine walk_q ?_
   apply Exists.intro
   refine ⟨fun vs wx hw hd => ?_, ?_⟩
   rotate_left
   simp only [Act.put, Nat.reduceAdd, List.setIfInBounds_toArray, List.set_cons_succ, List.set_cons_zero]
   rotate_right
   focus
     (try simp [updE, Region.binds] at hd)
     go_simp
     try go_bits
     try (rw [if_pos (by omega)]; try go_simp; try go_bits)
     try (rw [if_neg (by omega)]; try go_simp; try go_bits)
     first
       | rfl
       | (fail))
  (refine walk_q ?_
   apply Exists.intro
   refine ⟨fun vs wx hw hd => ?_, ?_⟩
   rotate_left
   simp only [Act.put, Nat.reduceAdd, List.setIfInBounds_toArray, List.set_cons_succ, List.set_cons_zero]
   rotate_right
   focus
     (try simp [updE, Region.binds] at hd)
     go_simp
     try go_bits
     try (rw [if_pos (by omega)]; try go_simp; try go_bits)
     try (rw [if_neg (by omega)]; try go_simp; try go_bits)
     first
       | rfl
       | (fail))
  refine walk_end ?_
  intro vs wx hw hv
  simp [AllE, updE] at hv
  simp only [hv]
  clear hv
  go_wp2_with fail
  go_ret
  exact ⟨rfl, hw⟩
end Go.Proofs.Ytcmbdbphddokmaa
