/-
  THE WALK of CrcParts.
-/
import Derived.Test.YtbneihahfagoiaaCrcK
import Derived.Test.YtbneihahfagoiaaFree
import Derived.Deep.QuietTactic
import Derived.BigQuiet
namespace Go.Proofs.Ytbneihahfagoiaa
open Go.RowKit

theorem mod_bits (z : Int) (L : Nat) (hL : L ≤ 5000) : ∃ i : Nat, i ≤ L ∧ ∃ r : Nat, r ≤ 65535 ∧ bits BinOp.and IntKind.i64 z 65535 = (r : Int) ∧ (r : Int).tmod ((L : Int) + 1) = (i : Int) ∧ (r : Int) % ((L : Int) + 1) = (i : Int) := by
  obtain ⟨r, hr, hb⟩ := i64_mask z 65535 (by omega)
  have h1 := Nat.mod_lt r (show 0 < L + 1 by omega)
  have e : (r : Int) % ((L : Int) + 1) = ((r % (L + 1) : Nat) : Int) := by rw [Int.natCast_emod, Int.natCast_add]; rfl
  exact ⟨r % (L + 1), by omega, r, hr, hb, by rw [Int.tmod_eq_emod_of_nonneg (by omega), e], e⟩

theorem rd_cut {w : World} {A : Option Addr} {l : List UInt8} (hr : Rd w A (cb l)) (p q c : Nat) (hq : q ≤ c) : Rd w (if c = p then A else Option.map (fun x => x.add p) A) (cb ((l.take q).drop p)) := by
  by_cases h : c = p
  · have e : (l.take q).drop p = [] := List.drop_eq_nil_of_le (by rw [List.length_take]; omega)
    rw [e]
    exact Rd.nil _ _
  · rw [if_neg h]
    have h1 := hr.take q
    rw [cb_take] at h1
    have h2 := h1.drop p
    rwa [cb_drop] at h2

/-- A row of rows, wherever it lies. -/
def PartsS (n : Nat) (ls : List (List UInt8)) : Spec := fun v w => ∃ A c, v = .slice A n c ∧ PartsAt w A n ls
theorem partsS_stable (n : Nat) (ls : List (List UInt8)) : Stable (PartsS n ls) := fun v w w' hx ⟨A, c, h1, h2, vs, h3, h4, h5⟩ =>
  ⟨A, c, h1, h2, vs, h3.below hx, h4, fun j l hj => by
    obtain ⟨Aj, cj, k1, k2, k3⟩ := h5 j l hj
    exact ⟨Aj, cj, k1, k2.below hx, k3⟩⟩

set_option maxHeartbeats 2000000 in
set_option maxRecDepth 100000 in
theorem parts_walk (A : Option Addr) (L : Nat) (c : Nat) (l : List UInt8) (z1 z2 : Int) (w : World) (hL : l.length = L) (hr : Rd w A (cb l)) (hA : A = none → l = []) (hLc : L ≤ c) (hcm : c ≤ maxLen) :
    Calls Try.prog 8 #[.slice A L c, .int .i64 z1, .int .i64 z2] w (Yes w) := by
  replace hL := hid hL
  unfold maxLen at hcm
  by_cases hbig : 5000 < L
  · go_enter Try.func8, Try.ntmps8
    go_wp2_with fail
    refine (awake_any _).mono ?_
    rintro e w3 ⟨rfl, hb3⟩
    go_wp2_with fail
    go_ret
    exact ⟨rfl, hb3⟩
  · obtain ⟨i, hi, r1, hr1, hb1, hm1, hm1'⟩ := mod_bits z1 L (by omega)
    obtain ⟨j, hj, r2, hr2, hb2, hm2, hm2'⟩ := mod_bits z2 L (by omega)
    go_enter Try.func8, Try.ntmps8
    go_wp2_with fail
    go_quiet (fail)
    have hbq : Below w.heap.size w (w.drewN nq) := ⟨rfl, rfl, rfl, Nat.le_refl _, fun _ _ => rfl⟩
    generalize w.drewN nq = wq at *
    by_cases hsw : j < i
    · go_wp2_with fail
      refine (sum_any A L l c _ hL.out (hr.below hbq) (by omega)).mono ?_
      rintro e w1 ⟨rfl, hb1⟩
      have hw1 := hbq.trans (hb1.mono hbq.size)
      have hr1 := hr.below hw1
      have hjc : j ≤ c := by omega
      have hic : i ≤ c := by omega
      have hji : j ≤ i := by omega
      have hcut : l.take j ++ ((l.take i).drop j ++ l.drop i) = l := by
        rw [← List.append_assoc]
        have e1 : l.take j ++ (l.take i).drop j = l.take i := by
          have h := List.take_append_drop j (l.take i)
          rwa [List.take_take, Nat.min_eq_left hji] at h
        rw [e1, List.take_append_drop]
      have hs3 : more (more (sum (l.take j)) ((l.take i).drop j)) (l.drop i) = sum l := by
        rw [← sum_append, ← sum_append, List.append_assoc, hcut]
      have hsum3 : [l.take j, (l.take i).drop j, l.drop i].foldl more 0#32 = sum l := hs3
      obtain ⟨s, hs⟩ : ∃ s, sum l = s := ⟨_, rfl⟩
      obtain ⟨t0, ht0⟩ : ∃ t, sum (l.take j) = t := ⟨_, rfl⟩
      rw [ht0] at hs3
      obtain ⟨t1, ht1⟩ : ∃ t, more t0 ((l.take i).drop j) = t := ⟨_, rfl⟩
      rw [ht1] at hs3
      have hS : ∀ wx, Ext w1 wx → Calls Try.prog 10 #[.slice A j c] wx fun e w' => e = .returned (.int .u32 (t0.toNat : Int)) ∧ Below wx.heap.size wx w' :=
        fun wx hw => by rw [← ht0]; exact sum_any A j (l.take j) c wx (by rw [List.length_take, hL.out]; omega) (by rw [← cb_take]; exact (hr1.below hw).take j) (by omega)
      have hM1 : ∀ wx, Ext w1 wx → Calls Try.prog 16 #[.int .u32 (t0.toNat : Int), .slice (if c = j then A else Option.map (fun x => x.add j) A) (i - j) (c - j)] wx fun e w' => e = .returned (.int .u32 (t1.toNat : Int)) ∧ Below wx.heap.size wx w' :=
        fun wx hw => by rw [← ht1]; exact more_any t0 _ (i - j) ((l.take i).drop j) (c - j) wx (by rw [List.length_drop, List.length_take, hL.out, Nat.min_eq_left (by omega)]) (rd_cut (hr1.below hw) j i c hic) (by omega)
      have hM2 : ∀ wx, Ext w1 wx → Calls Try.prog 16 #[.int .u32 (t1.toNat : Int), .slice (if c = i then A else Option.map (fun x => x.add i) A) (L - i) (c - i)] wx fun e w' => e = .returned (.int .u32 (s.toNat : Int)) ∧ Below wx.heap.size wx w' :=
        fun wx hw => by
          rw [← hs, ← hs3]
          have h := rd_cut (hr1.below hw) i L c hLc
          rw [List.take_of_length_le (by rw [hL.out]; omega)] at h
          exact more_any t1 _ (L - i) (l.drop i) (c - i) wx (by rw [List.length_drop, hL.out]) h (by omega)
      have hM3 : ∀ wx, Ext w1 wx → Calls Try.prog 16 #[.int .u32 0, .slice A L c] wx fun e w' => e = .returned (.int .u32 (s.toNat : Int)) ∧ Below wx.heap.size wx w' :=
        fun wx hw => by rw [← hs]; exact more_any 0#32 A L l c wx hL.out (hr1.below hw) (by omega)
      rw [hs] at hsum3 ⊢
      replace hsum3 := hid hsum3
      clear hs3 ht1 ht0 hs hcut hm1 hm2 hm1' hm2' hb2 hsw
      go_wp2_with fail
      refine wp_region_free (by kernel_rfl) (by kernel_rfl) ?_
      (refine walk_q ?_
       apply Exists.intro
       refine ⟨fun vs wx hw hd => ?_, ?_⟩
       rotate_left
       simp only [Act.put, Nat.reduceAdd, List.setIfInBounds_toArray, List.set_cons_succ, List.set_cons_zero]
       rotate_right
       focus
         (try simp [updE, Region.binds] at hd)
         go_simp
         try go_bits
         try (rw [if_pos (by omega)]; try go_simp; try go_bits)
         try (rw [if_neg (by omega)]; try go_simp; try go_bits)
         first
           | rfl
           | (fail))
      (refine walk_q ?_
       apply Exists.intro
       refine ⟨fun vs wx hw hd => ?_, ?_⟩
       rotate_left
       simp only [Act.put, Nat.reduceAdd, List.setIfInBounds_toArray, List.set_cons_succ, List.set_cons_zero]
       rotate_right
       focus
         (try simp [updE, Region.binds] at hd)
         go_simp
         try go_bits
         try (rw [if_pos (by omega)]; try go_simp; try go_bits)
         try (rw [if_neg (by omega)]; try go_simp; try go_bits)
         first
           | rfl
           | (fail))
      refine walk_r (SlS j (l.take j)) (slS_stable _ _) (fun vs wx hw hd => ?_) ?_
      · (try simp [updE, Region.binds] at hd)
        go_simp
        exact ⟨A, c, rfl, by rw [← cb_take]; exact (hr1.below hw).take j⟩
      simp only [Act.put, Nat.reduceAdd, List.setIfInBounds_toArray, List.set_cons_succ, List.set_cons_zero]
      (refine walk_q ?_
       apply Exists.intro
       refine ⟨fun vs wx hw hd => ?_, ?_⟩
       rotate_left
       simp only [Act.put, Nat.reduceAdd, List.setIfInBounds_toArray, List.set_cons_succ, List.set_cons_zero]
       rotate_right
       focus
         (try simp [updE, Region.binds] at hd)
         go_simp
         try go_bits
         try (rw [if_pos (by omega)]; try go_simp; try go_bits)
         try (rw [if_neg (by omega)]; try go_simp; try go_bits)
         first
           | rfl
           | (fail))
      (refine walk_q ?_
       apply Exists.intro
       refine ⟨fun vs wx hw hd => ?_, ?_⟩
       rotate_left
       simp only [Act.put, Nat.reduceAdd, List.setIfInBounds_toArray, List.set_cons_succ, List.set_cons_zero]
       rotate_right
       focus
         (try simp [updE, Region.binds] at hd)
         go_simp
         try go_bits
         try (rw [if_pos (by omega)]; try go_simp; try go_bits)
         try (rw [if_neg (by omega)]; try go_simp; try go_bits)
         first
           | rfl
           | (fail))
      (refine walk_q ?_
       apply Exists.intro
       refine ⟨fun vs wx hw hd => ?_, ?_⟩
       rotate_left
       simp only [Act.put, Nat.reduceAdd, List.setIfInBounds_toArray, List.set_cons_succ, List.set_cons_zero]
       rotate_right
       focus
         (try simp [updE, Region.binds] at hd)
         go_simp
         try go_bits
         try (rw [if_pos (by omega)]; try go_simp; try go_bits)
         try (rw [if_neg (by omega)]; try go_simp; try go_bits)
         first
           | rfl
           | (fail))
      refine walk_r (SlS (i - j) ((l.take i).drop j)) (slS_stable _ _) (fun vs wx hw hd => ?_) ?_
      · (try simp [updE, Region.binds] at hd)
        go_simp
        exact ⟨_, _, rfl, rd_cut (hr1.below hw) j i c (by omega)⟩
      simp only [Act.put, Nat.reduceAdd, List.setIfInBounds_toArray, List.set_cons_succ, List.set_cons_zero]
      (refine walk_q ?_
       apply Exists.intro
       refine ⟨fun vs wx hw hd => ?_, ?_⟩
       rotate_left
       simp only [Act.put, Nat.reduceAdd, List.setIfInBounds_toArray, List.set_cons_succ, List.set_cons_zero]
       rotate_right
       focus
         (try simp [updE, Region.binds] at hd)
         go_simp
         try go_bits
         try (rw [if_pos (by omega)]; try go_simp; try go_bits)
         try (rw [if_neg (by omega)]; try go_simp; try go_bits)
         first
           | rfl
           | (fail))
      (refine walk_q ?_
       apply Exists.intro
       refine ⟨fun vs wx hw hd => ?_, ?_⟩
       rotate_left
       simp only [Act.put, Nat.reduceAdd, List.setIfInBounds_toArray, List.set_cons_succ, List.set_cons_zero]
       rotate_right
       focus
         (try simp [updE, Region.binds] at hd)
         go_simp
         try go_bits
         try (rw [if_pos (by omega)]; try go_simp; try go_bits)
         try (rw [if_neg (by omega)]; try go_simp; try go_bits)
         first
           | rfl
           | (fail))
      refine walk_r (SlS (L - i) (l.drop i)) (slS_stable _ _) (fun vs wx hw hd => ?_) ?_
      · (try simp [updE, Region.binds] at hd)
        go_simp
        have h := rd_cut (hr1.below hw) i L c hLc
        rw [List.take_of_length_le (by rw [hL.out]; omega)] at h
        exact ⟨_, _, rfl, h⟩
      simp only [Act.put, Nat.reduceAdd, List.setIfInBounds_toArray, List.set_cons_succ, List.set_cons_zero]
      refine walk_r (PartsS 3 [l.take j, (l.take i).drop j, l.drop i]) (partsS_stable _ _) (fun vs wx hw hd => ?_) ?_
      · (try simp [updE, Region.binds] at hd)
        obtain ⟨⟨A2, c2, hv2, hd2⟩, ⟨A6, c6, hv6, hd6⟩, ⟨A9, c9, hv9, hd9⟩⟩ := hd
        go_simp
        refine ⟨(Below.refl _ _).alloc (Nat.le_refl _) _, _, _, rfl, rfl, _, Rd.block wx [_, _, _] _, rfl, fun k t hk => ?_⟩
        have hk3 : k < 3 := by
          rcases Nat.lt_or_ge k 3 with h | h
          · exact h
          · rw [List.getElem?_eq_none (by simpa using h)] at hk; cases hk
        rcases (show k = 0 ∨ k = 1 ∨ k = 2 from by omega) with rfl | rfl | rfl
        · simp at hk
          subst hk
          refine ⟨A2, c2, ?_, hd2.alloc _, ?_⟩
          · rw [List.length_take, hL.out, Nat.min_eq_left (by omega)]; rfl
          · rw [List.length_take, hL.out]; omega
        · simp at hk
          subst hk
          refine ⟨A6, c6, ?_, hd6.alloc _, ?_⟩
          · rw [List.length_drop, List.length_take, hL.out, Nat.min_eq_left (by omega)]; rfl
          · rw [List.length_drop, List.length_take, hL.out]; omega
        · simp at hk
          subst hk
          refine ⟨A9, c9, ?_, hd9.alloc _, ?_⟩
          · rw [List.length_drop, hL.out]; rfl
          · rw [List.length_drop, hL.out]; omega
      simp only [Act.put, Nat.reduceAdd, List.setIfInBounds_toArray, List.set_cons_succ, List.set_cons_zero]
      refine walk_q ?_
      apply Exists.intro
      refine ⟨fun vs wx hw hd => ?_, ?_⟩
      rotate_left
      simp only [Act.put, Nat.reduceAdd, List.setIfInBounds_toArray, List.set_cons_succ, List.set_cons_zero]
      rotate_right
      · simp [updE, Region.binds] at hd
        obtain ⟨A10, c10, hv10, hp10⟩ := hd
        go_simp
        go_at_call 15
        refine (parts_any A10 3 c10 _ wx hp10 (by omega)).mono ?_
        rintro e w3 ⟨rfl, hb3⟩
        rw [hsum3.out]
        exact ⟨rfl, hb3⟩
      repeat
        (refine walk_q ?_
         apply Exists.intro
         refine ⟨fun vs wx hw hd => ?_, ?_⟩
         rotate_left
         simp only [Act.put, Nat.reduceAdd, List.setIfInBounds_toArray, List.set_cons_succ, List.set_cons_zero]
         rotate_right
         focus
           (try simp [updE, Region.binds] at hd)
           go_simp
           try go_bits
           try (rw [if_pos (by omega)]; try go_simp; try go_bits)
           try (rw [if_neg (by omega)]; try go_simp; try go_bits)
           first
             | rfl
             | (go_at_call 10; refine (hS _ hw).mono ?_; rintro e w3 ⟨rfl, hb3⟩; exact ⟨rfl, hb3⟩)
             | (go_at_call 16; (first | (with_reducible refine (hM1 _ hw).mono ?_) | (with_reducible refine (hM2 _ hw).mono ?_) | (with_reducible refine (hM3 _ hw).mono ?_)); rintro e w3 ⟨rfl, hb3⟩; exact ⟨rfl, hb3⟩)
             | (go_at_call 9; refine (awake_any _).mono ?_; rintro e w3 ⟨rfl, hb3⟩; exact ⟨rfl, hb3⟩))
      refine walk_end ?_
      intro vs wx hw hv
      simp [AllE, updE] at hv
      simp only [hv]
      clear hv
      go_wp2_with fail
      all_goals
        go_ret
        exact ⟨rfl, hw1.trans (hw.mono hw1.size)⟩
    · go_wp2_with fail
      refine (sum_any A L l c _ hL.out (hr.below hbq) (by omega)).mono ?_
      rintro e w1 ⟨rfl, hb1⟩
      have hw1 := hbq.trans (hb1.mono hbq.size)
      have hr1 := hr.below hw1
      have hjc : i ≤ c := by omega
      have hic : j ≤ c := by omega
      have hji : i ≤ j := by omega
      have hcut : l.take i ++ ((l.take j).drop i ++ l.drop j) = l := by
        rw [← List.append_assoc]
        have e1 : l.take i ++ (l.take j).drop i = l.take j := by
          have h := List.take_append_drop i (l.take j)
          rwa [List.take_take, Nat.min_eq_left hji] at h
        rw [e1, List.take_append_drop]
      have hs3 : more (more (sum (l.take i)) ((l.take j).drop i)) (l.drop j) = sum l := by
        rw [← sum_append, ← sum_append, List.append_assoc, hcut]
      have hsum3 : [l.take i, (l.take j).drop i, l.drop j].foldl more 0#32 = sum l := hs3
      obtain ⟨s, hs⟩ : ∃ s, sum l = s := ⟨_, rfl⟩
      obtain ⟨t0, ht0⟩ : ∃ t, sum (l.take i) = t := ⟨_, rfl⟩
      rw [ht0] at hs3
      obtain ⟨t1, ht1⟩ : ∃ t, more t0 ((l.take j).drop i) = t := ⟨_, rfl⟩
      rw [ht1] at hs3
      have hS : ∀ wx, Ext w1 wx → Calls Try.prog 10 #[.slice A i c] wx fun e w' => e = .returned (.int .u32 (t0.toNat : Int)) ∧ Below wx.heap.size wx w' :=
        fun wx hw => by rw [← ht0]; exact sum_any A i (l.take i) c wx (by rw [List.length_take, hL.out]; omega) (by rw [← cb_take]; exact (hr1.below hw).take i) (by omega)
      have hM1 : ∀ wx, Ext w1 wx → Calls Try.prog 16 #[.int .u32 (t0.toNat : Int), .slice (if c = i then A else Option.map (fun x => x.add i) A) (j - i) (c - i)] wx fun e w' => e = .returned (.int .u32 (t1.toNat : Int)) ∧ Below wx.heap.size wx w' :=
        fun wx hw => by rw [← ht1]; exact more_any t0 _ (j - i) ((l.take j).drop i) (c - i) wx (by rw [List.length_drop, List.length_take, hL.out, Nat.min_eq_left (by omega)]) (rd_cut (hr1.below hw) i j c hic) (by omega)
      have hM2 : ∀ wx, Ext w1 wx → Calls Try.prog 16 #[.int .u32 (t1.toNat : Int), .slice (if c = j then A else Option.map (fun x => x.add j) A) (L - j) (c - j)] wx fun e w' => e = .returned (.int .u32 (s.toNat : Int)) ∧ Below wx.heap.size wx w' :=
        fun wx hw => by
          rw [← hs, ← hs3]
          have h := rd_cut (hr1.below hw) j L c hLc
          rw [List.take_of_length_le (by rw [hL.out]; omega)] at h
          exact more_any t1 _ (L - j) (l.drop j) (c - j) wx (by rw [List.length_drop, hL.out]) h (by omega)
      have hM3 : ∀ wx, Ext w1 wx → Calls Try.prog 16 #[.int .u32 0, .slice A L c] wx fun e w' => e = .returned (.int .u32 (s.toNat : Int)) ∧ Below wx.heap.size wx w' :=
        fun wx hw => by rw [← hs]; exact more_any 0#32 A L l c wx hL.out (hr1.below hw) (by omega)
      rw [hs] at hsum3 ⊢
      replace hsum3 := hid hsum3
      clear hs3 ht1 ht0 hs hcut hm1 hm2 hm1' hm2' hb2 hsw
      go_wp2_with fail
      refine wp_region_free (by kernel_rfl) (by kernel_rfl) ?_
      (refine walk_q ?_
       apply Exists.intro
       refine ⟨fun vs wx hw hd => ?_, ?_⟩
       rotate_left
       simp only [Act.put, Nat.reduceAdd, List.setIfInBounds_toArray, List.set_cons_succ, List.set_cons_zero]
       rotate_right
       focus
         (try simp [updE, Region.binds] at hd)
         go_simp
         try go_bits
         try (rw [if_pos (by omega)]; try go_simp; try go_bits)
         try (rw [if_neg (by omega)]; try go_simp; try go_bits)
         first
           | rfl
           | (fail))
      (refine walk_q ?_
       apply Exists.intro
       refine ⟨fun vs wx hw hd => ?_, ?_⟩
       rotate_left
       simp only [Act.put, Nat.reduceAdd, List.setIfInBounds_toArray, List.set_cons_succ, List.set_cons_zero]
       rotate_right
       focus
         (try simp [updE, Region.binds] at hd)
         go_simp
         try go_bits
         try (rw [if_pos (by omega)]; try go_simp; try go_bits)
         try (rw [if_neg (by omega)]; try go_simp; try go_bits)
         first
           | rfl
           | (fail))
      refine walk_r (SlS i (l.take i)) (slS_stable _ _) (fun vs wx hw hd => ?_) ?_
      · (try simp [updE, Region.binds] at hd)
        go_simp
        exact ⟨A, c, rfl, by rw [← cb_take]; exact (hr1.below hw).take i⟩
      simp only [Act.put, Nat.reduceAdd, List.setIfInBounds_toArray, List.set_cons_succ, List.set_cons_zero]
      (refine walk_q ?_
       apply Exists.intro
       refine ⟨fun vs wx hw hd => ?_, ?_⟩
       rotate_left
       simp only [Act.put, Nat.reduceAdd, List.setIfInBounds_toArray, List.set_cons_succ, List.set_cons_zero]
       rotate_right
       focus
         (try simp [updE, Region.binds] at hd)
         go_simp
         try go_bits
         try (rw [if_pos (by omega)]; try go_simp; try go_bits)
         try (rw [if_neg (by omega)]; try go_simp; try go_bits)
         first
           | rfl
           | (fail))
      (refine walk_q ?_
       apply Exists.intro
       refine ⟨fun vs wx hw hd => ?_, ?_⟩
       rotate_left
       simp only [Act.put, Nat.reduceAdd, List.setIfInBounds_toArray, List.set_cons_succ, List.set_cons_zero]
       rotate_right
       focus
         (try simp [updE, Region.binds] at hd)
         go_simp
         try go_bits
         try (rw [if_pos (by omega)]; try go_simp; try go_bits)
         try (rw [if_neg (by omega)]; try go_simp; try go_bits)
         first
           | rfl
           | (fail))
      (refine walk_q ?_
       apply Exists.intro
       refine ⟨fun vs wx hw hd => ?_, ?_⟩
       rotate_left
       simp only [Act.put, Nat.reduceAdd, List.setIfInBounds_toArray, List.set_cons_succ, List.set_cons_zero]
       rotate_right
       focus
         (try simp [updE, Region.binds] at hd)
         go_simp
         try go_bits
         try (rw [if_pos (by omega)]; try go_simp; try go_bits)
         try (rw [if_neg (by omega)]; try go_simp; try go_bits)
         first
           | rfl
           | (fail))
      refine walk_r (SlS (j - i) ((l.take j).drop i)) (slS_stable _ _) (fun vs wx hw hd => ?_) ?_
      · (try simp [updE, Region.binds] at hd)
        go_simp
        exact ⟨_, _, rfl, rd_cut (hr1.below hw) i j c (by omega)⟩
      simp only [Act.put, Nat.reduceAdd, List.setIfInBounds_toArray, List.set_cons_succ, List.set_cons_zero]
      (refine walk_q ?_
       apply Exists.intro
       refine ⟨fun vs wx hw hd => ?_, ?_⟩
       rotate_left
       simp only [Act.put, Nat.reduceAdd, List.setIfInBounds_toArray, List.set_cons_succ, List.set_cons_zero]
       rotate_right
       focus
         (try simp [updE, Region.binds] at hd)
         go_simp
         try go_bits
         try (rw [if_pos (by omega)]; try go_simp; try go_bits)
         try (rw [if_neg (by omega)]; try go_simp; try go_bits)
         first
           | rfl
           | (fail))
      (refine walk_q ?_
       apply Exists.intro
       refine ⟨fun vs wx hw hd => ?_, ?_⟩
       rotate_left
       simp only [Act.put, Nat.reduceAdd, List.setIfInBounds_toArray, List.set_cons_succ, List.set_cons_zero]
       rotate_right
       focus
         (try simp [updE, Region.binds] at hd)
         go_simp
         try go_bits
         try (rw [if_pos (by omega)]; try go_simp; try go_bits)
         try (rw [if_neg (by omega)]; try go_simp; try go_bits)
         first
           | rfl
           | (fail))
      refine walk_r (SlS (L - j) (l.drop j)) (slS_stable _ _) (fun vs wx hw hd => ?_) ?_
      · (try simp [updE, Region.binds] at hd)
        go_simp
        have h := rd_cut (hr1.below hw) j L c hLc
        rw [List.take_of_length_le (by rw [hL.out]; omega)] at h
        exact ⟨_, _, rfl, h⟩
      simp only [Act.put, Nat.reduceAdd, List.setIfInBounds_toArray, List.set_cons_succ, List.set_cons_zero]
      refine walk_r (PartsS 3 [l.take i, (l.take j).drop i, l.drop j]) (partsS_stable _ _) (fun vs wx hw hd => ?_) ?_
      · (try simp [updE, Region.binds] at hd)
        obtain ⟨⟨A2, c2, hv2, hd2⟩, ⟨A6, c6, hv6, hd6⟩, ⟨A9, c9, hv9, hd9⟩⟩ := hd
        go_simp
        refine ⟨(Below.refl _ _).alloc (Nat.le_refl _) _, _, _, rfl, rfl, _, Rd.block wx [_, _, _] _, rfl, fun k t hk => ?_⟩
        have hk3 : k < 3 := by
          rcases Nat.lt_or_ge k 3 with h | h
          · exact h
          · rw [List.getElem?_eq_none (by simpa using h)] at hk; cases hk
        rcases (show k = 0 ∨ k = 1 ∨ k = 2 from by omega) with rfl | rfl | rfl
        · simp at hk
          subst hk
          refine ⟨A2, c2, ?_, hd2.alloc _, ?_⟩
          · rw [List.length_take, hL.out, Nat.min_eq_left (by omega)]; rfl
          · rw [List.length_take, hL.out]; omega
        · simp at hk
          subst hk
          refine ⟨A6, c6, ?_, hd6.alloc _, ?_⟩
          · rw [List.length_drop, List.length_take, hL.out, Nat.min_eq_left (by omega)]; rfl
          · rw [List.length_drop, List.length_take, hL.out]; omega
        · simp at hk
          subst hk
          refine ⟨A9, c9, ?_, hd9.alloc _, ?_⟩
          · rw [List.length_drop, hL.out]; rfl
          · rw [List.length_drop, hL.out]; omega
      simp only [Act.put, Nat.reduceAdd, List.setIfInBounds_toArray, List.set_cons_succ, List.set_cons_zero]
      refine walk_q ?_
      apply Exists.intro
      refine ⟨fun vs wx hw hd => ?_, ?_⟩
      rotate_left
      simp only [Act.put, Nat.reduceAdd, List.setIfInBounds_toArray, List.set_cons_succ, List.set_cons_zero]
      rotate_right
      · simp [updE, Region.binds] at hd
        obtain ⟨A10, c10, hv10, hp10⟩ := hd
        go_simp
        go_at_call 15
        refine (parts_any A10 3 c10 _ wx hp10 (by omega)).mono ?_
        rintro e w3 ⟨rfl, hb3⟩
        rw [hsum3.out]
        exact ⟨rfl, hb3⟩
      repeat
        (refine walk_q ?_
         apply Exists.intro
         refine ⟨fun vs wx hw hd => ?_, ?_⟩
         rotate_left
         simp only [Act.put, Nat.reduceAdd, List.setIfInBounds_toArray, List.set_cons_succ, List.set_cons_zero]
         rotate_right
         focus
           (try simp [updE, Region.binds] at hd)
           go_simp
           try go_bits
           try (rw [if_pos (by omega)]; try go_simp; try go_bits)
           try (rw [if_neg (by omega)]; try go_simp; try go_bits)
           first
             | rfl
             | (go_at_call 10; refine (hS _ hw).mono ?_; rintro e w3 ⟨rfl, hb3⟩; exact ⟨rfl, hb3⟩)
             | (go_at_call 16; (first | (with_reducible refine (hM1 _ hw).mono ?_) | (with_reducible refine (hM2 _ hw).mono ?_) | (with_reducible refine (hM3 _ hw).mono ?_)); rintro e w3 ⟨rfl, hb3⟩; exact ⟨rfl, hb3⟩)
             | (go_at_call 9; refine (awake_any _).mono ?_; rintro e w3 ⟨rfl, hb3⟩; exact ⟨rfl, hb3⟩))
      refine walk_end ?_
      intro vs wx hw hv
      simp [AllE, updE] at hv
      simp only [hv]
      clear hv
      go_wp2_with fail
      all_goals
        go_ret
        exact ⟨rfl, hw1.trans (hw.mono hw1.size)⟩
end Go.Proofs.Ytbneihahfagoiaa
