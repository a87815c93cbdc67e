/-
  THE WALK of crc.Open.
-/
import Derived.Test.YtcmbdbphddokmaaCrcC
import Derived.Test.YtcmbdbphddokmaaFree
namespace Go.Proofs.Ytcmbdbphddokmaa
open Go.RowKit

/-- What Open hands back. -/
def OpenP (l : List UInt8) (w : World) (en : Ending) (w' : World) : Prop :=
  ∃ A c, en = .returned (.tuple #[.slice A (openR l).1.length (openR l).1.length, .int .i64 ((openR l).2 : Int)]) ∧
    w'.ownsRow w.heap.size 5 1 (.slice A (openR l).1.length c) (openR l).1.length (cb (openR l).1) ∧ Below w.heap.size w w'

/-- A slice of bytes, wherever it lies. -/
def SlS (n : Nat) (l : List UInt8) : Spec := fun v w => ∃ A c, v = .slice A n c ∧ Rd w A (cb l)
theorem slS_stable (n : Nat) (l : List UInt8) : Stable (SlS n l) := fun v w w' hx ⟨A, c, h1, h2⟩ => ⟨A, c, h1, h2.below hx⟩

theorem open_err (l : List UInt8) (e : Nat) (w : World) (w' : World) (h : openR l = ([], e)) (hb : Below w.heap.size w w') :
    OpenP l w (.returned (.tuple #[.slice none 0 0, .int .i64 (e : Int)])) w' := by
  refine ⟨none, 0, ?_, ?_, hb⟩
  · rw [h]; rfl
  · rw [h]; exact World.ownsRow_nil _ _ _ _

theorem own_mono {w : World} {base base' : Nat} {e : TypeId} {v : Value} {n : Nat} {xs : List Value} (h : w.ownsRow base e 1 v n xs) (hb : base' ≤ base) : w.ownsRow base' e 1 v n xs := by
  obtain ⟨h1, h2⟩ := h
  refine ⟨h1, ?_⟩
  rcases h2 with h2 | ⟨g, cap, cur, hv, hg, r⟩
  · exact .inl h2
  · exact .inr ⟨g, cap, cur, hv, Nat.le_trans hb hg, r⟩

set_option maxHeartbeats 1000000 in
set_option maxRecDepth 100000 in
theorem open_any (A : Option Addr) (n : Nat) (l : List UInt8) (c : Nat) (w : World) (hn : l.length = n) (hr : Rd w A (cb l)) (hA : A = none → l = []) (hnc : n ≤ c) (hcm : c ≤ maxLen) (hl : n ≤ 140737488355328) :
    Calls Try.prog 22 #[.slice A n c] w (OpenP l w) := by
  unfold maxLen at hcm
  replace hn := hid hn
  by_cases h4 : n < 4
  · have hq := hid (open_short l (by rw [hn.out]; exact h4))
    go_enter Try.func22, Try.ntmps22
    go_wp2
    go_ret2
    exact open_err l 4 w w hq.out (Below.refl _ _)
  · obtain ⟨m, rfl⟩ : ∃ m, n = m + 4 := ⟨n - 4, by omega⟩
    obtain ⟨b, o, rfl, hbl, hc⟩ := hr (by rw [cb_length, hn.out]; omega)
    have htk : Hid (l.take (l.length - 4) = l.take m) := by refine hid ?_; rw [hn.out]; rfl
    have hdk : Hid (l.drop (l.length - 4) = l.drop m) := by refine hid ?_; rw [hn.out]; rfl
    have hrt : Rd w (some ⟨b, o, none⟩) (cb (l.take m)) := by have := hr.take m; rwa [cb_take] at this
    have hrd : Rd w (some ⟨b, o + m, none⟩) (cb (l.drop m)) := by
      have h := hr.drop m
      rw [cb_drop] at h
      have e : (some (⟨b, o, none⟩ : Addr)).map (·.add m) = some ⟨b, o + m, none⟩ := by
        simp only [Option.map, Addr.add]
        by_cases h0 : m = 0 <;> simp [h0]
      rwa [e] at h
    obtain ⟨s, hs⟩ : ∃ s, sum (l.take m) = s := ⟨_, rfl⟩
    replace hs := hid hs
    have hcv : ∀ wx, Ext w wx → (convert 22 9 (.slice (some ⟨b, o + m, none⟩) 4 (c - m))).run Try.prog wx = .ok (.string ⟨(l.drop m).toArray⟩) wx :=
      fun wx hx => run_strn wx 22 9 5 Try.underlying22 Try.underlying5 Try.underlying9 _ 4 (l.drop m) _ (by rw [List.length_drop, hn.out]; omega) (hrd.below hx)
    replace hc := hid hc
    have hx0 : Ext w w := Ext.refl w
    have hcne : ¬ c = m := by omega
    by_cases heq : four s = l.drop m
    · have hbe : (four s == l.drop m) = true := by rw [heq]; exact beq_self_eq_true _
      have hq : Hid (openR l = (l.take m, 0)) := by
        refine hid ?_
        unfold openR
        rw [if_neg (by rw [hn.out]; omega), htk.out, hdk.out, hs.out, if_pos heq]
      replace heq := hid heq
      go_enter Try.func22, Try.ntmps22
      go_wp2_with fail
      refine wp_region_free (by kernel_rfl) (by kernel_rfl) ?_
      repeat
        (refine walk_q ?_
         apply Exists.intro
         refine ⟨fun vs wx hw hd => ?_, ?_⟩
         rotate_left
         simp only [Act.put, Nat.reduceAdd, List.setIfInBounds_toArray, List.set_cons_succ, List.set_cons_zero]
         rotate_right
         focus
           (try simp [updE, Region.binds] at hd)
           go_simp
           try go_bits
           try (rw [if_pos (by omega)]; try go_simp; try go_bits)
           try (rw [if_neg (by omega)]; try go_simp; try go_bits)
           first
             | rfl
             | (go_at_call 33; refine (sum_any _ m (l.take m) _ _ (by rw [List.length_take, hn.out]; omega) (hrt.below hw) (by omega)).mono ?_; rintro e w3 ⟨rfl, hb3⟩; rw [hs.out]; exact ⟨rfl, hb3⟩))
      refine walk_r (SlS 4 (four s)) (slS_stable _ _) (fun vs wx hw hd => ?_) ?_
      · (try simp [updE, Region.binds] at hd)
        go_simp
        refine (tail_any s wx).mono ?_
        rintro e w4 ⟨rfl, rfl⟩
        exact ⟨_, rfl, (Below.refl _ _).alloc (Nat.le_refl _) _, _, _, rfl, Rd.block wx (cb (four s)) _⟩
      simp only [Act.put, Nat.reduceAdd, List.setIfInBounds_toArray, List.set_cons_succ, List.set_cons_zero]
      refine walk_q ?_
      apply Exists.intro
      refine ⟨fun vs wx hw hd => ?_, ?_⟩
      rotate_left
      simp only [Act.put, Nat.reduceAdd, List.setIfInBounds_toArray, List.set_cons_succ, List.set_cons_zero]
      rotate_right
      · simp [updE, Region.binds] at hd
        obtain ⟨A4, c4, hv4, hd4⟩ := hd
        go_simp
        rw [run_strn wx 22 9 5 Try.underlying22 Try.underlying5 Try.underlying9 A4 4 (four s) c4 rfl hd4]
        go_simp
        rfl
      repeat
        (refine walk_q ?_
         apply Exists.intro
         refine ⟨fun vs wx hw hd => ?_, ?_⟩
         rotate_left
         simp only [Act.put, Nat.reduceAdd, List.setIfInBounds_toArray, List.set_cons_succ, List.set_cons_zero]
         rotate_right
         focus
           (try simp [updE, Region.binds] at hd)
           go_simp
           try go_bits
           try (rw [if_pos (by omega)]; try go_simp; try go_bits)
           try (rw [if_neg (by omega)]; try go_simp; try go_bits)
           first
             | rfl)
      refine walk_end ?_
      intro vs wx hw hv
      simp [AllE, updE] at hv
      simp only [hv]
      clear hv
      go_wp2_with fail
      refine (own_any _ m (l.take m) _ wx (by rw [List.length_take, hn.out]; omega) (hrt.below hw) (fun h => by cases h) (by omega)).mono ?_
      rintro e w5 ⟨A5, c5, rfl, hown5, hb5⟩
      go_wp2_with fail
      go_ret2
      have hlen : (l.take m).length = m := by rw [List.length_take, hn.out]; omega
      have hbw : Below w.heap.size w w5 := Below.trans hw (hb5.mono hw.size)
      refine ⟨A5, c5, ?_, ?_, hbw⟩
      · rw [hq.out, hlen]; rfl
      · rw [hq.out]
        simp only []
        rw [hlen]
        exact own_mono hown5 hw.size
    · have hbe : (four s == l.drop m) = false := by rw [beq_eq_false_iff_ne]; exact heq
      have hq : Hid (openR l = ([], 5)) := by
        refine hid ?_
        unfold openR
        rw [if_neg (by rw [hn.out]; omega), htk.out, hdk.out, hs.out, if_neg heq]
      go_enter Try.func22, Try.ntmps22
      go_wp2_with fail
      refine wp_region_free (by kernel_rfl) (by kernel_rfl) ?_
      repeat
        (refine walk_q ?_
         apply Exists.intro
         refine ⟨fun vs wx hw hd => ?_, ?_⟩
         rotate_left
         simp only [Act.put, Nat.reduceAdd, List.setIfInBounds_toArray, List.set_cons_succ, List.set_cons_zero]
         rotate_right
         focus
           (try simp [updE, Region.binds] at hd)
           go_simp
           try go_bits
           try (rw [if_pos (by omega)]; try go_simp; try go_bits)
           try (rw [if_neg (by omega)]; try go_simp; try go_bits)
           first
             | rfl
             | (go_at_call 33; refine (sum_any _ m (l.take m) _ _ (by rw [List.length_take, hn.out]; omega) (hrt.below hw) (by omega)).mono ?_; rintro e w3 ⟨rfl, hb3⟩; rw [hs.out]; exact ⟨rfl, hb3⟩))
      refine walk_r (SlS 4 (four s)) (slS_stable _ _) (fun vs wx hw hd => ?_) ?_
      · (try simp [updE, Region.binds] at hd)
        go_simp
        refine (tail_any s wx).mono ?_
        rintro e w4 ⟨rfl, rfl⟩
        exact ⟨_, rfl, (Below.refl _ _).alloc (Nat.le_refl _) _, _, _, rfl, Rd.block wx (cb (four s)) _⟩
      simp only [Act.put, Nat.reduceAdd, List.setIfInBounds_toArray, List.set_cons_succ, List.set_cons_zero]
      refine walk_q ?_
      apply Exists.intro
      refine ⟨fun vs wx hw hd => ?_, ?_⟩
      rotate_left
      simp only [Act.put, Nat.reduceAdd, List.setIfInBounds_toArray, List.set_cons_succ, List.set_cons_zero]
      rotate_right
      · simp [updE, Region.binds] at hd
        obtain ⟨A4, c4, hv4, hd4⟩ := hd
        go_simp
        rw [run_strn wx 22 9 5 Try.underlying22 Try.underlying5 Try.underlying9 A4 4 (four s) c4 rfl hd4]
        go_simp
        rfl
      repeat
        (refine walk_q ?_
         apply Exists.intro
         refine ⟨fun vs wx hw hd => ?_, ?_⟩
         rotate_left
         simp only [Act.put, Nat.reduceAdd, List.setIfInBounds_toArray, List.set_cons_succ, List.set_cons_zero]
         rotate_right
         focus
           (try simp [updE, Region.binds] at hd)
           go_simp
           try go_bits
           try (rw [if_pos (by omega)]; try go_simp; try go_bits)
           try (rw [if_neg (by omega)]; try go_simp; try go_bits)
           first
             | rfl)
      refine walk_end ?_
      intro vs wx hw hv
      simp [AllE, updE] at hv
      simp only [hv]
      clear hv
      go_wp2_with fail
      go_ret2
      exact open_err l 5 w wx hq.out hw
end Go.Proofs.Ytcmbdbphddokmaa
