/-
  THE WALK of PackedWidths.
-/
import Derived.Test.YtgclakhcddadpaaPkO
import Derived.Test.YtgclakhcddadpaaPkA64
namespace Go.Proofs.Ytgclakhcddadpaa
open Go.RowKit

/-- The greatest. -/
def topL (l : List Nat) : Nat := l.foldl (fun w x => max w x) 0
theorem topL_snoc (l : List Nat) (x : Nat) : topL (l ++ [x]) = max (topL l) x := by simp [topL]
theorem topL_take (l : List Nat) (j : Nat) (h : j < l.length) : topL (l.take (j + 1)) = max (topL (l.take j)) l[j] := by
  rw [List.take_succ_eq_append_getElem h, topL_snoc]
theorem blen_max (a b : Nat) : blen (max a b) = max (blen a) (blen b) := by
  have mono : ∀ x y, x ≤ y → blen x ≤ blen y := fun x y h => blen_le.2 (Nat.lt_of_le_of_lt h (blen_lt y))
  rcases Nat.le_total a b with h | h
  · have := mono _ _ h; rw [Nat.max_eq_right h, Nat.max_eq_right this]
  · have := mono _ _ h; rw [Nat.max_eq_left h, Nat.max_eq_left this]
theorem widthG_top (l : List Nat) : ∀ a, l.foldl (fun w x => max w (blen x)) (blen a) = blen (l.foldl (fun w x => max w x) a) := by
  induction l with
  | nil => intro a; rfl
  | cons x l ih => intro a; rw [List.foldl_cons, List.foldl_cons, ← blen_max, ih]
theorem widthL_top (l : List Nat) : widthL l = blen (topL l) := widthG_top l 0
theorem topG_lt (l : List Nat) (m : Nat) : ∀ a, a < m → (∀ x ∈ l, x < m) → l.foldl (fun w x => max w x) a < m := by
  induction l with
  | nil => intro a h _; exact h
  | cons x l ih =>
    intro a h hx
    rw [List.foldl_cons]
    exact ih _ (Nat.max_lt.2 ⟨h, hx x (by simp)⟩) (fun y hy => hx y (by simp [hy]))
theorem topL_lt (l : List Nat) (m : Nat) (hm : 0 < m) (h : ∀ x ∈ l, x < m) : topL l < m := topG_lt l m 0 hm h

/-- The greatest, shifted. -/
theorem top_shift0 (l : List Nat) : ((topL l : Int) / 2 ^ widthL l == 0) = true := by
  have h : topL l < 2 ^ widthL l := by rw [widthL_top]; exact blen_lt _
  have e : (topL l : Int) / 2 ^ widthL l = ((topL l / 2 ^ widthL l : Nat) : Int) := by rw [Int.natCast_ediv]; simp
  rw [e, Nat.div_eq_of_lt h]; rfl
theorem top_shift1 (l : List Nat) (p : Nat) (hp : widthL l = p + 1) : ((topL l : Int) / 2 ^ p == 1) = true := by
  have h : topL l < 2 ^ (p + 1) := by rw [← hp, widthL_top]; exact blen_lt _
  have h2 : 2 ^ p ≤ topL l := by
    rcases Nat.lt_or_ge (topL l) (2 ^ p) with h3 | h3
    · have := blen_le.2 h3
      rw [← widthL_top] at this
      omega
    · exact h3
  have e : (topL l : Int) / 2 ^ p = ((topL l / 2 ^ p : Nat) : Int) := by rw [Int.natCast_ediv]; simp
  have hq : topL l / 2 ^ p = 1 := by
    have hpos : 0 < 2 ^ p := Nat.pow_pos (by omega)
    apply Nat.div_eq_of_lt_le
    · omega
    · rw [Nat.pow_succ] at h; omega
  rw [e, hq]; rfl

set_option maxHeartbeats 4000000 in
set_option maxRecDepth 100000 in
theorem widths_walk (A : Option Addr) (n c : Nat) (l : List Nat) (w : World) (hn : l.length = n) (hr : Rd w A (uk .u64 l)) (hA : A = none → l = []) (hnm : n ≤ 9223372036854775807) (hm : Hid (∀ x ∈ l, x < 18446744073709551616)) :
    Calls Try.prog 5 #[.slice A n c] w (Yes w) := by
  by_cases hbig : 500 < n
  · go_enter Try.func5, Try.ntmps5
    go_wp2_with (go_at_call 11; refine (awake_any _).mono ?_; rintro e w3 ⟨rfl, hb3⟩)
    go_ret
    exact ⟨rfl, hb3⟩
  · clear hnm
    obtain ⟨q, hq⟩ : ∃ q, widthL l = q := ⟨_, rfl⟩
    have hq64 : q ≤ 64 := by rw [← hq]; exact widthL_64 l hm.out
    have hz0 := hid (top_shift0 l)
    have hz1 := hid (top_shift1 l)
    rw [hq] at hz0 hz1
    have htm := hid (topL_lt l 18446744073709551616 (by omega) hm.out)
    have htake : ∀ j, Hid (topL (l.take j) < 18446744073709551616) := fun j => hid (topL_lt _ _ (by omega) (fun x hx => hm.out x (List.mem_of_mem_take hx)))
    replace htake := hid htake
    replace hn := hid hn
    have hw := fun (wx : World) => width64 A n l c wx hn.out
    replace hq := hid hq
    replace hA := hid hA
    clear hw
    go_enter Try.func5, Try.ntmps5
    go_wp2_with (go_at_call 13; refine (width64 A n l c _ hn.out hr (by omega) hm).mono ?_; rintro e w3 ⟨rfl, rfl⟩; rw [hq.out])
    go_loop [4, 5] (fun t i => ∃ j q : Nat, i = .int .i64 j ∧ j ≤ n ∧ t = .int .u64 q ∧ Hid (topL (l.take j) = q)) (fun _ i => n - (intOf i).toNat)
    case atStart => exact ⟨0, 0, rfl, Nat.zero_le _, rfl, hid (by rw [List.take_zero]; rfl)⟩
    case round =>
      obtain ⟨j, t, rfl, hj, rfl, ht⟩ := hrel
      by_cases hlt : j < n
      · have hjl : j < l.length := by rw [hn.out]; exact hlt
        have hjI : (j : Int) < (n : Int) := by omega
        obtain ⟨b, o, rfl, hb, hc⟩ := hr (by rw [uk_length]; omega)
        have hce := hc j _ (uk_get .u64 l j hjl)
        have hws := hid (topL_take l j hjl)
        obtain ⟨x, hx⟩ : ∃ x, l[j] = x := ⟨_, rfl⟩
        rw [hx, ht.out] at hws
        rw [hx] at hce
        replace hx := hid hx
        clear hc
        go_wp2
        all_goals
          go_round
          case rel => exact ⟨j + 1, max t x, by go_num, by omega, by congr 1; omega, hid hws.out⟩
          case measure => simp [intOf]; omega
      · obtain rfl : j = n := by omega
        have htl : l.take j = l := List.take_of_length_le (by rw [hn.out]; exact Nat.le_refl _)
        rw [htl] at ht
        rw [ht.out] at hz0 hz1 htm
        clear htake
        go_wp2_with fail
        refine (newOk64 q A j l c _ hn.out hr hA.out (by omega) hm hq64 (by rw [hq.out]; omega)).mono ?_
        rintro e w1 ⟨g, rfl, hg, hv1, hb1⟩
        rcases Nat.eq_zero_or_pos q with h0 | h0
        · subst h0
          have hz0 := hz0.out
          have hz0' : ((t : Int) == 0) = true := by simpa using hz0
          clear hz0 hz1
          go_wp2_with fail
          refine (newArg64 (-1) A j l c _ hn.out (hr.below hb1) (by omega) hm (.inl (by omega))).mono ?_
          rintro e w2 ⟨rfl, rfl⟩
          go_wp2_with (go_at_call 11; refine (awake_any _).mono ?_; rintro e w3 ⟨rfl, hb3⟩)
          go_ret
          exact ⟨rfl, hb1.trans (hb3.mono hb1.size)⟩
        · obtain ⟨p, hp⟩ : ∃ p, q = p + 1 := ⟨q - 1, by omega⟩
          have hz1 := hz1.out p hp
          have hz0 := hz0.out
          have hpi : (q : Int) - 1 = (p : Int) := by omega
          have hp64 : p < 64 := by omega
          have hqb0 : ((q : Int) == 0) = false := by rw [beq_eq_false_iff_ne]; omega
          have hpq : (p : Int) < (widthL l : Int) := by rw [hq.out]; omega
          replace hp := hid hp
          replace hpq := hid hpq
          by_cases h64 : q = 64
          · have hqb : ((q : Int) == 64) = true := by rw [h64]; rfl
            clear hz0
            replace h64 := hid h64
            go_wp2_with fail
            refine (newArg64 (p : Int) A j l c _ hn.out (hr.below hb1) (by omega) hm (.inr (.inr hpq.out))).mono ?_
            rintro e w2 ⟨rfl, rfl⟩
            go_wp2_with (go_at_call 11; refine (awake_any _).mono ?_; rintro e w3 ⟨rfl, hb3⟩)
            go_ret
            exact ⟨rfl, hb1.trans (hb3.mono hb1.size)⟩
          · have hqb : ((q : Int) == 64) = false := by rw [beq_eq_false_iff_ne]; omega
            have hq63 : q < 64 := by omega
            replace h64 := hid h64
            go_wp2_with fail
            refine (newArg64 (p : Int) A j l c _ hn.out (hr.below hb1) (by omega) hm (.inr (.inr hpq.out))).mono ?_
            rintro e w2 ⟨rfl, rfl⟩
            go_wp2_with (go_at_call 11; refine (awake_any _).mono ?_; rintro e w3 ⟨rfl, hb3⟩)
            go_ret
            exact ⟨rfl, hb1.trans (hb3.mono hb1.size)⟩
end Go.Proofs.Ytgclakhcddadpaa
