/-
  THE WALK of the document's own Read.
-/
import Derived.Test.YtgclakhcddadpaaPkDa
import Derived.Test.YtgclakhcddadpaaBox
namespace Go.Proofs.Ytgclakhcddadpaa
open Go.RowKit

/-- What the document's Read hands back. -/
def RefR (t : Nat × List Nat × Nat × Nat) (w : World) (e : Ending) (w' : World) : Prop :=
  ∃ A c, e = .returned (.tuple #[.int .i64 (t.1 : Int), .slice A t.2.1.length c, .int .i64 (t.2.2.1 : Int), .int .i64 (t.2.2.2 : Int)]) ∧ Rd w' A (uk .u64 t.2.1) ∧ Below w.heap.size w w'

theorem info64r : (Try.prog.info? 30).map (fun i => (i.zero, i.size, i.bytes)) = some (some (.int .u64 0), 1, 8) := by kernel_rfl

theorem refTake_l (l : List UInt8) (n : Nat) (w : World) (hn : l.length = n) (hl : n ≤ 140737488355328) :
    Calls Try.prog 61 #[.string ⟨l.toArray⟩] w fun e w' => e = .returned (tup3 (take l)) ∧ w = w' :=
  refTake_any ⟨l.toArray⟩ w (by show l.toArray.size ≤ _; rw [List.size_toArray]; omega)

theorem bv8 (u : UInt8) (j : Nat) : bits BinOp.and IntKind.u8 ((u.toNat : Int) / 2 ^ j) 1 = ((if u.toNat.testBit j then 1 else 0 : Nat) : Int) := by
  have hu := u.toNat_lt
  have e : (u.toNat : Int) / 2 ^ j = ((u.toNat / 2 ^ j : Nat) : Int) := by rw [Int.natCast_ediv]; simp
  have hd : u.toNat / 2 ^ j ≤ u.toNat := Nat.div_le_self _ _
  have h := u8_and_nat (u.toNat / 2 ^ j) 1 (by omega) (by omega)
  have h : bits BinOp.and IntKind.u8 ((u.toNat / 2 ^ j : Nat) : Int) 1 = _ := h
  rw [e, h, Nat.and_one_is_mod, Nat.testBit_eq_decide_div_mod_eq]
  have : u.toNat / 2 ^ j % 2 = 0 ∨ u.toNat / 2 ^ j % 2 = 1 := by omega
  rcases this with h | h <;> simp [h]

theorem or_pow (X k : Nat) (hX : X < 2 ^ k) (hk : k < 64) : bits BinOp.or IntKind.u64 (X : Int) (IntKind.u64.wrap (2 ^ k)) = ((X ||| 2 ^ k : Nat) : Int) := by
  have h1 : 2 ^ k < 2 ^ 64 := Nat.pow_lt_pow_right (by omega) hk
  have e : (2 : Int) ^ k = ((2 ^ k : Nat) : Int) := by simp
  rw [e]
  generalize 2 ^ k = q at hX h1
  have ew : IntKind.u64.wrap (q : Int) = (q : Int) := by rw [IntKind.wrap_u64]; omega
  rw [ew]
  exact u64_or_nat X q (by omega) (by omega)

/-- A byte of a string, and its bit. -/
theorem bit_of (part : List UInt8) (a q r : Nat) (hq : a / 8 = q) (hr : a % 8 = r) (h : q < part.length) : bitB part a = (part[q].toNat).testBit r := by
  unfold bitB
  rw [hq, hr, List.getD_eq_getElem?_getD, List.getElem?_eq_getElem h]
  rfl

set_option maxRecDepth 100000 in
set_option maxHeartbeats 8000000 in
theorem refRead_any (m n : Nat) (s : List UInt8) (w : World) (hn : s.length = n) (hnm : n ≤ 1000000000) (hm : m ≤ 64) :
    Calls Try.prog 39 #[.string ⟨s.toArray⟩, .int .i64 m] w (RefR (readP m s) w) := by
  obtain ⟨i0, hi, hz0, hz1, hz2⟩ := info_parts info64r
  obtain ⟨t, ht⟩ : ∃ t, take s = t := ⟨_, rfl⟩
  obtain ⟨N, k, er⟩ := t
  have hN64 := take_lt s
  rw [ht] at hN64
  simp only [] at hN64
  have hks := take_size (l := s)
  rw [ht, hn] at hks
  simp only [] at hks
  have hH : headP s = if er ≠ 0 then (0, 0, 0, er) else if 100000 < N then (0, 0, 0, 2) else if n ≤ k then (0, 0, 0, 4) else if 64 < (s.getD k 0).toNat then (0, 0, 0, 3) else (N, (s.getD k 0).toNat, k + 1, 0) := by
    unfold headP; rw [ht, hn]
  have hP : readP m s = if (headP s).2.2.2 ≠ 0 then (0, [], 0, (headP s).2.2.2) else readQ m (s.drop (headP s).2.2.1) (headP s).2.2.1 (headP s).1 (headP s).2.1 := rfl
  have hbad : ∀ x, x ≠ 0 → headP s = (0, 0, 0, x) → readP m s = (0, [], 0, x) := fun x hx h => by rw [hP, h]; simp [hx]
  replace ht := hid ht
  replace hN64 := hid hN64
  have hnil : ∀ (x : Nat) (wx : World), Below w.heap.size w wx → readP m s = (0, [], 0, x) → RefR (readP m s) w (.returned (.tuple #[.int .i64 0, .slice none 0 0, .int .i64 0, .int .i64 (x : Int)])) wx := fun x wx hb h => by
    rw [h]; exact ⟨none, 0, rfl, Rd.nil _ _, hb⟩
  by_cases he : er = 0
  · subst he
    obtain ⟨hk1, hk2⟩ := hks rfl
    rw [if_neg (by simp)] at hH
    by_cases h1 : 100000 < N
    · rw [if_pos h1] at hH
      have hR := hid (hbad 2 (by omega) hH)
      have h1i : (100000 : Int) < (N : Int) := by omega
      clear hbad hP hH
      replace hnil := hid hnil
      go_enter Try.func39, Try.ntmps39
      go_wp2_with (go_at_call 61; refine (refTake_l s n _ hn (by omega)).mono ?_; rintro e w1 ⟨rfl, rfl⟩; rw [ht.out]; unfold tup3)
      exact bodyPost_ret (v := .tuple #[.int .i64 0, .slice none 0 0, .int .i64 0, .int .i64 2]) (by simp [results, Try.results39, go_sem]) rfl (hnil.out 2 _ (Below.refl _ _) hR.out)
    · rw [if_neg h1] at hH
      have h1i : ¬ (100000 : Int) < (N : Int) := by omega
      by_cases h2 : n ≤ k
      · rw [if_pos h2] at hH
        have hR := hid (hbad 4 (by omega) hH)
        have h2b : ((k : Int) == (n : Int)) = true := by simp; omega
        clear hbad hP hH hk2 hk1 h2 hks
        replace hnil := hid hnil
        go_enter Try.func39, Try.ntmps39
        go_wp2_with (go_at_call 61; refine (refTake_l s n _ hn (by omega)).mono ?_; rintro e w1 ⟨rfl, rfl⟩; rw [ht.out]; unfold tup3)
        exact bodyPost_ret (v := .tuple #[.int .i64 0, .slice none 0 0, .int .i64 0, .int .i64 4]) (by simp [results, Try.results39, go_sem]) rfl (hnil.out 4 _ (Below.refl _ _) hR.out)
      · rw [if_neg h2] at hH
        have h2b : ((k : Int) == (n : Int)) = false := by rw [beq_eq_false_iff_ne]; omega
        have hkl : k < s.length := by omega
        have hkI : (k : Int) < (n : Int) := by omega
        have hg : s.getD k 0 = s[k] := by rw [List.getD_eq_getElem?_getD, List.getElem?_eq_getElem hkl]; rfl
        rw [hg] at hH
        obtain ⟨u, hu⟩ : ∃ u, s[k] = u := ⟨_, rfl⟩
        rw [hu] at hH
        have hgk : ∀ (h : k < ByteArray.size ⟨s.toArray⟩), (⟨s.toArray⟩ : ByteArray)[k]'h = u := fun _ => hu
        have hul := u.toNat_lt
        obtain ⟨z, hz⟩ : ∃ z, u.toNat = z := ⟨_, rfl⟩
        rw [hz] at hH hul
        have hzi : (u.toNat : Int) = (z : Int) := by rw [hz]
        replace hu := hid hu
        clear hg
        by_cases h3 : 64 < z
        · rw [if_pos h3] at hH
          have hR := hid (hbad 3 (by omega) hH)
          have h3i : (64 : Int) < (z : Int) := by omega
          clear hbad hP hH hks
          replace hnil := hid hnil
          go_enter Try.func39, Try.ntmps39
          go_wp2_with (go_at_call 61; refine (refTake_l s n _ hn (by omega)).mono ?_; rintro e w1 ⟨rfl, rfl⟩; rw [ht.out]; unfold tup3)
          exact bodyPost_ret (v := .tuple #[.int .i64 0, .slice none 0 0, .int .i64 0, .int .i64 3]) (by simp [results, Try.results39, go_sem]) rfl (hnil.out 3 _ (Below.refl _ _) hR.out)
        · rw [if_neg h3] at hH
          have h3i : (z : Int) ≤ 64 := by omega
          have hz64 : z ≤ 64 := by omega
          have hN1 : N ≤ 100000 := by omega
          have hwN : IntKind.i64.wrap (N : Int) = (N : Int) := by rw [IntKind.wrap_i64]; omega
          obtain ⟨D, hD⟩ : ∃ D, N * z = D := ⟨_, rfl⟩
          obtain ⟨S, hS⟩ : ∃ S, sizeP N z = S := ⟨_, rfl⟩
          have hD2 : D ≤ 6400000 := by rw [← hD]; exact Nat.le_trans (Nat.mul_le_mul hN1 hz64) (by decide)
          have hS2 : (D + 7) / 8 = S := by rw [← hS, ← hD]; rfl
          have hDi : (N : Int) * (z : Int) = (D : Int) := by rw [← hD]; rfl
          have hSi : ((D : Int) + 7) / 8 = (S : Int) := by omega
          have hSt : ((D : Int) + 7).tdiv 8 = (S : Int) := by rw [Int.tdiv_eq_ediv_of_nonneg (by omega)]; exact hSi
          have hdl : (s.drop (k + 1)).length = n - (k + 1) := by rw [List.length_drop, hn]
          rw [hH] at hP
          simp only [ne_eq, not_true, if_false] at hP
          unfold readQ at hP
          rw [hdl, hS] at hP
          by_cases hsz : n - (k + 1) < S
          · rw [if_pos hsz] at hP
            have hR := hid hP
            have hszi : (n : Int) - (k : Int) - 1 < (S : Int) := by omega
            replace hS := hid hS
            replace hD := hid hD
            clear hbad hP hH hks hS2 hdl
            replace hnil := hid hnil
            go_enter Try.func39, Try.ntmps39
            go_wp2_with (go_at_call 61; refine (refTake_l s n _ hn (by omega)).mono ?_; rintro e w1 ⟨rfl, rfl⟩; rw [ht.out]; unfold tup3)
            exact bodyPost_ret (v := .tuple #[.int .i64 0, .slice none 0 0, .int .i64 0, .int .i64 4]) (by simp [results, Try.results39, go_sem]) rfl (hnil.out 4 _ (Below.refl _ _) hR.out)
          · rw [if_neg hsz] at hP
            obtain ⟨part, hpt⟩ : ∃ part, (s.drop (k + 1)).take S = part := ⟨_, rfl⟩
            have hpl : part.length = S := by rw [← hpt, List.length_take, hdl]; omega
            rw [hpt, hD] at hP
            have hex : ByteArray.extract ⟨s.toArray⟩ (k + 1) (k + 1 + S) = ⟨part.toArray⟩ := by
              rw [extract_list, List.drop_take, show k + 1 + S - (k + 1) = S from by omega, hpt]
            have hszi : ¬ (n : Int) - (k : Int) - 1 < (S : Int) := by omega
            have hkS : (k : Int) + 1 ≤ (k : Int) + 1 + (S : Int) := by omega
            have hkn : (k : Int) + 1 + (S : Int) ≤ (n : Int) := by omega
            have hDS : D ≤ 8 * S := by omega
            have hS6 : S ≤ 900000 := by omega
            have hDz := hid hD2
            replace hS := hid hS
            replace hD := hid hD
            replace hpt := hid hpt
            replace hP := hid hP
            clear hbad hH hks hS2 hdl hD2 hsz
            replace hnil := hid hnil
            go_enter Try.func39, Try.ntmps39
            go_wp2_with (go_at_call 61; refine (refTake_l s n _ hn (by omega)).mono ?_; rintro e w1 ⟨rfl, rfl⟩; rw [ht.out]; unfold tup3)
            have hd1 : decide ((100000 : Int) < (N : Int)) = false := decide_eq_false (by omega)
            have hd2 : decide ((64 : Int) < (z : Int)) = false := decide_eq_false (by omega)
            have hd3 : decide ((n : Int) - (k : Int) - 1 < (S : Int)) = false := decide_eq_false (by omega)
            simp only [hex, hd1, hd2, hd3]
            clear hex hd1 hd2 hd3 hSi hSt hgk
            go_loopw [14, 15] (fun l i wr => ∃ (j : Nat) (A2 : Option Addr) (c2 : Nat), i = .int .i64 j ∧ j ≤ N ∧ Hid (fits m part z j = true) ∧ l = .slice A2 j c2 ∧
              wr.ownsRow w.heap.size 30 1 (.slice A2 j c2) j (uk .u64 (numsAt part z j)) ∧ Below w.heap.size w wr) (fun _ i _ => N - (intOf i).toNat)
            case atStart => exact ⟨0, none, 0, rfl, Nat.zero_le _, hid (fits_zero _ _ _), rfl, World.ownsRow_nil _ _ _ _, Below.refl _ _⟩
            case round =>
              obtain ⟨j, A2, c2, rfl, hj, hfit, rfl, hown, hbr⟩ := hrel
              have hbs := hbr.size
              by_cases hlt : j < N
              · obtain ⟨p, hp⟩ : ∃ p, j * z = p := ⟨_, rfl⟩
                have hpi : (j : Int) * (z : Int) = (p : Int) := by rw [← hp]; rfl
                have hpz : p + z ≤ D := by
                  have h1 : (j + 1) * z ≤ N * z := Nat.mul_le_mul_right z hlt
                  rw [hD.out, Nat.succ_mul, hp] at h1
                  exact h1
                have hjI : (j : Int) < (N : Int) := by omega
                have hnum : Hid (numAt part z j = ofBits z (fun k => bitB part (p + k))) := hid (by unfold numAt; rw [hp])
                replace hp := hid hp
                go_wp2_with fail
                go_loop [16, 17] (fun x k => ∃ (k' X : Nat), k = .int .i64 k' ∧ k' ≤ z ∧ x = .int .u64 X ∧ Hid (ofBits k' (fun t => bitB part (p + t)) = X)) (fun _ k => z - (intOf k).toNat)
                case atStart => exact ⟨0, 0, rfl, Nat.zero_le _, rfl, hid rfl⟩
                case round =>
                  obtain ⟨k', X, rfl, hk', rfl, hX⟩ := hrel
                  by_cases hkz : k' < z
                  · have hkI' : (k' : Int) < (z : Int) := by omega
                    obtain ⟨a, ha⟩ : ∃ a, p + k' = a := ⟨_, rfl⟩
                    have hai : (p : Int) + (k' : Int) = (a : Int) := by omega
                    have ha8 : a < 8 * S := by omega
                    have ha9 : a ≤ 6400000 := by have := hDz.out; omega
                    have hk64 : k' < 64 := by omega
                    obtain ⟨q, hq⟩ : ∃ q, a / 8 = q := ⟨_, rfl⟩
                    obtain ⟨r, hr⟩ : ∃ r, a % 8 = r := ⟨_, rfl⟩
                    have hqi : (a : Int) / 8 = (q : Int) := by omega
                    have hri : (a : Int) % 8 = (r : Int) := by omega
                    have hqt : (a : Int).tdiv 8 = (q : Int) := by rw [Int.tdiv_eq_ediv_of_nonneg (by omega)]; omega
                    have hrt : (a : Int).tmod 8 = (r : Int) := by rw [Int.tmod_eq_emod_of_nonneg (by omega)]; omega
                    have hqS : q < S := by omega
                    have hr8 : r < 8 := by omega
                    have hqp : q < part.length := by omega
                    have hqI : (q : Int) < (S : Int) := by omega
                    have hbb := bit_of part a q r hq hr hqp
                    obtain ⟨v, hv⟩ : ∃ v, part[q] = v := ⟨_, rfl⟩
                    rw [hv] at hbb
                    have hgq : ∀ (h : q < ByteArray.size ⟨part.toArray⟩), (⟨part.toArray⟩ : ByteArray)[q]'h = v := fun _ => hv
                    have hv8 := bv8 v r
                    have hXk : X < 2 ^ k' := by rw [← hX.out]; exact ofBits_lt _ _
                    have hor := or_pow X k' hXk hk64
                    have hXs := ofBits_or (fun t => bitB part (p + t)) k'
                    simp only [hX.out, ha] at hXs
                    rw [← hbb] at hv8
                    replace hXk := hid hXk
                    replace ha := hid ha
                    replace hq := hid hq
                    replace hr := hid hr
                    replace hv := hid hv
                    cases hbt : bitB part a with
                    | true =>
                      rw [hbt] at hv8 hXs
                      simp only [if_true] at hXs
                      have hv8 : bits BinOp.and IntKind.u8 ((v.toNat : Int) / 2 ^ r) 1 = 1 := hv8
                      generalize X ||| 2 ^ k' = X2 at hor hXs
                      replace hXs := hid hXs
                      replace hbt := hid hbt
                      clear hbb
                      go_wp2
                      go_round
                      case rel => exact ⟨k' + 1, X2, by go_num, by omega, rfl, hXs⟩
                      case measure => simp [intOf]; omega
                    | false =>
                      rw [hbt] at hv8 hXs
                      simp only [Bool.false_eq_true, if_false, Nat.or_zero] at hXs
                      have hv8 : bits BinOp.and IntKind.u8 ((v.toNat : Int) / 2 ^ r) 1 = 0 := hv8
                      replace hXs := hid hXs
                      replace hbt := hid hbt
                      clear hbb hor
                      go_wp2
                      go_round
                      case rel => exact ⟨k' + 1, X, by go_num, by omega, rfl, hXs⟩
                      case measure => simp [intOf]; omega
                  · obtain rfl : k' = z := by omega
                    have hXn : numAt part k' j = X := by rw [hnum.out]; exact hX.out
                    have hXlt := numAt_lt part k' j
                    rw [hXn] at hXlt
                    have hX64 : Hid (X < 18446744073709551616) := hid (Nat.lt_of_lt_of_le hXlt (Nat.pow_le_pow_right (by omega) hz64))
                    have hfs := fits_succ m part k' j
                    rw [hfit.out, hXn, Bool.true_and] at hfs
                    replace hXlt := hid hXlt
                    clear hpi
                    by_cases hfx : X < 2 ^ m
                    · have hfs1 : Hid (fits m part k' (j + 1) = true) := hid (by rw [hfs]; exact decide_eq_true hfx)
                      have hne : ((X : Int) / 2 ^ m != 0) = false := by rw [shr_zero]; simp [hfx]
                      have hnsucc := numsAt_succ part k' j
                      rw [hXn] at hnsucc
                      replace hfx := hid hfx
                      replace hnsucc := hid hnsucc
                      clear hfs
                      by_cases hm64 : m < 64
                      · have hmI : (m : Int) < 64 := by omega
                        go_wp2_with (at_builtin; refine wpList_app _ rfl (.tmp 105) (.tmp 107) 28 rfl w.heap.size 30 i0 (.int .u64 0) 8 Try.underlying28 hi hz0 hz1 hz2 rfl _ _ _ _ rfl (hown.alloc _) _ _ _ [.int .u64 (X : Int)] rfl (Rd.one _ _ _) rfl (one_int _ _) (by unfold maxLen; omega) (by omega) (by simp; omega) ?_; intro A5 c5 w5 hown5 hg5 hb5 _)
                        go_roundw
                        case rel => exact ⟨j + 1, A5, c5, by go_num, by omega, hfs1, rfl, by rw [hnsucc.out, uk_snoc]; exact hown5, (hbr.alloc hbr.size _).trans hb5⟩
                        case measure => simp [intOf]; omega
                      · have hmI : ¬ (m : Int) < 64 := by omega
                        go_wp2_with (at_builtin; refine wpList_app _ rfl (.tmp 105) (.tmp 107) 28 rfl w.heap.size 30 i0 (.int .u64 0) 8 Try.underlying28 hi hz0 hz1 hz2 rfl _ _ _ _ rfl (hown.alloc _) _ _ _ [.int .u64 (X : Int)] rfl (Rd.one _ _ _) rfl (one_int _ _) (by unfold maxLen; omega) (by omega) (by simp; omega) ?_; intro A5 c5 w5 hown5 hg5 hb5 _)
                        go_roundw
                        case rel => exact ⟨j + 1, A5, c5, by go_num, by omega, hfs1, rfl, by rw [hnsucc.out, uk_snoc]; exact hown5, (hbr.alloc hbr.size _).trans hb5⟩
                        case measure => simp [intOf]; omega
                    · have hm64 : m < 64 := by
                        rcases Nat.lt_or_ge m 64 with h | h
                        · exact h
                        · exact absurd (Nat.lt_of_lt_of_le hX64.out (Nat.pow_le_pow_right (show 0 < 2 by omega) h)) hfx
                      have hmI : (m : Int) < 64 := by omega
                      have hne : ((X : Int) / 2 ^ m != 0) = true := by rw [shr_zero]; simp [hfx]
                      have hff := hid (fits_false (m := m) (b := part) (w := k') hlt (by rw [hXn]; exact hfx))
                      have hR : Hid (readP m s = (0, [], 0, 3)) := hid (by rw [hP.out, hff.out]; rfl)
                      replace hfx := hid hfx
                      clear hfs
                      go_wp2
                      exact bodyPost_ret (v := .tuple #[.int .i64 0, .slice none 0 0, .int .i64 0, .int .i64 3]) (by simp [results, Try.results39, go_sem]) rfl (by first | exact hnil.out 3 _ hbr hR.out | exact ⟨none, 0, rfl, Rd.nil _ _, hbr⟩)
              · obtain rfl : j = N := by omega
                have hPf : Hid (readP m s = if tailZ part D (8 * S) = true then (z, numsAt part z j, k + 1 + S, 0) else (0, [], 0, 3)) := hid (by rw [hP.out, hfit.out, if_pos rfl])
                go_wp2_with fail
                go_loop [19] (fun i => ∃ q, i = .int .i64 (q : Nat) ∧ D ≤ q ∧ q ≤ 8 * S ∧ Hid (∀ t, D ≤ t → t < q → bitB part t = false)) (fun i => 8 * S - (intOf i).toNat)
                case atStart => exact ⟨D, rfl, Nat.le_refl _, hDS, hid (fun t h1 h2 => by omega)⟩
                case round =>
                  obtain ⟨a, rfl, hq1, hq2, hq3⟩ := hrel
                  obtain ⟨S8, hS8e⟩ : ∃ S8, 8 * S = S8 := ⟨_, rfl⟩
                  have hS8 : (8 : Int) * (S : Int) = (S8 : Int) := by omega
                  by_cases hqS : a < 8 * S
                  · have haI : (a : Int) < (S8 : Int) := by omega
                    have hS87 : S8 ≤ 7200000 := by omega
                    obtain ⟨q, hq⟩ : ∃ q, a / 8 = q := ⟨_, rfl⟩
                    obtain ⟨r, hr⟩ : ∃ r, a % 8 = r := ⟨_, rfl⟩
                    have hqi : (a : Int) / 8 = (q : Int) := by omega
                    have hri : (a : Int) % 8 = (r : Int) := by omega
                    have hqt : (a : Int).tdiv 8 = (q : Int) := by rw [Int.tdiv_eq_ediv_of_nonneg (by omega)]; omega
                    have hrt : (a : Int).tmod 8 = (r : Int) := by rw [Int.tmod_eq_emod_of_nonneg (by omega)]; omega
                    have hqS : q < S := by omega
                    have hr8 : r < 8 := by omega
                    have hqp : q < part.length := by omega
                    have hqI : (q : Int) < (S : Int) := by omega
                    have hbb := bit_of part a q r hq hr hqp
                    obtain ⟨v, hv⟩ : ∃ v, part[q] = v := ⟨_, rfl⟩
                    rw [hv] at hbb
                    have hgq : ∀ (h : q < ByteArray.size ⟨part.toArray⟩), (⟨part.toArray⟩ : ByteArray)[q]'h = v := fun _ => hv
                    have hv8 := bv8 v r
                    rw [← hbb] at hv8
                    replace hq := hid hq
                    replace hr := hid hr
                    replace hv := hid hv
                    cases hbt : bitB part a with
                    | true =>
                      rw [hbt] at hv8
                      have hv8 : bits BinOp.and IntKind.u8 ((v.toNat : Int) / 2 ^ r) 1 = 1 := hv8
                      have hR : Hid (readP m s = (0, [], 0, 3)) := hid (by rw [hPf.out, tailZ_false hq1 (by omega) hbt]; rfl)
                      replace hbt := hid hbt
                      replace hS8e := hid hS8e
                      clear hbb
                      go_wp2
                      exact bodyPost_ret (v := .tuple #[.int .i64 0, .slice none 0 0, .int .i64 0, .int .i64 3]) (by simp [results, Try.results39, go_sem]) rfl (by first | exact hnil.out 3 _ hbr hR.out | exact ⟨none, 0, rfl, Rd.nil _ _, hbr⟩)
                    | false =>
                      rw [hbt] at hv8
                      have hv8 : bits BinOp.and IntKind.u8 ((v.toNat : Int) / 2 ^ r) 1 = 0 := hv8
                      have hq4 : Hid (∀ t, D ≤ t → t < a + 1 → bitB part t = false) := hid (fun t h1 h2 => by
                        rcases Nat.lt_or_ge t a with h3 | h3
                        · exact hq3.out t h1 h3
                        · obtain rfl : t = a := by omega
                          exact hbt)
                      replace hbt := hid hbt
                      replace hS8e := hid hS8e
                      clear hbb
                      go_wp2
                      go_round
                      case rel => exact ⟨a + 1, by go_num, by omega, by have := hS8e.out; omega, hq4⟩
                      case measure => simp [intOf]; have := hS8e.out; omega
                  · have haI : ¬ (a : Int) < (S8 : Int) := by omega
                    have hqe : a = 8 * S := by omega
                    have hR : Hid (readP m s = (z, numsAt part z j, k + 1 + S, 0)) := hid (by
                      rw [hPf.out, tailZ_true (fun t h1 h2 => hq3.out t h1 (by omega)), if_pos rfl])
                    obtain ⟨kS, hkS2⟩ : ∃ kS, k + 1 + S = kS := ⟨_, rfl⟩
                    have hki2 : (k : Int) + 1 + (S : Int) = (kS : Int) := by omega
                    have hrd := Rd.of_own hown
                    replace hS8e := hid hS8e
                    replace hqe := hid hqe
                    replace hkS2 := hid hkS2
                    go_wp2
                    refine bodyPost_ret (v := .tuple #[.int .i64 (z : Int), .slice A2 j c2, .int .i64 (kS : Int), .int .i64 0]) (by simp [results, Try.results39, go_sem]) rfl ?_
                    try rw [hR.out]
                    exact ⟨A2, c2, by simp only [numsAt_length]; rw [hkS2.out]; rfl, hrd, hbr⟩
  · rw [if_pos (by simpa using he)] at hH
    have hR := hid (hbad er he hH)
    have heb : ((er : Int) != 0) = true := by simp; omega
    clear hbad hP hH
    replace hnil := hid hnil
    go_enter Try.func39, Try.ntmps39
    go_wp2_with (go_at_call 61; refine (refTake_l s n _ hn (by omega)).mono ?_; rintro e w1 ⟨rfl, rfl⟩; rw [ht.out]; unfold tup3)
    exact bodyPost_ret (v := .tuple #[.int .i64 0, .slice none 0 0, .int .i64 0, .int .i64 (er : Int)]) (by simp [results, Try.results39, go_sem]) rfl (hnil.out er _ (Below.refl _ _) hR.out)
end Go.Proofs.Ytgclakhcddadpaa
