/-
  THE WALK of PackedSizes.
-/
import Derived.Test.YtgclakhcddadpaaPkO
import Derived.Test.YtgclakhcddadpaaPkB64
import Derived.Test.YtgclakhcddadpaaPkG64
import Derived.Test.YtgclakhcddadpaaPkM
namespace Go.Proofs.Ytgclakhcddadpaa
open Go.RowKit

theorem i64_mask (a : Int) (m : Nat) (hm : m < 9223372036854775808) : ∃ r : Nat, r ≤ m ∧ bits BinOp.and IntKind.i64 a (m : Int) = (r : Int) := by
  have h2 : (BitVec.ofInt 64 (m : Int)).toNat = m := by
    rw [BitVec.ofInt_natCast, BitVec.toNat_ofNat]; exact Nat.mod_eq_of_lt (by omega)
  refine ⟨(BitVec.ofInt 64 a).toNat &&& m, Nat.and_le_right, ?_⟩
  show IntKind.i64.wrap ((BitVec.ofInt 64 a &&& BitVec.ofInt 64 (m : Int)).toNat : Int) = _
  have hx : (BitVec.ofInt 64 a).toNat &&& m ≤ m := Nat.and_le_right
  rw [BitVec.toNat_and, h2, IntKind.wrap_i64]
  omega

theorem uk_append (k : IntKind) (a b : List Nat) : uk k (a ++ b) = uk k a ++ uk k b := by simp [uk]
theorem uk_zeros (k : IntKind) (n : Nat) : uk k (List.replicate n 0) = List.replicate n (.int k 0) := by simp [uk]
theorem mask_u64 (W : Nat) (h1 : 1 ≤ W) (h2 : W ≤ 64) : IntKind.u64.wrap (IntKind.u64.wrap (2 ^ W) - 1) = ((2 ^ W - 1 : Nat) : Int) := by
  have hp : 0 < 2 ^ W := Nat.pow_pos (by omega)
  have h64 : 2 ^ W ≤ 2 ^ 64 := Nat.pow_le_pow_right (by omega) h2
  have e : (2 : Int) ^ W = ((2 ^ W : Nat) : Int) := by simp
  rw [e]
  generalize 2 ^ W = q at hp h64
  rw [IntKind.wrap_u64, IntKind.wrap_u64]
  omega

/-- The i-th of the numbers. -/
def elS (W i : Nat) : Nat := (2 ^ W - 1) / 2 ^ (i % W)
def elsS (W n : Nat) : List Nat := (List.range n).map (elS W)
theorem elsS_length (W n : Nat) : (elsS W n).length = n := by simp [elsS]
theorem elsS_succ (W n : Nat) : elsS W (n + 1) = elsS W n ++ [elS W n] := by simp [elsS, List.range_succ]
theorem elsS_lt (W n : Nat) : ∀ x ∈ elsS W n, x < 2 ^ W := by
  intro x hx
  simp only [elsS, List.mem_map, List.mem_range] at hx
  obtain ⟨i, _, rfl⟩ := hx
  have hp : 0 < 2 ^ W := Nat.pow_pos (by omega)
  exact Nat.lt_of_le_of_lt (Nat.div_le_self _ _) (by omega)
theorem blen_full (W : Nat) : blen (2 ^ W - 1) = W := by
  have hp : 0 < 2 ^ W := Nat.pow_pos (by omega)
  apply Nat.le_antisymm
  · exact blen_le.2 (by omega)
  · rcases Nat.lt_or_ge (blen (2 ^ W - 1)) W with h | h
    · obtain ⟨p, rfl⟩ : ∃ p, W = p + 1 := ⟨W - 1, by omega⟩
      have h2 := blen_le.1 (show blen (2 ^ (p + 1) - 1) ≤ p by omega)
      rw [Nat.pow_succ] at h2 hp
      omega
    · exact h
theorem elS_zero (W : Nat) (h : 0 < W) : elS W 0 = 2 ^ W - 1 := by unfold elS; rw [Nat.zero_mod]; simp
theorem widthL_els (W n : Nat) (h : 0 < W) (hn : 0 < n) : widthL (elsS W n) = W := by
  apply Nat.le_antisymm
  · exact widthL_le.2 (elsS_lt W n)
  · rcases Nat.lt_or_ge (widthL (elsS W n)) W with h2 | h2
    · have h3 := widthL_le.1 (show widthL (elsS W n) ≤ W - 1 by omega) (elS W 0) (by simp [elsS]; exact ⟨0, hn, rfl⟩)
      rw [elS_zero W h] at h3
      have := blen_le.2 h3
      rw [blen_full] at this
      omega
    · exact h2

set_option maxHeartbeats 4000000 in
set_option maxRecDepth 100000 in
theorem sizes_walk (z1 z2 : Int) (w : World) :
    Calls Try.prog 7 #[.int .i64 z1, .int .i64 z2] w (Yes w) := by
  obtain ⟨i0, hi, hz0, hz1, hz2⟩ := info_parts info64
  obtain ⟨r1, hr1, hb1⟩ := i64_mask z1 63 (by omega)
  obtain ⟨r2, hr2, hb2⟩ := i64_mask z2 65535 (by omega)
  have hb1 : bits BinOp.and IntKind.i64 z1 63 = (r1 : Int) := hb1
  have hb2 : bits BinOp.and IntKind.i64 z2 65535 = (r2 : Int) := hb2
  obtain ⟨W, hW⟩ : ∃ W, r1 + 1 = W := ⟨_, rfl⟩
  obtain ⟨n, hn⟩ : ∃ n, r2 % 3000 = n := ⟨_, rfl⟩
  have hWi : (r1 : Int) + 1 = (W : Int) := by omega
  have hni : (r2 : Int) % 3000 = (n : Int) := by omega
  have hnt : (r2 : Int).tmod 3000 = (n : Int) := by rw [Int.tmod_eq_emod_of_nonneg (by omega)]; exact hni
  have hW64 : W ≤ 64 := by omega
  have hW1 : 1 ≤ W := by omega
  have hn3 : n < 3000 := by omega
  replace hW := hid hW
  replace hn := hid hn
  go_enter Try.func7, Try.ntmps7
  go_wp2_with (at_make; refine wpList_mk _ rfl (.tmp 18) (.tmp 18) 28 rfl w.heap.size 30 i0 (.int .u64 0) Try.underlying28 hi hz0 hz1 rfl _ _ _ _ n rfl rfl rfl rfl (by rw [hz2]; omega) (by unfold maxLen; omega) (Nat.le_refl _) ?_; intro w3 hown hbm1 hbm2)
  go_loopw [22] (fun i wr => ∃ j : Nat, i = .int .i64 j ∧ j ≤ n ∧ wr.ownsRow w.heap.size 30 1 (.slice (some ⟨w.heap.size, 0, none⟩) n n) n (uk .u64 (elsS W j ++ List.replicate (n - j) 0)) ∧ Below w.heap.size w wr) (fun i _ => n - (intOf i).toNat)
  case atStart => exact ⟨0, rfl, Nat.zero_le _, by simpa [elsS, uk] using hown, hbm1⟩
  case round =>
    clear hown hbm1 hbm2
    obtain ⟨j, rfl, hj, hown, hb⟩ := hrel
    by_cases hlt : j < n
    · have hjI : (j : Int) < (n : Int) := by omega
      obtain ⟨m, hm⟩ : ∃ m, j % W = m := ⟨_, rfl⟩
      have hmW : m < W := by rw [← hm]; exact Nat.mod_lt _ (by omega)
      have hmt : (j : Int).tmod (W : Int) = (m : Int) := by rw [Int.tmod_eq_emod_of_nonneg (by omega), ← Int.natCast_emod, hm]
      have hwm : IntKind.i64.wrap (m : Int) = (m : Int) := by rw [IntKind.wrap_i64]; omega
      have hce : wr.cell? ⟨w.heap.size, j, none⟩ = some (.int .u64 0) := by
        rw [hown.cellAt j (by omega), uk_append, List.getElem?_append_right (by rw [uk_length, elsS_length]; exact Nat.le_refl _), uk_length, elsS_length, Nat.sub_self, uk_zeros, List.getElem?_replicate, if_pos (by omega)]
      have hfr := hown.frozenAt j
      have hW0 : ¬ W = 0 := by omega
      have hWb : ((W : Int) == 0) = false := by rw [beq_eq_false_iff_ne]; omega
      have hMM := mask_u64 W hW1 hW64
      have hMl : 2 ^ W - 1 < 18446744073709551616 := by
        have h64 : 2 ^ W ≤ 2 ^ 64 := Nat.pow_le_pow_right (by omega) hW64
        have hp : 0 < 2 ^ W := Nat.pow_pos (by omega)
        omega
      have hel : ((2 ^ W - 1 : Nat) : Int) / 2 ^ m = (elS W j : Int) := by
        unfold elS
        rw [hm, Int.natCast_ediv]
        simp
      obtain ⟨el, hee⟩ : ∃ el, elS W j = el := ⟨_, rfl⟩
      rw [hee] at hel
      obtain ⟨M, hM⟩ : ∃ M, 2 ^ W - 1 = M := ⟨_, rfl⟩
      rw [hM] at hMM hel hMl
      have hm64 : m < 64 := by omega
      replace hM := hid hM
      replace hMl := hid hMl
      replace hee := hid hee
      replace hm := hid hm
      go_wp2
      go_still_tail 9, (by kernel_rfl)
      change wpList _ _ _ _ _ wr.drew
      have hce2 : wr.drew.cell? ⟨w.heap.size, j, none⟩ = some (.int .u64 0) := hce
      have hfr2 : wr.drew.frozen? ⟨w.heap.size, j, none⟩ = false := hfr
      obtain ⟨hst1, _⟩ := (World.ownsRow.drew hown).stored j (.int .u64 (el : Int))
      have hset : (uk .u64 (elsS W j ++ List.replicate (n - j) 0)).set j (.int .u64 (el : Int)) = uk .u64 (elsS W (j + 1) ++ List.replicate (n - (j + 1)) 0) := by
        rw [elsS_succ, hee.out, show n - j = (n - (j + 1)) + 1 from by omega, List.replicate_succ, uk_append, List.set_append_right _ _ (by rw [uk_length, elsS_length]; exact Nat.le_refl _), uk_length, elsS_length, Nat.sub_self]
        simp [uk]
      rw [hset] at hst1
      have hst2 := hb.drew.setCell (p := ⟨w.heap.size, j, none⟩) (Nat.le_refl _) (.int .u64 (el : Int))
      clear hown hce hfr hset
      generalize wr.drew = w4 at *
      go_wp2
      go_roundw
      case rel => exact ⟨j + 1, by go_num, by omega, hst1, hst2⟩
      case measure => simp [intOf]; omega
    · obtain rfl : j = n := by omega
      have hl0 : elsS W j ++ List.replicate (j - j) 0 = elsS W j := by simp
      rw [hl0] at hown
      obtain ⟨l, hl⟩ : ∃ l, elsS W j = l := ⟨_, rfl⟩
      have hll : l.length = j := by rw [← hl]; exact elsS_length W j
      have hlt2 : Hid (∀ x ∈ l, x < 2 ^ W) := hid (by rw [← hl]; exact elsS_lt W j)
      have hm : Hid (∀ x ∈ l, x < 18446744073709551616) := hid (fun x hx => by
        have h64 : 2 ^ W ≤ 2 ^ 64 := Nat.pow_le_pow_right (by omega) hW64
        have := hlt2.out x hx
        omega)
      have hwl : Hid (widthL l ≤ W) := hid (widthL_le.2 hlt2.out)
      have hwp : Hid (0 < j → widthL l = W) := hid (fun h => by rw [← hl]; exact widthL_els W j hW1 h)
      have hg0 : Hid (0 < j → getN64 l 0 = 2 ^ W - 1) := hid (fun h => by
        have h2 := getN64_in l 0 (by rw [hll]; exact h)
        have h3 : l[0]'(by rw [hll]; exact h) = 2 ^ W - 1 := by subst hl; simp [elsS, elS_zero W hW1]
        rw [← h3]; exact h2)
      rw [hl] at hown
      have hr := Rd.of_own hown
      have hA : Hid ((some ⟨w.heap.size, 0, none⟩ : Option Addr) = none → l = []) := hid (fun h => by cases h)
      obtain ⟨D, hD⟩ : ∃ D, j * W = D := ⟨_, rfl⟩
      obtain ⟨S, hS⟩ : ∃ S, sizeP j W = S := ⟨_, rfl⟩
      have hD2 : D ≤ 192000 := by rw [← hD]; exact Nat.le_trans (Nat.mul_le_mul (show j ≤ 3000 by omega) hW64) (by decide)
      have hS2 : (D + 7) / 8 = S := by rw [← hS, ← hD]; rfl
      have hDi : (j : Int) * (W : Int) = (D : Int) := by rw [← hD]; rfl
      have hSi : ((D : Int) + 7) / 8 = (S : Int) := by omega
      obtain ⟨N, hN⟩ : ∃ N, (put j).length = N := ⟨_, rfl⟩
      have hN2 : N ≤ 2 := by rw [← hN]; exact put_le 1 j (by omega)
      have hN1 : 1 ≤ N := by rw [← hN]; exact put_pos j
      obtain ⟨T, hT⟩ : ∃ T, (packAll W l).length = T := ⟨_, rfl⟩
      have hTT : T = N + 1 + S := by rw [← hT, packAll_length, hll, hN, hS]
      have hp1 : ∀ g wx, (binOp BinOp.eql 33 (.pointer (some ⟨g, 0, none⟩)) (.pointer none)).run Try.prog wx = .ok (.bool false) wx := fun g wx => by rfl
      have hp2 : ∀ wx, (binOp BinOp.eql 33 (.pointer none) (.pointer none)).run Try.prog wx = .ok (.bool true) wx := fun wx => by rfl
      obtain ⟨K, hKN⟩ : ∃ K, N + 1 = K := ⟨_, rfl⟩
      have hk : (T : Int) - (S : Int) = (K : Int) := by omega
      have hK2 : decide ((2 : Int) ≤ (K : Int)) = true := decide_eq_true (by omega)
      have hK4 : decide ((K : Int) ≤ 4) = true := decide_eq_true (by omega)
      have hK2n : 2 ≤ K := by omega
      have hK4n : K ≤ 4 := by omega
      replace hKN := hid hKN
      replace hTT := hid hTT
      replace hl := hid hl
      replace hll := hid hll
      replace hS := hid hS
      replace hD := hid hD
      replace hN := hid hN
      replace hT := hid hT
      have hWm : (W : Int) - 1 = ((W - 1 : Nat) : Int) := by omega
      obtain ⟨V, hV⟩ : ∃ V, W - 1 = V := ⟨_, rfl⟩
      rw [hV] at hWm
      have hV2 : W = V + 1 := by omega
      replace hV := hid hV
      replace hV2 := hid hV2
      clear hown hl0
      go_wp2_with fail
      refine (newOk64 W _ j l j _ hll.out hr hA.out (by omega) hm hW64 hwl.out).mono ?_
      rintro e w1 ⟨g1, rfl, hg1, hv1, hb1⟩
      go_wp2_with fail
      refine (bytes64 g1 W j l _ hv1 hW64 hll.out (by omega) hm).mono ?_
      rintro e w2 ⟨A2, c2, rfl, hown2, hb2⟩
      rw [hT.out] at hown2 ⊢
      have hv2 := hv1.below hb2
      have hr2 := (hr.below hb1).below hb2
      have hbw2 := (hb.trans (hb1.mono hb.size)).trans (hb2.mono (hb.trans (hb1.mono hb.size)).size)
      rcases Nat.eq_zero_or_pos j with h0 | h0
      · have h0b : ((j : Int) == 0) = true := by rw [h0]; rfl
        have hVl : Hid (widthL l ≤ V) := hid (by
          have : l = [] := List.eq_nil_of_length_eq_zero (by rw [hll.out]; exact h0)
          rw [this, widthL_nil]; omega)
        have hV64 : V ≤ 64 := by have := hV2.out; omega
        replace h0 := hid h0
        go_wp2_with fail
        refine (newOk64 V _ j l j _ hll.out hr2 hA.out (by omega) hm hV64 hVl.out).mono ?_
        rintro e w3 ⟨g3, rfl, hg3, hv3, hb3⟩
        go_wp2_with fail
        have hx0 : Ext w3 w3 := Ext.refl w3
        have hv3' := hv2.below hb3
        have hbw3 := hbw2.trans (hb3.mono hbw2.size)
        have c1 : ∀ wx, Ext w3 wx → Calls Try.prog 22 #[.pointer (some ⟨g1, 0, none⟩), .int .i64 (-1)] wx fun e w' => e = .returned (.int .u64 0) ∧ wx = w' := fun wx hx => by
          have h := get64 g1 W j l (-1) wx (hv3'.below hx) hll.out (by omega)
          rwa [getN64_out l (-1) (.inl (by omega))] at h
        have c2' : ∀ wx, Ext w3 wx → Calls Try.prog 22 #[.pointer (some ⟨g1, 0, none⟩), .int .i64 (j : Int)] wx fun e w' => e = .returned (.int .u64 0) ∧ wx = w' := fun wx hx => by
          have h := get64 g1 W j l (j : Int) wx (hv3'.below hx) hll.out (by omega)
          rwa [getN64_out l (j : Int) (.inr (by rw [hll.out]; omega))] at h
        refine wp_region_free (by kernel_rfl) (by kernel_rfl) ?_
        repeat
          (first
             | (refine walk_q ?_
                apply Exists.intro
                refine ⟨fun vs wx hw hd => ?_, ?_⟩
                rotate_left
                simp only [Act.put, Nat.reduceAdd, List.setIfInBounds_toArray, List.set_cons_succ, List.set_cons_zero]
                rotate_right
                focus
                  (try simp [updE, Region.binds] at hd)
                  go_simp
                  try go_bits
                  try (rw [if_pos (by omega)]; try go_simp; try go_bits)
                  try (rw [if_neg (by omega)]; try go_simp; try go_bits)
                  first
                    | rfl
                    | (go_at_call 22; (first | (with_reducible refine (c1 _ hw).mono ?_) | (with_reducible refine (c2' _ hw).mono ?_)); rintro e w5 ⟨rfl, rfl⟩; exact ⟨rfl, Below.refl _ _⟩)
                    | (go_at_call 11; refine (awake_any _).mono ?_; rintro e w5 ⟨rfl, hb5⟩; exact ⟨rfl, hb5⟩))
             | (refine walk_no (fun vs wx hw hd => ?_) ?_
                rotate_left
                simp only [Act.put, Nat.reduceAdd, List.setIfInBounds_toArray, List.set_cons_succ, List.set_cons_zero]
                rotate_right
                focus
                  (try simp [updE, Region.binds] at hd)
                  first | rfl | (go_simp; done) | (go_simp; rfl) | (go_simp; intro hz; cases hz)))
        refine walk_end ?_
        intro vs wx hw hv
        simp [AllE, updE] at hv
        simp only [hv]
        clear hv
        go_wp2_with fail
        go_ret
        exact ⟨rfl, hbw3.trans (Below.mono hw hbw3.size)⟩
      · have h0b : ((j : Int) == 0) = false := by rw [beq_eq_false_iff_ne]; omega
        have hVl : Hid ((V : Int) < (widthL l : Int)) := hid (by rw [hwp.out h0]; have := hV2.out; omega)
        go_wp2_with fail
        refine (newArg64 (V : Int) _ j l j _ hll.out hr2 (by omega) hm (.inr (.inr hVl.out))).mono ?_
        rintro e w3 ⟨rfl, rfl⟩
        go_wp2_with fail
        have hx0 : Ext w2 w2 := Ext.refl w2
        have hMM := mask_u64 W hW1 hW64
        have hgg := hg0.out h0
        obtain ⟨M, hM⟩ : ∃ M, 2 ^ W - 1 = M := ⟨_, rfl⟩
        rw [hM] at hMM hgg
        replace hM := hid hM
        have c0 : ∀ wx, Ext w2 wx → Calls Try.prog 22 #[.pointer (some ⟨g1, 0, none⟩), .int .i64 0] wx fun e w' => e = .returned (.int .u64 (M : Int)) ∧ wx = w' := fun wx hx => by
          have h := get64 g1 W j l 0 wx (hv2.below hx) hll.out (by omega)
          rwa [hgg] at h
        have c1 : ∀ wx, Ext w2 wx → Calls Try.prog 22 #[.pointer (some ⟨g1, 0, none⟩), .int .i64 (-1)] wx fun e w' => e = .returned (.int .u64 0) ∧ wx = w' := fun wx hx => by
          have h := get64 g1 W j l (-1) wx (hv2.below hx) hll.out (by omega)
          rwa [getN64_out l (-1) (.inl (by omega))] at h
        have c2' : ∀ wx, Ext w2 wx → Calls Try.prog 22 #[.pointer (some ⟨g1, 0, none⟩), .int .i64 (j : Int)] wx fun e w' => e = .returned (.int .u64 0) ∧ wx = w' := fun wx hx => by
          have h := get64 g1 W j l (j : Int) wx (hv2.below hx) hll.out (by omega)
          rwa [getN64_out l (j : Int) (.inr (by rw [hll.out]; omega))] at h
        clear hgg
        refine wp_region_free (by kernel_rfl) (by kernel_rfl) ?_
        repeat
          (first
             | (refine walk_q ?_
                apply Exists.intro
                refine ⟨fun vs wx hw hd => ?_, ?_⟩
                rotate_left
                simp only [Act.put, Nat.reduceAdd, List.setIfInBounds_toArray, List.set_cons_succ, List.set_cons_zero]
                rotate_right
                focus
                  (try simp [updE, Region.binds] at hd)
                  go_simp
                  try go_bits
                  try (rw [if_pos (by omega)]; try go_simp; try go_bits)
                  try (rw [if_neg (by omega)]; try go_simp; try go_bits)
                  first
                    | rfl
                    | (go_at_call 22; (first | (with_reducible refine (c0 _ hw).mono ?_) | (with_reducible refine (c1 _ hw).mono ?_) | (with_reducible refine (c2' _ hw).mono ?_)); rintro e w5 ⟨rfl, rfl⟩; exact ⟨rfl, Below.refl _ _⟩)
                    | (go_at_call 11; refine (awake_any _).mono ?_; rintro e w5 ⟨rfl, hb5⟩; exact ⟨rfl, hb5⟩))
             | (refine walk_no (fun vs wx hw hd => ?_) ?_
                rotate_left
                simp only [Act.put, Nat.reduceAdd, List.setIfInBounds_toArray, List.set_cons_succ, List.set_cons_zero]
                rotate_right
                focus
                  (try simp [updE, Region.binds] at hd)
                  first | rfl | (go_simp; done) | (go_simp; rfl) | (go_simp; intro hz; cases hz)))
        refine walk_end ?_
        intro vs wx hw hv
        simp [AllE, updE] at hv
        simp only [hv]
        clear hv
        go_wp2_with fail
        go_ret
        exact ⟨rfl, hbw2.trans (Below.mono hw hbw2.size)⟩
end Go.Proofs.Ytgclakhcddadpaa
