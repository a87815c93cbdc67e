/-
  THE WALK of the document's own Bytes.
-/
import Derived.Test.YtgclakhcddadpaaPkDa
import Derived.StillTailTactics
namespace Go.Proofs.Ytgclakhcddadpaa
open Go.RowKit

theorem packF_skip (f : Nat → Bool) (n a : Nat) (h : f a = false) : packF (fun i => decide (i < a + 1) && f i) n = packF (fun i => decide (i < a) && f i) n := by
  refine packF_congr n fun i _ => ?_
  by_cases hi : i = a
  · subst hi; simp [h]
  · have e : decide (i < a + 1) = decide (i < a) := by
      by_cases h2 : i < a
      · simp [h2]; omega
      · simp [h2]; omega
    rw [e]

theorem shl_u8 (r : Nat) (h : r < 8) : IntKind.u8.wrap (2 ^ r) = ((UInt8.ofNat (2 ^ r)).toNat : Int) := by
  have hp : 2 ^ r < 256 := Nat.pow_lt_pow_right (a := 2) (by omega) h
  have e : (2 : Int) ^ r = ((2 ^ r : Nat) : Int) := by simp
  rw [e]
  generalize 2 ^ r = q at hp
  rw [IntKind.wrap_u8]
  simp only [UInt8.toNat_ofNat']
  omega

set_option maxRecDepth 100000 in
set_option maxHeartbeats 4000000 in
theorem refBytes_any (z : Nat) (A : Option Addr) (n : Nat) (l : List Nat) (c : Nat) (w : World) (hn : l.length = n) (hr : Rd w A (uk .u64 l)) (hl : n ≤ 100000) (hm : Hid (∀ x ∈ l, x < 18446744073709551616)) (hz : z ≤ 64) :
    Calls Try.prog 36 #[.int .i64 z, .slice A n c] w (ResS (packAll z l) w) := by
  obtain ⟨i0, hi, hz0, hz1, hz2⟩ := info_parts info_u8
  obtain ⟨D, hD⟩ : ∃ D, n * z = D := ⟨_, rfl⟩
  obtain ⟨S, hS⟩ : ∃ S, sizeP n z = S := ⟨_, rfl⟩
  have hD2 : D ≤ 6400000 := by rw [← hD]; exact Nat.le_trans (Nat.mul_le_mul hl hz) (by decide)
  have hS2 : (D + 7) / 8 = S := by rw [← hS, ← hD]; rfl
  have hDi : (n : Int) * (z : Int) = (D : Int) := by rw [← hD]; rfl
  have hSi : ((D : Int) + 7) / 8 = (S : Int) := by omega
  have hSt : ((D : Int) + 7).tdiv 8 = (S : Int) := by rw [Int.tdiv_eq_ediv_of_nonneg (by omega)]; exact hSi
  replace hn := hid hn
  replace hS := hid hS
  replace hD := hid hD
  go_enter Try.func36, Try.ntmps36
  go_wp2_with (at_make; refine wpList_mk _ rfl (.tmp 14) (.tmp 14) 23 rfl w.heap.size 5 i0 (.int .u8 0) Try.underlying23 hi hz0 hz1 rfl _ _ _ _ S rfl rfl rfl rfl (by rw [hz2]; omega) (by unfold maxLen; omega) (Nat.le_refl _) ?_; intro w3 hown hb1 hb2)
  have hDz := hid hD2
  have hDS : D ≤ 8 * S := by omega
  have hS6 : S ≤ 900000 := by omega
  clear hDi hSi hSt hD2 hS2
  go_loopw [6] (fun i wr => ∃ j p : Nat, i = .int .i64 j ∧ j ≤ n ∧ Hid (j * z = p) ∧ p ≤ D ∧
      wr.ownsRow w.heap.size 5 1 (.slice (some ⟨w.heap.size, 0, none⟩) S S) S (cb (packF (fun i => decide (i < p) && bitN z l i) S)) ∧ Below w.heap.size w wr) (fun i _ => n - (intOf i).toNat)
  case atStart =>
    refine ⟨0, 0, rfl, Nat.zero_le _, hid (by simp), Nat.zero_le _, ?_, hb1⟩
    have e : packF (fun i => decide (i < 0) && bitN z l i) S = List.replicate S 0 := by rw [← packF_zero]; exact packF_congr S (fun i _ => by simp)
    rw [e, cb_replicate]
    exact hown
  case round =>
    clear hown hb1 hb2
    obtain ⟨j, p, rfl, hj, hp, hpD, hown, hbr⟩ := hrel
    by_cases hlt : j < n
    · have hjl : j < l.length := by rw [hn.out]; exact hlt
      have hjI : (j : Int) < (n : Int) := by omega
      obtain ⟨b, o, rfl, hb, hc⟩ := hr (by rw [uk_length]; omega)
      have hce0 := hc j _ (uk_get .u64 l j hjl)
      have hxm := hm.out _ (List.getElem_mem hjl)
      have hbit := hid (fun k hk => bitN_at z l j k hk hjl)
      obtain ⟨x, hx⟩ : ∃ x, l[j] = x := ⟨_, rfl⟩
      rw [hx] at hce0 hxm hbit
      rw [hp.out] at hbit
      have hpz : p + z ≤ D := by
        have h1 : (j + 1) * z ≤ n * z := Nat.mul_le_mul_right z hlt
        rw [hD.out, Nat.succ_mul, hp.out] at h1
        exact h1
      have hpi : (j : Int) * (z : Int) = (p : Int) := by rw [← hp.out]; rfl
      replace hxm := hid hxm
      replace hx := hid hx
      clear hc
      go_wp2_with fail
      go_loopw [7] (fun i wr => ∃ k : Nat, i = .int .i64 k ∧ k ≤ z ∧
          wr.ownsRow w.heap.size 5 1 (.slice (some ⟨w.heap.size, 0, none⟩) S S) S (cb (packF (fun i => decide (i < p + k) && bitN z l i) S)) ∧ Below w.heap.size w wr) (fun i _ => z - (intOf i).toNat)
      case atStart => exact ⟨0, rfl, Nat.zero_le _, hown, hbr⟩
      case round =>
        clear hown hbr
        obtain ⟨k, rfl, hk, hown, hbr⟩ := hrel
        have hce1 := (hbr.cell (p := ⟨b, o + j, none⟩) hb).trans hce0
        by_cases hkz : k < z
        · obtain ⟨a, ha⟩ : ∃ a, p + k = a := ⟨_, rfl⟩
          have hbk := hbit.out k hkz
          rw [ha] at hown hbk
          have hai : (p : Int) + (k : Int) = (a : Int) := by omega
          have haS : a < 8 * S := by omega
          have ha9 : a ≤ 6400000 := by have := hDz.out; omega
          have hk64 : k < 64 := by omega
          have hkI : (k : Int) < (z : Int) := by omega
          obtain ⟨v, hv1, hv2, _, hv4⟩ := bitv x k 0 hxm.out (by omega)
          cases hbx : x.testBit k with
          | false =>
            rw [hbx] at hv4 hbk
            have hv0 : v = 0 := by rw [hv4]; rfl
            have hsk := packF_skip (bitN z l) S a hbk
            rw [hv0] at hv1
            have hvb : (((0 : Nat) : Int) == 1) = false := rfl
            have hsk := hid hsk
            replace ha := hid ha
            replace hbk := hid hbk
            replace hbx := hid hbx
            clear hv2 hv4 hv0
            go_wp2
            go_roundw
            case rel => exact ⟨k + 1, by go_num, by omega, by rw [← Nat.add_assoc, ha.out, hsk.out]; exact hown, hbr⟩
            case measure => simp [intOf]; omega
          | true =>
            rw [hbx] at hv4 hbk
            have hv0 : v = 1 := by rw [hv4]; rfl
            rw [hv0] at hv1
            obtain ⟨q, hq⟩ : ∃ q, a / 8 = q := ⟨_, rfl⟩
            obtain ⟨r, hr⟩ : ∃ r, a % 8 = r := ⟨_, rfl⟩
            have hqS : q < S := by omega
            have hr8 : r < 8 := by omega
            obtain ⟨cur, hcur⟩ : ∃ cur, packF (fun i => decide (i < a) && bitN z l i) S = cur := ⟨_, rfl⟩
            have hcl : cur.length = S := by rw [← hcur]; exact packF_length _ _
            have hqc : q < cur.length := by rw [hcl]; exact hqS
            have hst := packF_step (bitN z l) S a haS (by rw [hcur, hq]; exact hqc)
            simp only [hcur, hq, hr, hbk, if_true] at hst
            rw [hcur] at hown
            have hyv : (cb cur)[q]? = some (.int .u8 (cur[q].toNat : Int)) := by rw [cb_get _ _ hqc]; rfl
            have hqt : (a : Int).tdiv 8 = (q : Int) := by rw [Int.tdiv_eq_ediv_of_nonneg (by omega)]; omega
            have hrt : (a : Int).tmod 8 = (r : Int) := by rw [Int.tmod_eq_emod_of_nonneg (by omega)]; omega
            have hwq : IntKind.i64.wrap (q : Int) = (q : Int) := by rw [IntKind.wrap_i64]; omega
            have hwr : IntKind.i64.wrap (r : Int) = (r : Int) := by rw [IntKind.wrap_i64]; omega
            have hqI : (q : Int) < (S : Int) := by omega
            have hsh := shl_u8 r hr8
            generalize cur[q] = y at hst hyv
            have hor := u8_or_c y (UInt8.ofNat (2 ^ r))
            generalize UInt8.ofNat (2 ^ r) = bb at hst hsh hor
            generalize y ||| bb = y2 at hst hor
            have hce : wr.cell? ⟨w.heap.size, q, none⟩ = some (.int .u8 (y.toNat : Int)) := by rw [hown.cellAt q (by omega)]; exact hyv
            have hfr := hown.frozenAt q
            have hst := hid hst
            have hcur := hid hcur
            replace ha := hid ha
            replace hbk := hid hbk
            replace hbx := hid hbx
            replace hq := hid hq
            replace hr := hid hr
            replace hcl := hid hcl
            clear hv2 hv4 hv0 hqc
            go_wp2
            go_still_tail 12, (by kernel_rfl)
            change wpList _ _ _ _ _ wr.drew
            have hce2 : wr.drew.cell? ⟨w.heap.size, q, none⟩ = some (.int .u8 (y.toNat : Int)) := hce
            have hfr2 : wr.drew.frozen? ⟨w.heap.size, q, none⟩ = false := hfr
            obtain ⟨hst1, _⟩ := (World.ownsRow.drew hown).stored q (u8c y2)
            rw [cb_set, hst.out] at hst1
            have hst2 := hbr.drew.setCell (p := ⟨w.heap.size, q, none⟩) (Nat.le_refl _) (u8c y2)
            clear hown hce hfr hce1
            generalize wr.drew = w4 at *
            go_wp2
            go_roundw
            case rel => exact ⟨k + 1, by go_num, by omega, by rw [← Nat.add_assoc, ha.out]; exact hst1, hst2⟩
            case measure => simp [intOf]; omega
        · obtain rfl : k = z := by omega
          go_wp2
          go_roundw
          case rel => exact ⟨j + 1, p + k, by go_num, by omega, hid (by rw [Nat.succ_mul, hp.out]), hpz, hown, hbr⟩
          case measure => simp [intOf]; omega
    · obtain rfl : j = n := by omega
      have hpD2 : p = D := by rw [← hp.out, hD.out]
      subst hpD2
      have hpk : packF (fun i => decide (i < p) && bitN z l i) S = pack z l := by
        have h := pack_all z l
        rw [hn.out, hD.out, hS.out] at h
        exact h
      rw [hpk] at hown
      have rd4 := Rd.of_own hown
      have e8 : Hid (Value.int .u8 (z : Int) = u8c (UInt8.ofNat z)) := by refine hid ?_; unfold u8c; simp; omega
      have hw1 : IntKind.u64.wrap (j : Int) = (j : Int) := by rw [IntKind.wrap_u64]; omega
      have hw2 : IntKind.u8.wrap (z : Int) = (z : Int) := by rw [IntKind.wrap_u8]; omega
      have hpl : (pack z l).length = S := by rw [pack_length, hn.out, hS.out]
      have hN10 : (put j).length ≤ 10 := put_le10 j (by omega)
      have hadd1 : ∀ wx, (Op.stringOp .add ⟨(put j).toArray⟩ ⟨[UInt8.ofNat z].toArray⟩).run Try.prog wx = .ok (.string ⟨(put j ++ [UInt8.ofNat z]).toArray⟩) wx := run_add_lists (P := Try.prog) (put j) [UInt8.ofNat z] (by simp; omega)
      have hadd2 : ∀ wx, (Op.stringOp .add ⟨(put j ++ [UInt8.ofNat z]).toArray⟩ ⟨(pack z l).toArray⟩).run Try.prog wx = .ok (.string ⟨(packAll z l).toArray⟩) wx := fun wx => by
        have h := run_add_lists (P := Try.prog) (put j ++ [UInt8.ofNat z]) (pack z l) (by rw [List.length_append, hpl]; simp; omega) wx
        rw [h]
        simp [packAll, hn.out]
      have cw : ∀ wx, Ext wr wx → (convert 23 9 (.slice (some ⟨w.heap.size, 0, none⟩) S S)).run Try.prog wx = .ok (.string ⟨(pack z l).toArray⟩) wx :=
        fun wx hx => run_strn wx 23 9 5 Try.underlying23 Try.underlying5 Try.underlying9 _ S (pack z l) S hpl (rd4.below hx)
      have hj64 : Hid (j < 18446744073709551616) := hid (by omega)
      have hx0 : Ext wr wr := Ext.refl wr
      replace hpl := hid hpl
      clear hown hpk hN10
      go_wp2_with fail
      refine wp_region_free (by kernel_rfl) (by kernel_rfl) ?_
      (refine walk_q ?_
       apply Exists.intro
       refine ⟨fun vs wx hw hd => ?_, ?_⟩
       rotate_left
       simp only [Act.put, Nat.reduceAdd, List.setIfInBounds_toArray, List.set_cons_succ, List.set_cons_zero]
       rotate_right
       focus
         (try simp [updE, Region.binds] at hd)
         go_simp
         try go_bits
         try (rw [if_pos (by omega)]; try go_simp; try go_bits)
         try (rw [if_neg (by omega)]; try go_simp; try go_bits)
         first
           | rfl
           | (fail))
      (refine walk_q ?_
       apply Exists.intro
       refine ⟨fun vs wx hw hd => ?_, ?_⟩
       rotate_left
       simp only [Act.put, Nat.reduceAdd, List.setIfInBounds_toArray, List.set_cons_succ, List.set_cons_zero]
       rotate_right
       focus
         (try simp [updE, Region.binds] at hd)
         go_simp
         try go_bits
         try (rw [if_pos (by omega)]; try go_simp; try go_bits)
         try (rw [if_neg (by omega)]; try go_simp; try go_bits)
         first
           | rfl
           | (fail))
      (refine walk_q ?_
       apply Exists.intro
       refine ⟨fun vs wx hw hd => ?_, ?_⟩
       rotate_left
       simp only [Act.put, Nat.reduceAdd, List.setIfInBounds_toArray, List.set_cons_succ, List.set_cons_zero]
       rotate_right
       focus
         (try simp [updE, Region.binds] at hd)
         go_simp
         try go_bits
         try (rw [if_pos (by omega)]; try go_simp; try go_bits)
         try (rw [if_neg (by omega)]; try go_simp; try go_bits)
         first
           | rfl
           | (fail))
      (refine walk_q ?_
       apply Exists.intro
       refine ⟨fun vs wx hw hd => ?_, ?_⟩
       rotate_left
       simp only [Act.put, Nat.reduceAdd, List.setIfInBounds_toArray, List.set_cons_succ, List.set_cons_zero]
       rotate_right
       focus
         (try simp [updE, Region.binds] at hd)
         go_simp
         try go_bits
         try (rw [if_pos (by omega)]; try go_simp; try go_bits)
         try (rw [if_neg (by omega)]; try go_simp; try go_bits)
         first
           | rfl
           | (go_at_call 59; refine (refNum_any j _ hj64).mono ?_; rintro e w5 ⟨rfl, hb5⟩; exact ⟨rfl, hb5⟩))
      (refine walk_q ?_
       apply Exists.intro
       refine ⟨fun vs wx hw hd => ?_, ?_⟩
       rotate_left
       simp only [Act.put, Nat.reduceAdd, List.setIfInBounds_toArray, List.set_cons_succ, List.set_cons_zero]
       rotate_right
       focus
         (try simp [updE, Region.binds] at hd)
         go_simp
         try go_bits
         try (rw [if_pos (by omega)]; try go_simp; try go_bits)
         try (rw [if_neg (by omega)]; try go_simp; try go_bits)
         first
           | rfl
           | (fail))
      (refine walk_q ?_
       apply Exists.intro
       refine ⟨fun vs wx hw hd => ?_, ?_⟩
       rotate_left
       simp only [Act.put, Nat.reduceAdd, List.setIfInBounds_toArray, List.set_cons_succ, List.set_cons_zero]
       rotate_right
       focus
         (try simp [updE, Region.binds] at hd)
         go_simp
         try go_bits
         try (rw [if_pos (by omega)]; try go_simp; try go_bits)
         try (rw [if_neg (by omega)]; try go_simp; try go_bits)
         first
           | rfl
           | (fail))
      refine walk_r (SlS 1 [UInt8.ofNat z]) (slS_stable _ _) (fun vs wx hw hd => ?_) ?_
      · (try simp [updE, Region.binds] at hd)
        go_simp
        refine ⟨(Below.refl _ _).alloc (Nat.le_refl _) _, _, _, rfl, ?_⟩
        have h := Rd.one wx (.int .u8 (z : Int)) 5
        rw [e8.out] at h
        rw [e8.out]
        exact h
      simp only [Act.put, Nat.reduceAdd, List.setIfInBounds_toArray, List.set_cons_succ, List.set_cons_zero]
      refine walk_q ?_
      apply Exists.intro
      refine ⟨fun vs wx hw hd => ?_, ?_⟩
      rotate_left
      simp only [Act.put, Nat.reduceAdd, List.setIfInBounds_toArray, List.set_cons_succ, List.set_cons_zero]
      rotate_right
      · simp [updE, Region.binds] at hd
        have hcs := slS_conv (n := 1) (l := [UInt8.ofNat z]) rfl hd
        go_simp
        rfl
      repeat
        (refine walk_q ?_
         apply Exists.intro
         refine ⟨fun vs wx hw hd => ?_, ?_⟩
         rotate_left
         simp only [Act.put, Nat.reduceAdd, List.setIfInBounds_toArray, List.set_cons_succ, List.set_cons_zero]
         rotate_right
         focus
           (try simp [updE, Region.binds] at hd)
           go_simp
           try go_bits
           try (rw [if_pos (by omega)]; try go_simp; try go_bits)
           try (rw [if_neg (by omega)]; try go_simp; try go_bits)
           first
             | rfl
             | (fail))
      refine walk_end ?_
      intro vs wx hw hv
      simp [AllE, updE] at hv
      simp only [hv]
      clear hv
      go_wp2_with fail
      go_ret
      exact ⟨rfl, hbr.trans (Below.mono hw hbr.size)⟩
end Go.Proofs.Ytgclakhcddadpaa
