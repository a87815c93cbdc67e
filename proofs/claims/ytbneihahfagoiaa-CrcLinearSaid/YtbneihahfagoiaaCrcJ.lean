/-
  THE WALK of CrcLinear.
-/
import Derived.Test.YtbneihahfagoiaaCrcH
import Derived.Test.YtbneihahfagoiaaFree
import Derived.StillTailTactics
namespace Go.Proofs.Ytbneihahfagoiaa
open Go.RowKit

theorem xl_length (a b : List UInt8) (n : Nat) (ha : a.length = n) (hb : b.length = n) : (xl a b).length = n := by
  unfold xl
  rw [List.length_zipWith]
  omega

/-- Linear: the sums of three rows and of the three laid over each other. -/
theorem sum_three (a b d : List UInt8) (n : Nat) (ha : a.length = n) (hb : b.length = n) (hd : d.length = n) : sum a ^^^ sum b ^^^ sum d = sum (xl (xl a b) d) := by
  have e1 := reg_xl (xl a b) d (ones ^^^ ones) ones (by rw [xl_length a b n ha hb, hd])
  have e2 := reg_xl a b ones ones (by rw [ha, hb])
  rw [e2] at e1
  rw [show ones ^^^ ones ^^^ ones = ones from by decide] at e1
  unfold sum more
  rw [show ~~~(0#32) = ones from by decide, e1]
  generalize reg ones a = x
  generalize reg ones b = y
  generalize reg ones d = t
  apply BitVec.eq_of_getLsbD_eq
  intro i hi
  simp only [BitVec.getLsbD_xor, BitVec.getLsbD_not, hi, decide_true, Bool.true_and]
  cases x.getLsbD i <;> cases y.getLsbD i <;> cases t.getLsbD i <;> rfl

theorem xl_get (a b d : List UInt8) (n i : Nat) (ha : n ≤ a.length) (hb : n ≤ b.length) (hd : n ≤ d.length) (hi : i < n) :
    (xl (xl (a.take n) (b.take n)) (d.take n))[i]? = some (a[i] ^^^ b[i] ^^^ d[i]) := by
  unfold xl
  rw [List.getElem?_zipWith, List.getElem?_zipWith, List.getElem?_take, List.getElem?_take, List.getElem?_take, if_pos hi, if_pos hi, if_pos hi,
    List.getElem?_eq_getElem (by omega), List.getElem?_eq_getElem (by omega), List.getElem?_eq_getElem (by omega)]

theorem run_min4 {P : Program} (w : World) (ts : Array TypeId) (t : TypeId) (x y z u : Int) (n : Int) (hn : n = min (min (min x y) z) u) :
    (Builtin.min_ ts t #[.int .i64 x, .int .i64 y, .int .i64 z, .int .i64 u]).run P w = .ok (.int .i64 n) w := by
  have e : ∀ a b : Int, (if b < a then b else a) = min a b := fun a b => by split <;> omega
  subst hn
  simp [Builtin.min_, Builtin.min2, e]

set_option maxHeartbeats 2000000 in
set_option maxRecDepth 100000 in
theorem linear_walk (A0 A1 A2 : Option Addr) (L0 L1 L2 c0 c1 c2 : Nat) (l0 l1 l2 : List UInt8) (w : World) (hL0 : l0.length = L0) (hL1 : l1.length = L1) (hL2 : l2.length = L2)
    (hr0 : Rd w A0 (cb l0)) (hr1 : Rd w A1 (cb l1)) (hr2 : Rd w A2 (cb l2)) (hc0 : L0 ≤ c0) (hc1 : L1 ≤ c1) (hc2 : L2 ≤ c2) (hm0 : c0 ≤ maxLen) (hm1 : c1 ≤ maxLen) (hm2 : c2 ≤ maxLen) :
    Calls Try.prog 6 #[.slice A0 L0 c0, .slice A1 L1 c1, .slice A2 L2 c2] w (Yes w) := by
  obtain ⟨i0, hi, hz0, hz1, hz2⟩ := info_parts info_u8
  unfold maxLen at hm0 hm1 hm2
  obtain ⟨n, hn, hn0, hn1, hn2, hn3⟩ : ∃ n, n = min (min (min L0 L1) L2) 2000 ∧ n ≤ L0 ∧ n ≤ L1 ∧ n ≤ L2 ∧ n ≤ 2000 := ⟨_, rfl, by omega, by omega, by omega, by omega⟩
  replace hL0 := hid hL0
  replace hL1 := hid hL1
  replace hL2 := hid hL2
  go_enter Try.func6, Try.ntmps6
  have hmin := run_min4 (P := Try.prog) w #[3, 3, 3, 3] 3 (L0 : Int) (L1 : Int) (L2 : Int) 2000 (n : Int) (by omega)
  clear hn
  go_wp2_with (at_make; refine wpList_mk _ rfl _ _ 22 rfl w.heap.size 5 i0 (.int .u8 0) Try.underlying22 hi hz0 hz1 rfl _ _ _ _ n rfl rfl rfl rfl (by rw [hz2]; omega) (by unfold maxLen; omega) (Nat.le_refl _) ?_; intro w1 hown1 hb1 hb1')
  clear hmin
  obtain ⟨X, hX⟩ : ∃ X, xl (xl (l0.take n) (l1.take n)) (l2.take n) = X := ⟨_, rfl⟩
  have hXl : X.length = n := by rw [← hX]; exact xl_length _ _ n (xl_length _ _ n (by rw [List.length_take, hL0.out]; omega) (by rw [List.length_take, hL1.out]; omega)) (by rw [List.length_take, hL2.out]; omega)
  have hXs : Hid (sum (l0.take n) ^^^ sum (l1.take n) ^^^ sum (l2.take n) = sum X) := hid (by rw [← hX]; exact sum_three _ _ _ n (by rw [List.length_take, hL0.out]; omega) (by rw [List.length_take, hL1.out]; omega) (by rw [List.length_take, hL2.out]; omega))
  replace hX := hid hX
  replace hXl := hid hXl
  rw [show List.replicate n (Value.int .u8 0) = cb (List.replicate n 0) from (cb_replicate n).symm] at hown1
  go_loopw [9] (fun i9 wr => ∃ (i : Nat) (cur : List UInt8), i9 = .int .i64 i ∧ i ≤ n ∧ Hid (cur.length = n ∧ ∀ j, j < i → cur[j]? = X[j]?) ∧ wr.ownsRow w.heap.size 5 1 (.slice (some ⟨w.heap.size, 0, none⟩) n n) n (cb cur) ∧ Below w.heap.size w wr) (fun i _ => n - (intOf i).toNat)
  case atStart => exact ⟨0, List.replicate n 0, rfl, by omega, hid ⟨by simp, fun j hj => by omega⟩, hown1, hb1⟩
  case round =>
    clear hown1 hb1 hb1'
    obtain ⟨i, cur, rfl, hin, hcur, hown, hb⟩ := hrel
    by_cases hlt : i < n
    · have hi0 : i < l0.length := by rw [hL0.out]; omega
      have hi1 : i < l1.length := by rw [hL1.out]; omega
      have hi2 : i < l2.length := by rw [hL2.out]; omega
      obtain ⟨b0, o0, rfl, _, hce0⟩ := (hr0.below hb) (by rw [cb_length]; omega)
      obtain ⟨b1, o1, rfl, _, hce1⟩ := (hr1.below hb) (by rw [cb_length]; omega)
      obtain ⟨b2, o2, rfl, _, hce2⟩ := (hr2.below hb) (by rw [cb_length]; omega)
      have h0 := hce0 i _ (cb_get l0 i hi0)
      have h1 := hce1 i _ (cb_get l1 i hi1)
      have h2 := hce2 i _ (cb_get l2 i hi2)
      have hxi : X[i]? = some (l0[i] ^^^ l1[i] ^^^ l2[i]) := by rw [← hX.out]; exact xl_get l0 l1 l2 n i (by rw [hL0.out]; exact hn0) (by rw [hL1.out]; exact hn1) (by rw [hL2.out]; exact hn2) hlt
      unfold u8c at h0 h1 h2
      have hx1 := u8_xor_c l0[i] l1[i]
      have hx2 := u8_xor_c (l0[i] ^^^ l1[i]) l2[i]
      generalize l0[i] ^^^ l1[i] ^^^ l2[i] = y at hxi hx2
      generalize l0[i] ^^^ l1[i] = y01 at hx1 hx2
      generalize l0[i] = u0 at *
      generalize l1[i] = u1 at *
      generalize l2[i] = u2 at *
      have hnx : Hid ((cur.set i y).length = n ∧ ∀ j, j < i + 1 → (cur.set i y)[j]? = X[j]?) := by
        obtain ⟨hc1, hc2⟩ := hcur.out
        refine hid ⟨by rw [List.length_set]; exact hc1, fun j hj => ?_⟩
        rw [List.getElem?_set]
        by_cases e : i = j
        · subst e
          rw [if_pos rfl, if_pos (by omega), hxi]
        · rw [if_neg e]
          exact hc2 j (by omega)
      have hfr := hown.frozenAt i
      have hil : i < cur.length := by have := hcur.out.1; omega
      have hco : wr.cell? ⟨w.heap.size, i, none⟩ = some (u8c cur[i]) := by rw [hown.cellAt i (by omega)]; exact cb_get _ _ hil
      unfold u8c at hco
      obtain ⟨hst1, _⟩ := (World.ownsRow.drew hown).stored i (u8c y)
      rw [cb_set] at hst1
      have hst2 := hb.drew.setCell (p := ⟨w.heap.size, i, none⟩) (Nat.le_refl _) (u8c y)
      clear hce0 hce1 hce2 hcur hown
      have hj0 : i < L0 := by omega
      have hj1 : i < L1 := by omega
      have hj2 : i < L2 := by omega
      go_wp2
      go_still_tail 17, (by kernel_rfl)
      change wpList _ _ _ _ _ wr.drew
      have hco2 : wr.drew.cell? ⟨w.heap.size, i, none⟩ = some (.int .u8 (cur[i].toNat : Int)) := hco
      have hfr2 : wr.drew.frozen? ⟨w.heap.size, i, none⟩ = false := hfr
      clear hfr hco h0 h1 h2 hb
      generalize wr.drew = w2 at *
      go_wp2
      go_roundw
      case rel => exact ⟨i + 1, cur.set i y, by go_num, by omega, hnx, hst1, hst2⟩
      case measure => simp [intOf]; omega
    · obtain rfl : i = n := by omega
      obtain rfl : cur = X := by
        obtain ⟨hc1, hc2⟩ := hcur.out
        apply List.ext_getElem?
        intro j
        by_cases hj : j < i
        · exact hc2 j hj
        · rw [List.getElem?_eq_none (by omega), List.getElem?_eq_none (by rw [hXl.out]; omega)]
      have hrX := Rd.of_own hown
      have hr0' : Rd wr A0 (cb (l0.take i)) := by rw [← cb_take]; exact (hr0.below hb).take i
      have hr1' : Rd wr A1 (cb (l1.take i)) := by rw [← cb_take]; exact (hr1.below hb).take i
      have hr2' : Rd wr A2 (cb (l2.take i)) := by rw [← cb_take]; exact (hr2.below hb).take i
      have hq0 : Hid ((l0.take i).length = i) := hid (by rw [List.length_take, hL0.out]; omega)
      have hq1 : Hid ((l1.take i).length = i) := hid (by rw [List.length_take, hL1.out]; omega)
      have hq2 : Hid ((l2.take i).length = i) := hid (by rw [List.length_take, hL2.out]; omega)
      have hsum := hXs.out
      have hownX := hown
      clear hXs hX hr0 hr1 hr2 hown hcur
      obtain ⟨t0, ht0⟩ : ∃ t, sum (l0.take i) = t := ⟨_, rfl⟩
      obtain ⟨t1, ht1⟩ : ∃ t, sum (l1.take i) = t := ⟨_, rfl⟩
      obtain ⟨t2, ht2⟩ : ∃ t, sum (l2.take i) = t := ⟨_, rfl⟩
      obtain ⟨t3, ht3⟩ : ∃ t, sum cur = t := ⟨_, rfl⟩
      rw [ht0, ht1, ht2, ht3] at hsum
      replace ht0 := hid ht0
      replace ht1 := hid ht1
      replace ht2 := hid ht2
      replace ht3 := hid ht3
      have hx1 : bits BinOp.xor IntKind.u32 (t0.toNat : Int) (t1.toNat : Int) = ((t0 ^^^ t1).toNat : Int) := by rw [u32_xor_nat _ _ t0.isLt t1.isLt, BitVec.toNat_xor]
      have hx2 : bits BinOp.xor IntKind.u32 ((t0 ^^^ t1).toNat : Int) (t2.toNat : Int) = (t3.toNat : Int) := by rw [u32_xor_nat _ _ (t0 ^^^ t1).isLt t2.isLt, ← BitVec.toNat_xor, hsum]
      have hx3 : bits BinOp.xor IntKind.u32 (t3.toNat : Int) (t3.toNat : Int) = 0 := by rw [u32_xor_nat _ _ t3.isLt t3.isLt, Nat.xor_self]; rfl
      clear hsum
      generalize t0 ^^^ t1 = t01 at hx1 hx2
      have hi0 : i ≤ c0 := by omega
      have hi1 : i ≤ c1 := by omega
      have hi2 : i ≤ c2 := by omega
      have hcap := hid (own_cap hownX)
      have hS0 : ∀ wx, Ext wr wx → Calls Try.prog 10 #[.slice A0 i c0] wx fun e w' => e = .returned (.int .u32 (t0.toNat : Int)) ∧ Below wx.heap.size wx w' :=
        fun wx hw => by rw [← ht0.out]; exact sum_any A0 i (l0.take i) c0 wx hq0.out (hr0'.below hw) (by omega)
      have hS1 : ∀ wx, Ext wr wx → Calls Try.prog 10 #[.slice A1 i c1] wx fun e w' => e = .returned (.int .u32 (t1.toNat : Int)) ∧ Below wx.heap.size wx w' :=
        fun wx hw => by rw [← ht1.out]; exact sum_any A1 i (l1.take i) c1 wx hq1.out (hr1'.below hw) (by omega)
      have hS2 : ∀ wx, Ext wr wx → Calls Try.prog 10 #[.slice A2 i c2] wx fun e w' => e = .returned (.int .u32 (t2.toNat : Int)) ∧ Below wx.heap.size wx w' :=
        fun wx hw => by rw [← ht2.out]; exact sum_any A2 i (l2.take i) c2 wx hq2.out (hr2'.below hw) (by omega)
      have hS3 : ∀ wx, Ext wr wx → Calls Try.prog 10 #[.slice (some ⟨w.heap.size, 0, none⟩) i i] wx fun e w' => e = .returned (.int .u32 (t3.toNat : Int)) ∧ Below wx.heap.size wx w' :=
        fun wx hw => by rw [← ht3.out]; exact sum_any _ i cur i wx hXl.out (hrX.below hw) (by omega)
      clear hr0' hr1' hr2' hrX hcap hownX
      go_wp2_with fail
      refine wp_region_free (by kernel_rfl) (by kernel_rfl) ?_
      repeat
        (refine walk_q ?_
         apply Exists.intro
         refine ⟨fun vs wx hw hd => ?_, ?_⟩
         rotate_left
         simp only [Act.put, Nat.reduceAdd, List.setIfInBounds_toArray, List.set_cons_succ, List.set_cons_zero]
         rotate_right
         focus
           (try simp [updE, Region.binds] at hd)
           go_simp
           try go_bits
           try (rw [if_pos (by omega)]; try go_simp; try go_bits)
           try (rw [if_neg (by omega)]; try go_simp; try go_bits)
           first
             | rfl
             | (go_at_call 10; (first | (with_reducible refine (hS0 _ hw).mono ?_) | (with_reducible refine (hS1 _ hw).mono ?_) | (with_reducible refine (hS2 _ hw).mono ?_) | (with_reducible refine (hS3 _ hw).mono ?_)); rintro e w3 ⟨rfl, hb3⟩; exact ⟨rfl, hb3⟩)
             | (go_at_call 9; refine (awake_any _).mono ?_; rintro e w3 ⟨rfl, hb3⟩; exact ⟨rfl, hb3⟩))
      refine walk_end ?_
      intro vs wx hw hv
      simp [AllE, updE] at hv
      simp only [hv]
      clear hv
      go_wp2_with fail
      go_ret
      exact ⟨rfl, hb.trans (hw.mono hb.size)⟩
end Go.Proofs.Ytbneihahfagoiaa
