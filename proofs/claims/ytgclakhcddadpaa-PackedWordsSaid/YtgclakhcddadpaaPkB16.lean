/-
  THE WALK at uint16: Bytes.
-/
import Derived.Test.YtgclakhcddadpaaPkA16
import Derived.StillTailTactics
namespace Go.Proofs.Ytgclakhcddadpaa
open Go.RowKit

set_option maxRecDepth 100000 in
set_option maxHeartbeats 4000000 in
theorem bytes16 (g z n : Nat) (l : List Nat) (w : World) (hv : VecAt 86 .u16 g z l w) (hz : z ≤ 64) (hn : l.length = n) (hl : n ≤ 100000) (hm : Hid (∀ x ∈ l, x < 65536)) :
    Calls Try.prog 19 #[.pointer (some ⟨g, 0, none⟩)] w (Res 5 (packAll z l).length (cb (packAll z l)) w) := by
  obtain ⟨i0, hi, hz0, hz1, hz2⟩ := info_parts info_u8
  have hgl := hv.lt
  obtain ⟨A, c, h1, h2, h3, h4, h5⟩ := hv
  obtain ⟨c0, c1⟩ := vec_cells h1
  rw [hn] at c1
  obtain ⟨N, hN⟩ : ∃ N, (put n).length = N := ⟨_, rfl⟩
  have hN10 : N ≤ 10 := by rw [← hN]; exact put_le10 n (by omega)
  have hN1 : 1 ≤ N := by rw [← hN]; exact put_pos n
  have e8 : Hid (Value.int .u8 (z : Int) = u8c (UInt8.ofNat z)) := by refine hid ?_; unfold u8c; simp; omega
  have q0 : ∀ wx, Ext w wx → wx.cell? ⟨g, 0, none⟩ = some (.int .i64 (z : Int)) := fun wx hx => (hx.cell (p := ⟨g, 0, none⟩) hgl).trans c0
  have q1 : ∀ wx, Ext w wx → wx.cell? ⟨g, 1, none⟩ = some (.slice A n c) := fun wx hx => (hx.cell (p := ⟨g, 1, none⟩) hgl).trans c1
  have hw1 : IntKind.u64.wrap (n : Int) = (n : Int) := by rw [IntKind.wrap_u64]; omega
  have hw2 : IntKind.u8.wrap (z : Int) = (z : Int) := by rw [IntKind.wrap_u8]; omega
  have hput : ∀ wx, Ext w wx → Calls Try.prog 51 #[.slice none 0 0, .int .u64 n] wx (ResC 5 N (cb (put n)) wx) := fun wx hx => by
    have h := put_any none [] 0 n wx (Rd.nil _ _) (fun _ => rfl) (by simp) (hid (by omega))
    rw [List.nil_append, hN] at h
    exact h
  have hx0 : Ext w w := Ext.refl w
  replace hn := hid hn
  replace hN := hid hN
  clear h1
  go_enter Try.func19, Try.ntmps19
  go_wp2_with fail
  refine wp_region_free (by kernel_rfl) (by kernel_rfl) ?_
  (refine walk_q ?_
   apply Exists.intro
   refine ⟨fun vs wx hw hd => ?_, ?_⟩
   rotate_left
   simp only [Act.put, Nat.reduceAdd, List.setIfInBounds_toArray, List.set_cons_succ, List.set_cons_zero]
   rotate_right
   focus
     (try simp [updE, Region.binds] at hd)
     go_simp
     try go_bits
     try (rw [if_pos (by omega)]; try go_simp; try go_bits)
     try (rw [if_neg (by omega)]; try go_simp; try go_bits)
     first
       | rfl
       | (fail))
  (refine walk_q ?_
   apply Exists.intro
   refine ⟨fun vs wx hw hd => ?_, ?_⟩
   rotate_left
   simp only [Act.put, Nat.reduceAdd, List.setIfInBounds_toArray, List.set_cons_succ, List.set_cons_zero]
   rotate_right
   focus
     (try simp [updE, Region.binds] at hd)
     go_simp
     try go_bits
     try (rw [if_pos (by omega)]; try go_simp; try go_bits)
     try (rw [if_neg (by omega)]; try go_simp; try go_bits)
     first
       | rfl
       | (fail))
  (refine walk_q ?_
   apply Exists.intro
   refine ⟨fun vs wx hw hd => ?_, ?_⟩
   rotate_left
   simp only [Act.put, Nat.reduceAdd, List.setIfInBounds_toArray, List.set_cons_succ, List.set_cons_zero]
   rotate_right
   focus
     (try simp [updE, Region.binds] at hd)
     go_simp
     try go_bits
     try (rw [if_pos (by omega)]; try go_simp; try go_bits)
     try (rw [if_neg (by omega)]; try go_simp; try go_bits)
     first
       | rfl
       | (fail))
  (refine walk_q ?_
   apply Exists.intro
   refine ⟨fun vs wx hw hd => ?_, ?_⟩
   rotate_left
   simp only [Act.put, Nat.reduceAdd, List.setIfInBounds_toArray, List.set_cons_succ, List.set_cons_zero]
   rotate_right
   focus
     (try simp [updE, Region.binds] at hd)
     go_simp
     try go_bits
     try (rw [if_pos (by omega)]; try go_simp; try go_bits)
     try (rw [if_neg (by omega)]; try go_simp; try go_bits)
     first
       | rfl
       | (fail))
  (refine walk_q ?_
   apply Exists.intro
   refine ⟨fun vs wx hw hd => ?_, ?_⟩
   rotate_left
   simp only [Act.put, Nat.reduceAdd, List.setIfInBounds_toArray, List.set_cons_succ, List.set_cons_zero]
   rotate_right
   focus
     (try simp [updE, Region.binds] at hd)
     go_simp
     try go_bits
     try (rw [if_pos (by omega)]; try go_simp; try go_bits)
     try (rw [if_neg (by omega)]; try go_simp; try go_bits)
     first
       | rfl
       | (fail))
  (refine walk_q ?_
   apply Exists.intro
   refine ⟨fun vs wx hw hd => ?_, ?_⟩
   rotate_left
   simp only [Act.put, Nat.reduceAdd, List.setIfInBounds_toArray, List.set_cons_succ, List.set_cons_zero]
   rotate_right
   focus
     (try simp [updE, Region.binds] at hd)
     go_simp
     try go_bits
     try (rw [if_pos (by omega)]; try go_simp; try go_bits)
     try (rw [if_neg (by omega)]; try go_simp; try go_bits)
     first
       | rfl
       | (fail))
  refine walk_r (SlC N (put n)) (slC_stable _ _) (fun vs wx hw hd => ?_) ?_
  · (try simp [updE, Region.binds] at hd)
    go_simp
    refine (hput wx hw).mono ?_
    rintro e w4 ⟨A4, c4, rfl, hown4, hb4⟩
    refine ⟨_, rfl, hb4, A4, rfl, Rd.of_own hown4, fun h => ?_⟩
    obtain ⟨g4, hg4, _⟩ := own_addr hown4 (by omega)
    rw [h] at hg4; cases hg4
  simp only [Act.put, Nat.reduceAdd, List.setIfInBounds_toArray, List.set_cons_succ, List.set_cons_zero]
  (refine walk_q ?_
   apply Exists.intro
   refine ⟨fun vs wx hw hd => ?_, ?_⟩
   rotate_left
   simp only [Act.put, Nat.reduceAdd, List.setIfInBounds_toArray, List.set_cons_succ, List.set_cons_zero]
   rotate_right
   focus
     (try simp [updE, Region.binds] at hd)
     go_simp
     try go_bits
     try (rw [if_pos (by omega)]; try go_simp; try go_bits)
     try (rw [if_neg (by omega)]; try go_simp; try go_bits)
     first
       | rfl
       | (fail))
  (refine walk_q ?_
   apply Exists.intro
   refine ⟨fun vs wx hw hd => ?_, ?_⟩
   rotate_left
   simp only [Act.put, Nat.reduceAdd, List.setIfInBounds_toArray, List.set_cons_succ, List.set_cons_zero]
   rotate_right
   focus
     (try simp [updE, Region.binds] at hd)
     go_simp
     try go_bits
     try (rw [if_pos (by omega)]; try go_simp; try go_bits)
     try (rw [if_neg (by omega)]; try go_simp; try go_bits)
     first
       | rfl
       | (fail))
  (refine walk_q ?_
   apply Exists.intro
   refine ⟨fun vs wx hw hd => ?_, ?_⟩
   rotate_left
   simp only [Act.put, Nat.reduceAdd, List.setIfInBounds_toArray, List.set_cons_succ, List.set_cons_zero]
   rotate_right
   focus
     (try simp [updE, Region.binds] at hd)
     go_simp
     try go_bits
     try (rw [if_pos (by omega)]; try go_simp; try go_bits)
     try (rw [if_neg (by omega)]; try go_simp; try go_bits)
     first
       | rfl
       | (fail))
  (refine walk_q ?_
   apply Exists.intro
   refine ⟨fun vs wx hw hd => ?_, ?_⟩
   rotate_left
   simp only [Act.put, Nat.reduceAdd, List.setIfInBounds_toArray, List.set_cons_succ, List.set_cons_zero]
   rotate_right
   focus
     (try simp [updE, Region.binds] at hd)
     go_simp
     try go_bits
     try (rw [if_pos (by omega)]; try go_simp; try go_bits)
     try (rw [if_neg (by omega)]; try go_simp; try go_bits)
     first
       | rfl
       | (fail))
  (refine walk_q ?_
   apply Exists.intro
   refine ⟨fun vs wx hw hd => ?_, ?_⟩
   rotate_left
   simp only [Act.put, Nat.reduceAdd, List.setIfInBounds_toArray, List.set_cons_succ, List.set_cons_zero]
   rotate_right
   focus
     (try simp [updE, Region.binds] at hd)
     go_simp
     try go_bits
     try (rw [if_pos (by omega)]; try go_simp; try go_bits)
     try (rw [if_neg (by omega)]; try go_simp; try go_bits)
     first
       | rfl
       | (fail))
  refine walk_r (SlS 1 [UInt8.ofNat z]) (slS_stable _ _) (fun vs wx hw hd => ?_) ?_
  · (try simp [updE, Region.binds] at hd)
    go_simp
    refine ⟨(Below.refl _ _).alloc (Nat.le_refl _) _, _, _, rfl, ?_⟩
    have h := Rd.one wx (.int .u8 (z : Int)) 5
    rw [e8.out] at h
    rw [e8.out]
    exact h
  simp only [Act.put, Nat.reduceAdd, List.setIfInBounds_toArray, List.set_cons_succ, List.set_cons_zero]
  refine walk_r (SlR (N + 1) (put n ++ [UInt8.ofNat z])) (slR_stable _ _) (fun vs wx hw hd => ?_) ?_
  · simp [updE, Region.binds] at hd
    obtain ⟨⟨A6, hv6, hd6, hn6⟩, ⟨A7, c7, hv7, hd7⟩, _⟩ := hd
    obtain ⟨A8, c8, w8, hr8, hr9, hr10, hr11, hr12, hr13, _⟩ := run_appC (P := Try.prog) wx 23 23 5 i0 (.int .u8 0) 1 Try.underlying23 hi hz0 hz1 hz2 rfl A6 N (cb (put n)) hd6 (by rw [cb_length, hN.out]) hn6 A7 1 c7 (cb [UInt8.ofNat z]) hd7 rfl (cb_one _) (by unfold maxLen; omega) (by unfold maxLen; omega) (by omega)
    exact ⟨rfl, upon_append _ _ _ rfl hv6 hv7 hr8 ⟨hr12, A8, c8, rfl, by rw [cb_append]; exact hr9, hr10, hr11, hr13⟩⟩
  simp only [Act.put, Nat.reduceAdd, List.setIfInBounds_toArray, List.set_cons_succ, List.set_cons_zero]
  refine walk_r (SlR (N + 1) (put n ++ [UInt8.ofNat z])) (slR_stable _ _) (fun vs wx hw hd => ?_) ?_
  · simp [updE, Region.binds] at hd
    obtain ⟨⟨A8, c8, hv8, hd8⟩, _⟩ := hd
    go_simp
    exact ⟨A8, c8, rfl, hd8⟩
  simp only [Act.put, Nat.reduceAdd, List.setIfInBounds_toArray, List.set_cons_succ, List.set_cons_zero]
  refine walk_end ?_
  intro vs wx hw hv
  simp [AllE, updE] at hv
  obtain ⟨hv, A3, c3, hv14, hd3, hc3, hm3, hn3⟩ := hv
  simp only [hv, hv14]
  clear hv hv14
  obtain ⟨D, hD⟩ : ∃ D, n * z = D := ⟨_, rfl⟩
  obtain ⟨S, hS⟩ : ∃ S, sizeP n z = S := ⟨_, rfl⟩
  have hD2 : D ≤ 6400000 := by rw [← hD]; exact Nat.le_trans (Nat.mul_le_mul hl hz) (by decide)
  have hS2 : (D + 7) / 8 = S := by rw [← hS, ← hD]; rfl
  have hDi : (n : Int) * (z : Int) = (D : Int) := by rw [← hD]; rfl
  have g1 : IntKind.i64.wrap (D : Int) = (D : Int) := by rw [IntKind.wrap_i64]; omega
  have g2 : IntKind.i64.wrap ((D : Int) + 8) = (D : Int) + 8 := by rw [IntKind.wrap_i64]; omega
  have g3 : IntKind.i64.wrap ((D : Int) + 8 - 1) = (D : Int) + 8 - 1 := by rw [IntKind.wrap_i64]; omega
  have g4 : ((D : Int) + 8 - 1).tdiv 8 = (S : Int) := by rw [Int.tdiv_eq_ediv_of_nonneg (by omega)]; omega
  have g5 : IntKind.i64.wrap (S : Int) = (S : Int) := by rw [IntKind.wrap_i64]; omega
  have k0 := q0 wx hw
  have k1 := q1 wx hw
  have h2x := h2.below hw
  have hgx : g < wx.heap.size := Nat.lt_of_lt_of_le hgl hw.size
  replace hS := hid hS
  replace hD := hid hD
  clear q0 q1 hput c0 c1 hx0
  go_wp2_with fail
  go_still_tail 13, (by kernel_rfl)
  change wpList _ _ _ _ _ wx.drew
  have kw0 : wx.drew.cell? ⟨g, 0, none⟩ = _ := k0
  have kw1 : wx.drew.cell? ⟨g, 1, none⟩ = _ := k1
  have hgx : g < wx.drew.heap.size := hgx
  have h2x : Rd wx.drew A (uk .u16 l) := h2x
  have hd3 : Rd wx.drew A3 (cb (put n ++ [UInt8.ofNat z])) := hd3
  have hb0 : Below w.heap.size w wx.drew := Below.drew hw
  clear hw h2 k0 k1
  generalize wx.drew = w2 at *
  go_wp2_with (at_make; refine wpList_mk _ rfl (.tmp 35) (.tmp 35) 23 rfl w2.heap.size 5 i0 (.int .u8 0) Try.underlying23 hi hz0 hz1 rfl _ _ _ _ S rfl rfl rfl rfl (by rw [hz2]; omega) (by unfold maxLen; omega) (Nat.le_refl _) ?_; intro w3 hown hb1 hb2; have kx0 := (hb1.cell (p := ⟨g, 0, none⟩) hgx).trans kw0; have kx1 := (hb1.cell (p := ⟨g, 1, none⟩) hgx).trans kw1)
  clear g1 g2 g3 g4 g5 hDi
  have hDz := hid hD2
  clear hD2
  go_loopw [5, 42] (fun a5 i wr => ∃ j p : Nat, i = .int .i64 j ∧ j ≤ n ∧ a5 = .int .i64 p ∧ Hid (j * z = p) ∧ p ≤ D ∧
      wr.ownsRow w2.heap.size 5 1 (.slice (some ⟨w2.heap.size, 0, none⟩) S S) S (cb (packF (fun i => decide (i < p) && bitN z l i) S)) ∧ Below w2.heap.size w2 wr) (fun _ i _ => n - (intOf i).toNat)
  case atStart =>
    refine ⟨0, 0, rfl, Nat.zero_le _, rfl, hid (by simp), Nat.zero_le _, ?_, hb1⟩
    have e : packF (fun i => decide (i < 0) && bitN z l i) S = List.replicate S 0 := by rw [← packF_zero]; exact packF_congr S (fun i _ => by simp)
    rw [e, cb_replicate]
    exact hown
  case round =>
    clear hown
    obtain ⟨j, p, rfl, hj, rfl, hp, hpD, hown, hbr⟩ := hrel
    have k0 := (hbr.cell (p := ⟨g, 0, none⟩) hgx).trans kw0
    clear kx0 kx1
    by_cases hlt : j < n
    · have hjl : j < l.length := by rw [hn.out]; exact hlt
      have hjI : (j : Int) < (n : Int) := by omega
      obtain ⟨b, o, rfl, hb, hc⟩ := (h2x.below hbr) (by rw [uk_length]; omega)
      have hce := hc j _ (uk_get .u16 l j hjl)
      have hxm := hm.out _ (List.getElem_mem hjl)
      have hbit := hid (fun k hk => bitN_at z l j k hk hjl)
      obtain ⟨x, hx⟩ : ∃ x, l[j] = x := ⟨_, rfl⟩
      rw [hx] at hce hxm hbit
      rw [hp.out] at hbit
      have hpz : p + z ≤ D := by
        have h1 : (j + 1) * z ≤ n * z := Nat.mul_le_mul_right z hlt
        rw [hD.out, Nat.succ_mul, hp.out] at h1
        exact h1
      have hx64 : Hid (x < 18446744073709551616) := hid (by omega)
      have hDS : D ≤ 8 * S := by omega
      replace hxm := hid hxm
      replace hx := hid hx
      clear hc
      go_wp2_with fail
      go_loopw [5, 50] (fun a5 i wr => ∃ k : Nat, i = .int .i64 k ∧ k ≤ z ∧ a5 = .int .i64 ((p + k : Nat) : Int) ∧
          wr.ownsRow w2.heap.size 5 1 (.slice (some ⟨w2.heap.size, 0, none⟩) S S) S (cb (packF (fun i => decide (i < p + k) && bitN z l i) S)) ∧ Below w2.heap.size w2 wr) (fun _ i _ => z - (intOf i).toNat)
      case atStart => exact ⟨0, rfl, Nat.zero_le _, rfl, hown, hbr⟩
      case round =>
        clear hown hbr k0 hce
        obtain ⟨k, rfl, hk, rfl, hown, hbr⟩ := hrel
        by_cases hkz : k < z
        · obtain ⟨a, ha⟩ : ∃ a, p + k = a := ⟨_, rfl⟩
          have hbk := hbit.out k hkz
          rw [ha] at hown hbk ⊢
          obtain ⟨q, hq⟩ : ∃ q, a / 8 = q := ⟨_, rfl⟩
          obtain ⟨r, hr⟩ : ∃ r, a % 8 = r := ⟨_, rfl⟩
          have haS : a < 8 * S := by omega
          have hqS : q < S := by omega
          have hr8 : r < 8 := by omega
          obtain ⟨cur, hcur⟩ : ∃ cur, packF (fun i => decide (i < a) && bitN z l i) S = cur := ⟨_, rfl⟩
          have hcl : cur.length = S := by rw [← hcur]; exact packF_length _ _
          have hqc : q < cur.length := by rw [hcl]; exact hqS
          have hst := packF_step (bitN z l) S a haS (by rw [hcur, hq]; exact hqc)
          simp only [hcur, hq, hr, hbk] at hst
          rw [hcur] at hown
          have hyv : (cb cur)[q]? = some (.int .u8 (cur[q].toNat : Int)) := by rw [cb_get _ _ hqc]; rfl
          have hqt : (a : Int).tdiv 8 = (q : Int) := by rw [Int.tdiv_eq_ediv_of_nonneg (by omega)]; omega
          have hrt : (a : Int).tmod 8 = (r : Int) := by rw [Int.tmod_eq_emod_of_nonneg (by omega)]; omega
          have hSm := hDz.out
          have hwq : IntKind.i64.wrap (q : Int) = (q : Int) := by rw [IntKind.wrap_i64]; omega
          have hwr : IntKind.i64.wrap (r : Int) = (r : Int) := by rw [IntKind.wrap_i64]; omega
          have hwx : IntKind.u64.wrap (x : Int) = (x : Int) := by have := hx64.out; rw [IntKind.wrap_u64]; omega
          obtain ⟨v, hv1, hv2, hv3, -⟩ := bitv x k r hx64.out hr8
          have hk64 : k < 64 := by omega
          have hqI : (q : Int) < (S : Int) := by omega
          generalize cur[q] = y at hst hyv
          have hor := u8_or_c y (UInt8.ofNat (if x.testBit k then 2 ^ r else 0))
          generalize UInt8.ofNat (if x.testBit k then 2 ^ r else 0) = bb at hst hv3 hor
          generalize y ||| bb = y2 at hst hor
          have hce : wr.cell? ⟨w2.heap.size, q, none⟩ = some (.int .u8 (y.toNat : Int)) := by rw [hown.cellAt q (by omega)]; exact hyv
          have hfr := hown.frozenAt q
          have hst := hid hst
          have hcur := hid hcur
          have hbk := hid hbk
          have ha9 : a ≤ 6400000 := by omega
          clear hSm
          go_wp2
          go_still_tail 15, (by kernel_rfl)
          change wpList _ _ _ _ _ wr.drew
          have hce2 : wr.drew.cell? ⟨w2.heap.size, q, none⟩ = some (.int .u8 (y.toNat : Int)) := hce
          have hfr2 : wr.drew.frozen? ⟨w2.heap.size, q, none⟩ = false := hfr
          obtain ⟨hst1, _⟩ := (World.ownsRow.drew hown).stored q (u8c y2)
          rw [cb_set, hst.out] at hst1
          have hst2 := hbr.drew.setCell (p := ⟨w2.heap.size, q, none⟩) (Nat.le_refl _) (u8c y2)
          clear hown hce hfr
          generalize wr.drew = w4 at *
          go_wp2
          go_roundw
          case rel => exact ⟨k + 1, by go_num, by omega, by rw [← Nat.add_assoc, ha]; go_num, by rw [← Nat.add_assoc, ha]; exact hst1, hst2⟩
          case measure => simp [intOf]; omega
        · obtain rfl : k = z := by omega
          go_wp2
          go_roundw
          case rel => exact ⟨j + 1, p + k, by go_num, by omega, rfl, hid (by rw [Nat.succ_mul, hp.out]), hpz, hown, hbr⟩
          case measure => simp [intOf]; omega
    · obtain rfl : j = n := by omega
      have hpD2 : p = D := by rw [← hp.out, hD.out]
      subst hpD2
      have hpk : packF (fun i => decide (i < p) && bitN z l i) S = pack z l := by
        have h := pack_all z l
        rw [hn.out, hD.out, hS.out] at h
        exact h
      rw [hpk] at hown
      have rd3 := hd3.below hbr
      have rd4 := Rd.of_own hown
      have hP : PartsAt (wr.alloc (.cells #[.slice A3 (N + 1) c3, .slice (some ⟨w2.heap.size, 0, none⟩) S S] 23)) (some ⟨wr.heap.size, 0, none⟩) 2 [put j ++ [UInt8.ofNat z], pack z l] := by
        refine ⟨rfl, [.slice A3 (N + 1) c3, .slice (some ⟨w2.heap.size, 0, none⟩) S S], Rd.block wr [_, _] _, rfl, fun i t hi => ?_⟩
        have hi2 : i < 2 := by
          rcases Nat.lt_or_ge i 2 with h | h
          · exact h
          · rw [List.getElem?_eq_none (by simpa using h)] at hi; cases hi
        rcases (show i = 0 ∨ i = 1 from by omega) with rfl | rfl
        · simp at hi
          subst hi
          exact ⟨A3, c3, by rw [List.length_append, hN.out]; rfl, rd3.alloc _⟩
        · simp at hi
          subst hi
          exact ⟨_, S, by rw [pack_length, hn.out, hS.out]; rfl, rd4.alloc _⟩
      have hfl : ([put j ++ [UInt8.ofNat z], pack z l].flatten) = packAll z l := by simp [packAll, hn.out]
      have hlen : (packAll z l).length ≤ 1000000 := by rw [packAll_length, hn.out, hN.out, hS.out]; have := hDz.out; omega
      have hbw := hb0.trans (hbr.mono hb0.size)
      replace hlen := hid hlen
      go_wp2_with fail
      refine (concat_any _ 2 2 _ _ hP (by omega) (by rw [hfl]; have := hlen.out; omega)).mono ?_
      rintro e w4 ⟨A4, c4, rfl, hown4, hb4⟩
      rw [hfl] at hown4 ⊢
      go_wp2_with fail
      go_ret
      exact ⟨A4, c4, rfl, own_mono hown4 (by simp; exact Nat.le_succ_of_le hbw.size), (hbw.alloc hbw.size _).trans (hb4.mono (by simp; exact Nat.le_succ_of_le hbw.size))⟩
end Go.Proofs.Ytgclakhcddadpaa
