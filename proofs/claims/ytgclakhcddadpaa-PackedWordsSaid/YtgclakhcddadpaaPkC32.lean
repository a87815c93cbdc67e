/-
  THE WALK at uint32: Read.
-/
import Derived.Test.YtgclakhcddadpaaPkA32
import Derived.Test.YtgclakhcddadpaaBox
import Derived.Deep.DeepCutAuto
import Derived.Deep.CutBlock
namespace Go.Proofs.Ytgclakhcddadpaa
open Go.RowKit

theorem or_bit32 (X k : Nat) (b : Bool) (hX : X < 2 ^ k) (hk : k < 64) : bits BinOp.or IntKind.u64 (X : Int) (IntKind.u64.wrap (((if b then 1 else 0 : Nat) : Int) * 2 ^ k)) = ((X ||| (if b then 2 ^ k else 0) : Nat) : Int) := by
  have h1 : 2 ^ k < 2 ^ 64 := Nat.pow_lt_pow_right (by omega) hk
  have e : ((if b then 1 else 0 : Nat) : Int) * 2 ^ k = ((if b then 2 ^ k else 0 : Nat) : Int) := by cases b <;> simp
  rw [e]
  have hq : (if b then 2 ^ k else 0) < 18446744073709551616 := by cases b <;> simp; omega
  generalize (if b then 2 ^ k else 0) = q at hq
  have ew : IntKind.u64.wrap (q : Int) = (q : Int) := by rw [IntKind.wrap_u64]; omega
  rw [ew]
  exact u64_or_nat X q (by omega) hq

theorem vec_set132 {w : World} {g : Nat} {t : TypeId} {a b : Value} (h : w.heap[g]? = some (.cells #[a, b] t (0, 0))) (v : Value) :
    (w.setCell ⟨g, 1, none⟩ v).heap[g]? = some (.cells #[a, v] t (0, 0)) := by
  have h2 := heap_setCell_same w g 1 _ _ v h
  simpa using h2

/-- What Read hands back. -/
def ReadR32 (t : Nat × List Nat × Nat × Nat) (w : World) (e : Ending) (w' : World) : Prop :=
  Below w.heap.size w w' ∧ if t.2.2.2 = 0 then ∃ g, e = .returned (.tuple #[.pointer (some ⟨g, 0, none⟩), .int .i64 (t.2.2.1 : Int), .int .i64 0]) ∧ w.heap.size ≤ g ∧ VecAt 94 .u32 g t.1 t.2.1 w'
    else e = .returned (.tuple #[.pointer none, .int .i64 0, .int .i64 (t.2.2.2 : Int)])

set_option maxRecDepth 100000 in
set_option maxHeartbeats 4000000 in
theorem read32 (A : Option Addr) (n c : Nat) (s : List UInt8) (w : World) (hn : s.length = n) (hr : Rd w A (cb s)) (hnc : n ≤ c) (hcm : c ≤ maxLen) (hnm : n ≤ 1000000000) :
    Calls Try.prog 27 #[.slice A n c] w (ReadR32 (readP 32 s) w) := by
  obtain ⟨i0, hi, hz0, hz1, hz2⟩ := info_parts info32
  obtain ⟨t, ht⟩ : ∃ t, headP s = t := ⟨_, rfl⟩
  obtain ⟨m, z, a, er⟩ := t
  have hP : readP 32 s = if er ≠ 0 then (0, [], 0, er) else readQ 32 (s.drop a) a m z := by unfold readP; rw [ht]
  have hok := headP_ok s
  rw [ht] at hok
  simp only [] at hok
  replace ht := hid ht
  unfold maxLen at hcm
  by_cases he : er = 0
  · subst he
    obtain ⟨hm1, hz64, ha1, ha2⟩ := hok rfl
    rw [hn] at ha1
    rw [if_neg (by simp)] at hP
    obtain ⟨D, hD⟩ : ∃ D, m * z = D := ⟨_, rfl⟩
    obtain ⟨S, hS⟩ : ∃ S, sizeP m z = S := ⟨_, rfl⟩
    have hD2 : D ≤ 6400000 := by rw [← hD]; exact Nat.le_trans (Nat.mul_le_mul hm1 hz64) (by decide)
    have hS2 : (D + 7) / 8 = S := by rw [← hS, ← hD]; rfl
    have hDi : (m : Int) * (z : Int) = (D : Int) := by rw [← hD]; rfl
    have hdl : (s.drop a).length = n - a := by rw [List.length_drop, hn]
    unfold readQ at hP
    rw [hdl, hS] at hP
    by_cases hsz : n - a < S
    · rw [if_pos hsz] at hP
      replace hP := hid hP
      have hszi : (n : Int) - (a : Int) < (S : Int) := by omega
      have hSi : ((D : Int) + 8 - 1) / 8 = (S : Int) := by omega
      have hSt : ((D : Int) + 8 - 1).tdiv 8 = (S : Int) := by rw [Int.tdiv_eq_ediv_of_nonneg (by omega)]; exact hSi
      replace hS := hid hS
      replace hD := hid hD
      clear hdl hok
      go_enter Try.func27, Try.ntmps27
      go_wp2_with (go_at_call 54; refine (header_any A n c s _ hn hr hnm).mono ?_; rintro e w1 ⟨rfl, hb1⟩; rw [ht.out])
      refine bodyPost_ret (v := .tuple #[.pointer none, .int .i64 0, .int .i64 4]) (by simp [results, Try.results27, go_sem]) rfl ?_
      unfold ReadR32
      rw [hP.out]
      exact ⟨hb1, by rw [if_neg (by decide)]; rfl⟩
    · rw [if_neg hsz] at hP
      obtain ⟨part, hpt⟩ : ∃ part, (s.drop a).take S = part := ⟨_, rfl⟩
      have hpl : part.length = S := by rw [← hpt, List.length_take, hdl]; omega
      rw [hpt, hD] at hP
      have hszi : ¬ (n : Int) - (a : Int) < (S : Int) := by omega
      have hSi : ((D : Int) + 8 - 1) / 8 = (S : Int) := by omega
      have hSt : ((D : Int) + 8 - 1).tdiv 8 = (S : Int) := by rw [Int.tdiv_eq_ediv_of_nonneg (by omega)]; exact hSi
      have hrp : ∀ wx, Below w.heap.size w wx → Rd wx (if c = a then A else Option.map (fun x => x.add a) A) (cb part) := fun wx hx => by
        have h := rd_cutF (hr.below hx) a c (by omega)
        have h2 := h.take S
        rw [cb_take, hpt] at h2
        exact h2
      have hai : (a : Int) ≤ (a : Int) + (S : Int) := by omega
      have haSc : (a : Int) + (S : Int) ≤ (c : Int) := by omega
      have hDS : D ≤ 8 * S := by omega
      have hS6 : S ≤ 900000 := by omega
      obtain ⟨aS, haS⟩ : ∃ aS, a + S = aS := ⟨_, rfl⟩
      rw [haS] at hP
      replace hS := hid hS
      replace hD := hid hD
      replace hpl := hid hpl
      replace hpt := hid hpt
      replace hP := hid hP
      replace haS := hid haS
      clear hdl hok hnc
      go_enter Try.func27, Try.ntmps27
      go_upto_region 7 with (go_at_call 54; refine (header_any A n c s _ hn hr hnm).mono ?_; rintro e w1 ⟨rfl, hb1⟩; rw [ht.out])
      go_cut [10] (fun s10 wx => ∃ (Ap : Option Addr) (cp : Nat), s10 = .slice Ap S cp ∧ Rd wx Ap (cb part) ∧ Below w.heap.size w wx)
      case first =>
        by_cases hca : c = a
        · have hrp1 := hrp _ hb1
          rw [if_pos hca] at hrp1
          go_wp2
          go_meet
          case rel => exact ⟨A, _, by first | rfl | (rw [Nat.add_sub_cancel_left]) | (have hS0 : S = 0 := by omega); simp [hS0]; rfl, hrp1, hb1⟩
        · have hrp1 := hrp _ hb1
          rw [if_neg hca] at hrp1
          go_wp2
          go_meet
          case rel => exact ⟨_, _, by first | rfl | (rw [Nat.add_sub_cancel_left]), hrp1, hb1⟩
      case rest =>
        obtain ⟨Ap, cp, rfl, hrp1, hb2⟩ := hcut
        clear hrp hb1
        have hsz2 := hb2.size
        have hnew : (wc.alloc (.cells #[.int .i64 (z : Int), .slice none 0 0] 94)).heap[wc.heap.size]? = some (.cells #[.int .i64 (z : Int), .slice none 0 0] 94 (0, 0)) := heap_alloc_new wc _
        have hbA : Below wc.heap.size wc (wc.alloc (.cells #[.int .i64 (z : Int), .slice none 0 0] 94)) := (Below.refl _ wc).alloc (Nat.le_refl _) _
        clear hSi hSt hDi hai haSc hszi
        clear hS2 hsz hD2
        go_wp2_with fail
        go_loopw [48] (fun i wr => ∃ (j : Nat) (A2 : Option Addr) (c2 : Nat), i = .int .i64 j ∧ j ≤ m ∧ Hid (fits 32 part z j = true) ∧ wr.heap[wc.heap.size]? = some (.cells #[.int .i64 (z : Int), .slice A2 j c2] 94 (0, 0)) ∧
          wr.ownsRow (wc.heap.size + 1) 25 1 (.slice A2 j c2) j (uk .u32 (numsAt part z j)) ∧ Below wc.heap.size wc wr ∧ wc.heap.size < wr.heap.size) (fun i _ => m - (intOf i).toNat)
        case atStart => exact ⟨0, none, 0, rfl, Nat.zero_le _, hid (fits_zero _ _ _), hnew, World.ownsRow_nil _ _ _ _, hbA, by simp⟩
        case round =>
          clear hnew hbA
          obtain ⟨j, A2, c2, rfl, hj, hfit, hblk, hown, hbr, hgr⟩ := hrel
          have hpr := hrp1.below hbr
          by_cases hlt : j < m
          · obtain ⟨p, hp⟩ : ∃ p, j * z = p := ⟨_, rfl⟩
            have hpi : (j : Int) * (z : Int) = (p : Int) := by rw [← hp]; rfl
            have hpz : p + z ≤ D := by
              have h1 : (j + 1) * z ≤ m * z := Nat.mul_le_mul_right z hlt
              rw [hD.out, Nat.succ_mul, hp] at h1
              exact h1
            have hjI : (j : Int) < (m : Int) := by omega
            have hnum : Hid (numAt part z j = ofBits z (fun k => bitB part (p + k))) := hid (by unfold numAt; rw [hp])
            replace hp := hid hp
            go_wp2_with fail
            go_loop [13, 52] (fun x k => ∃ (k' X : Nat), k = .int .i64 k' ∧ k' ≤ z ∧ x = .int .u64 X ∧ Hid (ofBits k' (fun t => bitB part (p + t)) = X)) (fun _ k => z - (intOf k).toNat)
            case atStart => exact ⟨0, 0, rfl, Nat.zero_le _, rfl, hid rfl⟩
            case round =>
              obtain ⟨k, X, rfl, hk, rfl, hX⟩ := hrel
              by_cases hkz : k < z
              · have hkI : (k : Int) < (z : Int) := by omega
                obtain ⟨i, hi2⟩ : ∃ i, p + k = i := ⟨_, rfl⟩
                have hii : (p : Int) + (k : Int) = (i : Int) := by omega
                have hi8 : i < 8 * S := by omega
                have hk64 : k < 64 := by omega
                have hbb : bv part i = if bitB part i then 1 else 0 := rfl
                have hXk : X < 2 ^ k := by rw [← hX.out]; exact ofBits_lt _ _
                have hor := or_bit32 X k (bitB part i) hXk hk64
                have hXs := ofBits_or (fun t => bitB part (p + t)) k
                simp only [hX.out, hi2] at hXs
                rw [← hbb] at hor
                generalize X ||| (if bitB part i = true then 2 ^ k else 0) = X2 at hor hXs
                obtain ⟨v, hv⟩ : ∃ v, bv part i = v := ⟨_, rfl⟩
                have hv1 : v ≤ 1 := by rw [← hv, hbb]; split <;> omega
                rw [hv] at hor
                replace hXs := hid hXs
                replace hXk := hid hXk
                replace hv := hid hv
                clear hbb
                replace hi2 := hid hi2
                go_wp2_with (go_at_call 55; refine (bit_any Ap S cp part i _ hpl.out hpr hi8 (by omega)).mono ?_; rintro e w5 ⟨rfl, rfl⟩; rw [hv.out])
                go_round
                case rel => exact ⟨k + 1, X2, by go_num, by omega, rfl, hXs⟩
                case measure => simp [intOf]; omega
              · obtain rfl : k = z := by omega
                have hXn : numAt part k j = X := by rw [hnum.out]; exact hX.out
                have hXlt := numAt_lt part k j
                rw [hXn] at hXlt
                have hX64 : Hid (X < 18446744073709551616) := hid (Nat.lt_of_lt_of_le hXlt (Nat.pow_le_pow_right (by omega) hz64))
                have hfs := fits_succ 32 part k j
                rw [hfit.out, hXn, Bool.true_and] at hfs
                replace hXlt := hid hXlt
                clear hpi
                by_cases hfx : X < 4294967296
                · have hfs1 : Hid (fits 32 part k (j + 1) = true) := hid (by rw [hfs]; exact decide_eq_true hfx)
                  have hXi : (X : Int) < 4294967296 := by omega
                  have hwK : IntKind.u32.wrap (X : Int) = (X : Int) := by first | (rw [IntKind.wrap_u64]; omega) | (rw [IntKind.wrap_u32]; omega) | (rw [IntKind.wrap_u16]; omega)
                  have hw64 : IntKind.u64.wrap (X : Int) = (X : Int) := by rw [IntKind.wrap_u64]; omega
                  have hne : ((X : Int) != (X : Int)) = false := by simp
                  obtain ⟨k0, k1⟩ := vec_cells hblk
                  have hgb : ∀ q, (Value.slice A2 j c2).ownBlock = some q → wc.heap.size + 1 ≤ q := fun q hq => owns_base hown hq
                  have hnsucc := numsAt_succ part k j
                  rw [hXn] at hnsucc
                  replace hfx := hid hfx
                  replace hnsucc := hid hnsucc
                  clear hfs
                  go_wp2_with (at_builtin; refine wpList_app _ rfl (.tmp 76) (.tmp 79) 22 rfl (wc.heap.size + 1) 25 i0 (.int .u32 0) 4 Try.underlying22 hi hz0 hz1 hz2 rfl _ _ _ _ rfl (hown.alloc _) _ _ _ [.int .u32 (X : Int)] rfl (Rd.one _ _ _) rfl (one_int _ _) (by unfold maxLen; omega) (by omega) (by simp; omega) ?_; intro A5 c5 w5 hown5 hg5 hb5 _; have hblk5 : w5.heap[wc.heap.size]? = _ := (hg5.block wc.heap.size (by simp; omega) (fun e => by have := hgb _ e.symm; omega)).trans ((Below.heap_alloc _ _ wc.heap.size hgr).trans hblk); obtain ⟨k05, k15⟩ := vec_cells hblk5; have kf5 := frozen_of_row w5 wc.heap.size 1 _ _ hblk5)
                  have hst1 := vec_set132 hblk5 (.slice A5 (j + 1) c5)
                  have hst2 := ownsRow_setCell_other hown5 (a := ⟨wc.heap.size, 1, none⟩) (fun e => by have h : wc.heap.size + 1 ≤ wc.heap.size := owns_base hown5 e; omega) (.slice A5 (j + 1) c5)
                  have hgr' : wr.heap.size ≤ w5.heap.size := by have := hg5.size; simp at this; omega
                  have hst3 : Below wc.heap.size wc (w5.setCell ⟨wc.heap.size, 1, none⟩ (.slice A5 (j + 1) c5)) := by
                    refine Below.setCell (p := ⟨wc.heap.size, 1, none⟩) ?_ (Nat.le_refl _) _
                    exact (hbr.alloc hbr.size _).trans (hb5.mono (by omega))
                  go_roundw
                  case rel => exact ⟨j + 1, A5, c5, by go_num, by omega, hfs1, hst1, by rw [hnsucc.out, uk_snoc]; exact hst2, hst3, by simp; omega⟩
                  case measure => simp [intOf]; omega
                · have hff := hid (fits_false (m := 32) (b := part) (w := k) hlt (by rw [hXn]; exact hfx))
                  have hPf : Hid (readP 32 s = (0, [], 0, 3)) := hid (by rw [hP.out, hff.out]; rfl)
                  obtain ⟨y, hy⟩ : ∃ y, X % 4294967296 = y := ⟨_, rfl⟩
                  have hyi : (X : Int) % 4294967296 = (y : Int) := by omega
                  have hyb : (y : Int) < 4294967296 := by omega
                  have hyn : ((y : Int) != (X : Int)) = true := by simp; omega
                  have hwK : IntKind.u32.wrap (X : Int) = (y : Int) := by first | (rw [IntKind.wrap_u32]; omega) | (rw [IntKind.wrap_u16]; omega)
                  replace hfx := hid hfx
                  replace hy := hid hy
                  clear hfs
                  go_wp2
                  refine bodyPost_ret (v := .tuple #[.pointer none, .int .i64 0, .int .i64 3]) (by simp [results, Try.results27, go_sem]) rfl ?_
                  unfold ReadR32
                  rw [hPf.out]
                  exact ⟨hb2.trans (hbr.mono hb2.size), by rw [if_neg (by decide)]; rfl⟩
          · obtain rfl : j = m := by omega
            have hbw := hb2.trans (hbr.mono hb2.size)
            have hDi : (j : Int) * (z : Int) = (D : Int) := by rw [← hD.out]; rfl
            have hPf : Hid (readP 32 s = if tailZ part D (8 * S) = true then (z, numsAt part z j, aS, 0) else (0, [], 0, 3)) := hid (by rw [hP.out, hfit.out, if_pos rfl])
            go_wp2_with fail
            go_loop [15] (fun i => ∃ q, i = .int .i64 (q : Nat) ∧ D ≤ q ∧ q ≤ 8 * S ∧ Hid (∀ t, D ≤ t → t < q → bitB part t = false)) (fun i => 8 * S - (intOf i).toNat)
            case atStart => exact ⟨D, rfl, Nat.le_refl _, hDS, hid (fun t h1 h2 => by omega)⟩
            case round =>
              obtain ⟨q, rfl, hq1, hq2, hq3⟩ := hrel
              have hS8 : (S : Int) * 8 = ((8 * S : Nat) : Int) := by omega
              obtain ⟨S8, hS8e⟩ : ∃ S8, 8 * S = S8 := ⟨_, rfl⟩
              rw [hS8e] at hS8
              by_cases hqS : q < 8 * S
              · have hqI : (q : Int) < (S8 : Int) := by omega
                have hS87 : S8 ≤ 7200000 := by omega
                cases hbb : bitB part q with
                | true =>
                  have hbv : bv part q = 1 := by unfold bv; rw [hbb]; rfl
                  have hPg : Hid (readP 32 s = (0, [], 0, 3)) := hid (by rw [hPf.out, tailZ_false hq1 hqS hbb]; rfl)
                  replace hS8e := hid hS8e
                  replace hbb := hid hbb
                  go_wp2_with (go_at_call 55; refine (bit_any Ap S cp part q _ hpl.out hpr hqS (by omega)).mono ?_; rintro e w5 ⟨rfl, rfl⟩; rw [hbv])
                  refine bodyPost_ret (v := .tuple #[.pointer none, .int .i64 0, .int .i64 3]) (by simp [results, Try.results27, go_sem]) rfl ?_
                  unfold ReadR32
                  rw [hPg.out]
                  exact ⟨hbw, by rw [if_neg (by decide)]; rfl⟩
                | false =>
                  have hbv : bv part q = 0 := by unfold bv; rw [hbb]; rfl
                  have hq4 : Hid (∀ t, D ≤ t → t < q + 1 → bitB part t = false) := hid (fun t h1 h2 => by
                    rcases Nat.lt_or_ge t q with h3 | h3
                    · exact hq3.out t h1 h3
                    · obtain rfl : t = q := by omega
                      exact hbb)
                  replace hS8e := hid hS8e
                  replace hbb := hid hbb
                  go_wp2_with (go_at_call 55; refine (bit_any Ap S cp part q _ hpl.out hpr hqS (by omega)).mono ?_; rintro e w5 ⟨rfl, rfl⟩; rw [hbv])
                  go_round
                  case rel => exact ⟨q + 1, by go_num, by omega, by omega, hq4⟩
                  case measure => simp [intOf]; omega
              · have hqI : ¬ (q : Int) < (S8 : Int) := by omega
                have hqe : q = 8 * S := by omega
                have hPg : Hid (readP 32 s = (z, numsAt part z j, aS, 0)) := hid (by
                  rw [hPf.out, tailZ_true (fun t h1 h2 => hq3.out t h1 (by omega)), if_pos rfl])
                have hai : (a : Int) + (S : Int) = (aS : Int) := by have := haS.out; omega
                have hcap := own_cap hown
                have hv : VecAt 94 .u32 wc.heap.size z (numsAt part z j) wr := by
                  refine ⟨A2, c2, by rw [numsAt_length]; exact hblk, Rd.of_own hown, fun h => ?_, by rw [numsAt_length]; exact hcap.1, hcap.2⟩
                  rcases Nat.eq_zero_or_pos j with h0 | h0
                  · exact List.eq_nil_of_length_eq_zero (by rw [numsAt_length]; exact h0)
                  · obtain ⟨g, hg, _⟩ := own_addr hown h0
                    rw [h] at hg; cases hg
                replace hS8e := hid hS8e
                replace hqe := hid hqe
                clear hcap
                go_wp2
                refine bodyPost_ret (v := .tuple #[.pointer (some ⟨wc.heap.size, 0, none⟩), .int .i64 (aS : Int), .int .i64 0]) (by simp [results, Try.results27, go_sem]) rfl ?_
                unfold ReadR32
                rw [hPg.out]
                exact ⟨hbw, by rw [if_pos rfl]; exact ⟨wc.heap.size, rfl, hsz2, hv⟩⟩
  · rw [if_pos (by simpa using he)] at hP
    replace hP := hid hP
    have heb : ((er : Int) != 0) = true := by simp; omega
    clear hok
    go_enter Try.func27, Try.ntmps27
    go_wp2_with (go_at_call 54; refine (header_any A n c s _ hn hr hnm).mono ?_; rintro e w1 ⟨rfl, hb1⟩; rw [ht.out])
    refine bodyPost_ret (v := .tuple #[.pointer none, .int .i64 0, .int .i64 (er : Int)]) (by simp [results, Try.results27, go_sem]) rfl ?_
    unfold ReadR32
    rw [hP.out]
    exact ⟨hb1, by rw [if_neg he]⟩
end Go.Proofs.Ytgclakhcddadpaa
