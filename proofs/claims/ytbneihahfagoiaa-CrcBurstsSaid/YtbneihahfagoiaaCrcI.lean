/-
  THE WALK of CrcBursts.
-/
import Derived.Test.YtbneihahfagoiaaCrcH
import Derived.Test.YtbneihahfagoiaaPlainBurst
import Derived.StillTailTactics
namespace Go.Proofs.Ytbneihahfagoiaa
open Go.RowKit

/-- What stands behind i rounds: the bytes, and whether a bit was turned. -/
def BurstI (l : List UInt8) (M i : Nat) (an : Bool) (cur : List UInt8) : Prop :=
  ∃ wm : Reg, reg ones cur = reg ones (seal_ l) ^^^ sts M wm ∧ (∀ j, i ≤ j → wm.getLsbD j = false) ∧ (an = false → cur = seal_ l) ∧ (an = true → wm ≠ 0#32)

theorem BurstI.start (l : List UInt8) (M : Nat) : BurstI l M 0 false (seal_ l) :=
  ⟨0#32, by rw [sts_zero, BitVec.xor_zero], fun j _ => by simp, fun _ => rfl, fun h => by cases h⟩

theorem BurstI.keep {l : List UInt8} {M i : Nat} {an : Bool} {cur : List UInt8} (h : BurstI l M i an cur) : BurstI l M (i + 1) an cur := by
  obtain ⟨wm, h1, h2, h3, h4⟩ := h
  exact ⟨wm, h1, fun j hj => h2 j (by omega), h3, h4⟩

theorem BurstI.flip {l : List UInt8} {N p i : Nat} {an : Bool} {cur : List UInt8} (h : BurstI l (8 * N - p) i an cur) (hN : cur.length = N) (hi : i < 32) (hp : p + i < 8 * N)
    (b : UInt8) (hb : b = (1 : UInt8) <<< (UInt8.ofNat ((p + i) % 8))) (hk : (p + i) / 8 < cur.length) :
    BurstI l (8 * N - p) (i + 1) true (cur.set ((p + i) / 8) (cur[(p + i) / 8] ^^^ b)) := by
  obtain ⟨wm, h1, h2, h3, h4⟩ := h
  have hj : (p + i) % 8 < 8 := by omega
  have hbit := bit_in ⟨(p + i) % 8, hj⟩
  simp only [] at hbit
  rw [← hb] at hbit
  have hne : (wm ^^^ BitVec.ofNat 32 (2 ^ i)).getLsbD i = true := by
    rw [BitVec.getLsbD_xor, h2 i (by omega), BitVec.getLsbD_ofNat]
    simp [hi]
  refine ⟨wm ^^^ BitVec.ofNat 32 (2 ^ i), ?_, fun j hj2 => ?_, (fun h => by cases h), fun _ h => ?_⟩
  · rw [reg_flip cur _ ones b _ hj hbit hk, h1, sts_xor, word_out i _ hi (by omega), BitVec.xor_assoc]
    congr 3
    rw [hN]
    omega
  · rw [BitVec.getLsbD_xor, h2 j (by omega), BitVec.getLsbD_ofNat, Nat.testBit_two_pow]
    simp
    omega
  · rw [h] at hne
    simp at hne

theorem BurstI.shut {l : List UInt8} {M i : Nat} {cur : List UInt8} (h : BurstI l M i true cur) (hN : cur.length = l.length + 4) : openR cur = ([], 5) := by
  obtain ⟨wm, h1, _, _, h4⟩ := h
  exact open_turned l cur hN (sts M wm) (fun hz => h4 rfl (sts_inj0 M wm hz)) h1

theorem BurstI.same {l : List UInt8} {M i : Nat} {cur : List UInt8} (h : BurstI l M i false cur) : cur = seal_ l := by
  obtain ⟨wm, _, _, h3, _⟩ := h
  exact h3 rfl

theorem u8_shl : ∀ j : Fin 8, IntKind.u8.wrap (2 ^ j.val) = (((1 : UInt8) <<< (UInt8.ofNat j.val)).toNat : Int) := by decide

set_option maxHeartbeats 2000000 in
set_option maxRecDepth 100000 in
theorem bursts_walk (A : Option Addr) (L : Nat) (c : Nat) (l : List UInt8) (z : Int) (v : Reg) (w : World) (hL : l.length = L) (hr : Rd w A (cb l)) (hA : A = none → l = []) (hLc : L ≤ c) (hcm : c ≤ maxLen) :
    Calls Try.prog 5 #[.slice A L c, .int .i64 z, .int .u32 (v.toNat : Int)] w (Yes w) := by
  replace hL := hid hL
  replace hcm := hid hcm
  by_cases hbig : 2000 < L ∨ v.toNat = 0
  · by_cases h2 : 2000 < L
    · go_enter Try.func5, Try.ntmps5
      go_wp2_with fail
      refine (awake_any _).mono ?_
      rintro e w3 ⟨rfl, hb3⟩
      go_wp2_with fail
      go_ret
      exact ⟨rfl, hb3⟩
    · have h0 : ((v.toNat : Int) == 0) = true := by simp; omega
      go_enter Try.func5, Try.ntmps5
      go_wp2_with fail
      refine (awake_any _).mono ?_
      rintro e w3 ⟨rfl, hb3⟩
      go_wp2_with fail
      go_ret
      exact ⟨rfl, hb3⟩
  · have hL2 : L ≤ 2000 := by omega
    have h0 : ((v.toNat : Int) == 0) = false := by simp; omega
    obtain ⟨r, hr1, hb⟩ := i64_mask z 16777215 (by omega)
    have hb : bits BinOp.and IntKind.i64 z 16777215 = (r : Int) := hb
    obtain ⟨p, hp, hp8⟩ : ∃ p : Nat, (r : Int) % (8 * ((L : Int) + 4)) = (p : Int) ∧ p < 8 * (L + 4) := ⟨r % (8 * (L + 4)), by rw [Int.natCast_emod, Int.natCast_mul, Int.natCast_add]; rfl, Nat.mod_lt _ (by omega)⟩
    go_enter Try.func5, Try.ntmps5
    go_wp2_with fail
    refine (seal_any A L l c _ hL.out hr (by omega)).mono ?_
    rintro e w1 ⟨A1, c1, rfl, hown1, hb1⟩
    obtain ⟨g, rfl, hg1, hg2⟩ := own_addr hown1 (by omega)
    have hcap := hid (own_cap hown1)
    go_wp2_with fail
    try rw [hp]
    clear hp hb
    go_loopw [9, 10] (fun a9 i10 wr => ∃ (i : Nat) (an : Bool) (cur : List UInt8), a9 = .bool an ∧ i10 = .int .i64 i ∧ i ≤ 32 ∧ Hid (cur.length = L + 4) ∧ wr.ownsRow w.heap.size 5 1 (.slice (some ⟨g, 0, none⟩) (L + 4) c1) (L + 4) (cb cur) ∧ Below w.heap.size w wr ∧ Hid (BurstI l (8 * (L + 4) - p) i an cur)) (fun _ i _ => 32 - (intOf i).toNat)
    case atStart => exact ⟨0, false, seal_ l, rfl, rfl, by omega, hid (by rw [seal_length, hL.out]), hown1, hb1, hid (BurstI.start l _)⟩
    case round =>
      clear hown1 hb1
      obtain ⟨i, an, cur, rfl, rfl, hi, hcl, hown, hb1, hB⟩ := hrel
      by_cases h32 : i < 32
      · by_cases hin : p + i < 8 * (L + 4)
        · have hkc : (p + i) / 8 < cur.length := by rw [hcl.out]; omega
          have hflip := hid (hB.out.flip hcl.out h32 hin _ rfl hkc)
          obtain ⟨k, hk⟩ : ∃ k, (p + i) / 8 = k := ⟨_, rfl⟩
          obtain ⟨j, hj⟩ : ∃ j, (p + i) % 8 = j := ⟨_, rfl⟩
          have hkL : k < L + 4 := by omega
          have hj8 : j < 8 := by omega
          have hki : ((p : Int) + (i : Int)) / 8 = (k : Int) := by omega
          have hji : ((p : Int) + (i : Int)) % 8 = (j : Int) := by omega
          have hkI : (k : Int) < (L : Int) + 4 := by omega
          have hkt : ((p : Int) + (i : Int)).tdiv 8 = (k : Int) := by rw [Int.tdiv_eq_ediv_of_nonneg (by omega)]; omega
          have hjt : ((p : Int) + (i : Int)).tmod 8 = (j : Int) := by rw [Int.tmod_eq_emod_of_nonneg (by omega)]; omega
          have hw1 : IntKind.i64.wrap ((p : Int) + (i : Int)) = (p : Int) + (i : Int) := by rw [IntKind.wrap_i64]; omega
          have hwk : IntKind.i64.wrap (k : Int) = (k : Int) := by rw [IntKind.wrap_i64]; omega
          have hwj : IntKind.i64.wrap (j : Int) = (j : Int) := by rw [IntKind.wrap_i64]; omega
          have hsh : IntKind.u8.wrap (2 ^ j) = (((1 : UInt8) <<< (UInt8.ofNat j)).toNat : Int) := u8_shl ⟨j, hj8⟩
          simp only [hk, hj] at hflip hkc
          have hxc := u8_xor_c cur[k] ((1 : UInt8) <<< (UInt8.ofNat j))
          have hyv : (cb cur)[k]? = some (.int .u8 (cur[k].toNat : Int)) := by rw [cb_get _ _ hkc]; rfl
          generalize (1 : UInt8) <<< (UInt8.ofNat j) = b at hflip hsh hxc
          generalize cur[k] = y at hflip hxc hyv
          generalize y ^^^ b = y2 at hflip hxc
          have hce : wr.cell? ⟨g, k, none⟩ = some (.int .u8 (y.toNat : Int)) := by rw [hown.cellAt k (by omega)]; exact hyv
          have hfr := hown.frozenAt k
          replace hk := hid hk
          replace hj := hid hj
          go_wp2
          all_goals first
            | (go_roundw
               case rel => exact ⟨i + 1, an, cur, rfl, by go_num, by omega, hcl, hown, hb1, hid hB.out.keep⟩
               case measure => simp [intOf]; omega)
            | (go_still_tail 14, (by kernel_rfl)
               change wpList _ _ _ _ _ wr.drew
               have hce2 : wr.drew.cell? ⟨g, k, none⟩ = some (.int .u8 (y.toNat : Int)) := hce
               have hfr2 : wr.drew.frozen? ⟨g, k, none⟩ = false := hfr
               obtain ⟨hst1, _⟩ := (World.ownsRow.drew hown).stored k (u8c y2)
               rw [cb_set] at hst1
               have hst2 := hb1.drew.setCell (p := ⟨g, k, none⟩) hg1 (u8c y2)
               clear hown hce hfr
               generalize wr.drew = w2 at *
               go_wp2
               go_roundw
               case rel => exact ⟨i + 1, true, cur.set k y2, rfl, by go_num, by omega, hid (by rw [List.length_set]; exact hcl.out), hst1, hst2, hflip⟩
               case measure => simp [intOf]; omega)
        · go_wp2
          all_goals
            go_roundw
            case rel => exact ⟨i + 1, an, cur, rfl, by go_num, by omega, hcl, hown, hb1, hid hB.out.keep⟩
            case measure => simp [intOf]; omega
      · obtain rfl : i = 32 := by omega
        have hrd := Rd.of_own hown
        have hlen := hcl.out
        cases an with
        | false =>
          have hcs := hB.out.same
          subst hcs
          have hcv0 : ∀ w5, Below wr.heap.size wr w5 → (convert 22 9 (.slice A L c)).run Try.prog w5 = .ok (.string ⟨l.toArray⟩) w5 :=
            fun w5 hx => run_strn w5 22 9 5 Try.underlying22 Try.underlying5 Try.underlying9 A L l c hL.out ((hr.below hb1).below hx)
          go_wp2_with fail
          refine (open_any _ (L + 4) (seal_ l) c1 _ hlen hrd (fun h => by cases h) hcap.out.1 hcap.out.2 (by omega)).mono ?_
          rintro e w2 ⟨A2, c2, rfl, hown2, hb2⟩
          rw [open_seal] at hown2 ⊢
          simp only [] at hown2 ⊢
          rw [hL.out] at hown2 ⊢
          have hcv1 := run_strn (P := Try.prog) w2 22 9 5 Try.underlying22 Try.underlying5 Try.underlying9 A2 L l L hL.out (Rd.of_own hown2)
          have hcv2 := hcv0 w2 hb2
          clear hcv0 hown2
          go_wp2_with fail
          refine (awake_any _).mono ?_
          rintro e w3 ⟨rfl, hb3⟩
          have hb03 := hb1.trans (hb2.mono hb1.size)
          go_wp2_with fail
          go_ret
          exact ⟨rfl, hb03.trans (hb3.mono hb03.size)⟩
        | true =>
          have hcs := hB.out.shut (by rw [hlen, hL.out])
          go_wp2_with fail
          refine (open_any _ (L + 4) cur c1 _ hlen hrd (fun h => by cases h) hcap.out.1 hcap.out.2 (by omega)).mono ?_
          rintro e w2 ⟨A2, c2, rfl, hown2, hb2⟩
          rw [hcs] at hown2 ⊢
          simp only [] at hown2 ⊢
          clear hown2
          go_wp2_with fail
          refine (awake_any _).mono ?_
          rintro e w3 ⟨rfl, hb3⟩
          have hb03 := hb1.trans (hb2.mono hb1.size)
          go_wp2_with fail
          go_ret
          exact ⟨rfl, hb03.trans (hb3.mono hb03.size)⟩
end Go.Proofs.Ytbneihahfagoiaa
