/-
  THE WALKS: packed.bit, packed.header.
-/
import Derived.Test.YtgclakhcddadpaaPkLen
import Derived.Deep.QuietTactic
import Derived.BigQuiet
namespace Go.Proofs.Ytgclakhcddadpaa
open Go.RowKit

theorem ret_k {k : IntKind} {a b : Int} (h : a = b) : Ending.returned (.int k a) = .returned (.int k b) := by rw [h]

/-- A bit as a number. -/
def bv (l : List UInt8) (i : Nat) : Nat := if bitB l i then 1 else 0

theorem bv_bits (u : UInt8) (j : Nat) : bits BinOp.and IntKind.u64 (IntKind.u64.wrap ((u.toNat : Int) / 2 ^ j)) 1 = ((if u.toNat.testBit j then 1 else 0 : Nat) : Int) := by
  have hu := u.toNat_lt
  have e : (u.toNat : Int) / 2 ^ j = ((u.toNat / 2 ^ j : Nat) : Int) := by rw [Int.natCast_ediv]; simp
  have hd : u.toNat / 2 ^ j ≤ u.toNat := Nat.div_le_self _ _
  have h := u64_and_nat (u.toNat / 2 ^ j) 1 (by omega) (by omega)
  have ew : IntKind.u64.wrap ((u.toNat / 2 ^ j : Nat) : Int) = ((u.toNat / 2 ^ j : Nat) : Int) := by
    have hq : u.toNat / 2 ^ j < 256 := by omega
    generalize u.toNat / 2 ^ j = q at hq
    rw [IntKind.wrap_u64]; omega
  rw [e, ew]
  have h : bits BinOp.and IntKind.u64 ((u.toNat / 2 ^ j : Nat) : Int) 1 = _ := h
  rw [h, Nat.and_one_is_mod, Nat.testBit_eq_decide_div_mod_eq]
  have : u.toNat / 2 ^ j % 2 = 0 ∨ u.toNat / 2 ^ j % 2 = 1 := by omega
  rcases this with h | h <;> simp [h]

set_option maxHeartbeats 1000000 in
theorem bit_any (A : Option Addr) (n c : Nat) (l : List UInt8) (i : Nat) (w : World) (hn : l.length = n) (hr : Rd w A (cb l)) (hi : i < 8 * n) (hnm : n ≤ 1000000000) :
    Calls Try.prog 55 #[.slice A n c, .int .i64 i] w fun e w' => e = .returned (.int .u64 (bv l i : Int)) ∧ w = w' := by
  obtain ⟨k, hk⟩ : ∃ k, i / 8 = k := ⟨_, rfl⟩
  obtain ⟨j, hj⟩ : ∃ j, i % 8 = j := ⟨_, rfl⟩
  have hki : (i : Int) / 8 = (k : Int) := by omega
  have hji : (i : Int) % 8 = (j : Int) := by omega
  have hkn : k < l.length := by omega
  have hkI : (k : Int) < (n : Int) := by omega
  obtain ⟨b, o, rfl, hb, hc⟩ := hr (by rw [cb_length]; omega)
  have hce := hc k _ (cb_get l k hkn)
  obtain ⟨u, hu⟩ : ∃ u, l[k] = u := ⟨_, rfl⟩
  rw [hu] at hce
  have hv : Hid (bv l i = if u.toNat.testBit j then 1 else 0) := by
    refine hid ?_
    unfold bv bitB
    rw [hk, hj, List.getD_eq_getElem?_getD, List.getElem?_eq_getElem hkn, hu]
    rfl
  have hbits := hid (bv_bits u j)
  have hj8 : j < 8 := by omega
  unfold u8c at hce
  replace hk := hid hk
  replace hj := hid hj
  replace hn := hid hn
  replace hu := hid hu
  clear hc
  go_enter Try.func55, Try.ntmps55
  go_wp2
  go_ret
  rw [hv.out]
  exact ⟨ret_k hbits.out, rfl⟩

/-- What header hands back. -/
def HeadR (t : Nat × Nat × Nat × Nat) (w : World) (e : Ending) (w' : World) : Prop :=
  e = .returned (.tuple #[.int .i64 (t.1 : Int), .int .i64 (t.2.1 : Int), .int .i64 (t.2.2.1 : Int), .int .i64 (t.2.2.2 : Int)]) ∧ Below w.heap.size w w'

theorem below_drewN (w : World) (n : Nat) : Below w.heap.size w (w.drewN n) := ⟨rfl, rfl, rfl, Nat.le_refl _, fun _ _ => rfl⟩

set_option maxRecDepth 100000 in
set_option maxHeartbeats 2000000 in
theorem header_any (A : Option Addr) (n c : Nat) (l : List UInt8) (w : World) (hn : l.length = n) (hr : Rd w A (cb l)) (hnm : n ≤ 1000000000) :
    Calls Try.prog 54 #[.slice A n c] w (HeadR (headP l) w) := by
  obtain ⟨t, ht⟩ : ∃ t, take l = t := ⟨_, rfl⟩
  obtain ⟨N, k, er⟩ := t
  have hP : headP l = if er ≠ 0 then (0, 0, 0, er) else if 100000 < N then (0, 0, 0, 2) else if n ≤ k then (0, 0, 0, 4) else if 64 < (l.getD k 0).toNat then (0, 0, 0, 3) else (N, (l.getD k 0).toNat, k + 1, 0) := by
    unfold headP; rw [ht, hn]
  have hN := take_lt l
  rw [ht] at hN
  simp only [] at hN
  replace hN := hid hN
  have hk := take_size (l := l)
  rw [ht, hn] at hk
  simp only [] at hk
  replace hn := hid hn
  replace ht := hid ht
  by_cases he : er = 0
  · subst he
    have hk := hk rfl
    rw [if_neg (by simp)] at hP
    by_cases h1 : 100000 < N
    · rw [if_pos h1] at hP
      replace hP := hid hP
      have h1i : (100000 : Int) < (N : Int) := by omega
      go_enter Try.func54, Try.ntmps54
      go_wp2_with (go_at_call 66; refine (take_n _ n l c _ hn.out hr (by omega)).mono ?_; rintro e w1 ⟨rfl, rfl⟩; rw [ht.out]; unfold tup3)
      refine bodyPost_ret (v := .tuple #[.int .i64 0, .int .i64 0, .int .i64 0, .int .i64 2]) (by simp [results, Try.results54, go_sem]) rfl ?_
      rw [hP.out]
      exact ⟨rfl, Below.refl _ _⟩
    · rw [if_neg h1] at hP
      have h1i : ¬ (100000 : Int) < (N : Int) := by omega
      by_cases h2 : n ≤ k
      · rw [if_pos h2] at hP
        replace hP := hid hP
        have h2i : (n : Int) ≤ (k : Int) := by omega
        clear hk
        go_enter Try.func54, Try.ntmps54
        go_wp2_with (go_at_call 66; refine (take_n _ n l c _ hn.out hr (by omega)).mono ?_; rintro e w1 ⟨rfl, rfl⟩; rw [ht.out]; unfold tup3)
        refine bodyPost_ret (v := .tuple #[.int .i64 0, .int .i64 0, .int .i64 0, .int .i64 4]) (by simp [results, Try.results54, go_sem]) rfl ?_
        rw [hP.out]
        exact ⟨rfl, Below.refl _ _⟩
      · rw [if_neg h2] at hP
        have h2i : (k : Int) < (n : Int) := by omega
        have hkl : k < l.length := by rw [hn.out]; omega
        obtain ⟨b, o, rfl, hb, hc⟩ := hr (by rw [cb_length]; omega)
        have hce := hc k _ (cb_get l k hkl)
        have hg : l.getD k 0 = l[k] := by rw [List.getD_eq_getElem?_getD, List.getElem?_eq_getElem hkl]; rfl
        rw [hg] at hP
        obtain ⟨u, hu⟩ : ∃ u, l[k] = u := ⟨_, rfl⟩
        rw [hu] at hce hP
        unfold u8c at hce
        have hul := u.toNat_lt
        obtain ⟨y, hy⟩ : ∃ y, u.toNat = y := ⟨_, rfl⟩
        rw [hy] at hP hce hul
        replace hy := hid hy
        replace hu := hid hu
        clear hg hc
        by_cases h3 : 64 < y
        · rw [if_pos h3] at hP
          replace hP := hid hP
          have h3i : (64 : Int) < (y : Int) := by omega
          go_enter Try.func54, Try.ntmps54
          go_wp2_with (go_at_call 66; refine (take_n _ n l c _ hn.out hr (by omega)).mono ?_; rintro e w1 ⟨rfl, rfl⟩; rw [ht.out]; unfold tup3)
          refine bodyPost_ret (v := .tuple #[.int .i64 0, .int .i64 0, .int .i64 0, .int .i64 3]) (by simp [results, Try.results54, go_sem]) rfl ?_
          rw [hP.out]
          exact ⟨rfl, Below.refl _ _⟩
        · rw [if_neg h3] at hP
          replace hP := hid hP
          have h3i : (y : Int) ≤ 64 := by omega
          have hs1 : IntKind.i64.wrap ((k : Int) + 1) = (k : Int) + 1 := by rw [IntKind.wrap_i64]; omega
          have hs2 : IntKind.i64.wrap (N : Int) = (N : Int) := by rw [IntKind.wrap_i64]; omega
          have hs3 : IntKind.i64.wrap (y : Int) = (y : Int) := by rw [IntKind.wrap_i64]; omega
          go_enter Try.func54, Try.ntmps54
          go_wp2_with (go_at_call 66; refine (take_n _ n l c _ hn.out hr (by omega)).mono ?_; rintro e w1 ⟨rfl, rfl⟩; rw [ht.out]; unfold tup3)
          go_quiet (fail)
          go_wp2
          refine bodyPost_ret (v := .tuple #[.int .i64 (N : Int), .int .i64 (y : Int), .int .i64 ((k + 1 : Nat) : Int), .int .i64 0]) (by simp [results, Try.results54, go_sem]) rfl ?_
          rw [hP.out]
          exact ⟨rfl, below_drewN _ _⟩
  · rw [if_pos (by simpa using he)] at hP
    replace hP := hid hP
    have heb : ((er : Int) != 0) = true := by simp; omega
    go_enter Try.func54, Try.ntmps54
    go_wp2_with (go_at_call 66; refine (take_n _ n l c _ hn.out hr (by omega)).mono ?_; rintro e w1 ⟨rfl, rfl⟩; rw [ht.out]; unfold tup3)
    refine bodyPost_ret (v := .tuple #[.int .i64 0, .int .i64 0, .int .i64 0, .int .i64 er]) (by simp [results, Try.results54, go_sem]) rfl ?_
    rw [hP.out]
    exact ⟨rfl, Below.refl _ _⟩
end Go.Proofs.Ytgclakhcddadpaa
