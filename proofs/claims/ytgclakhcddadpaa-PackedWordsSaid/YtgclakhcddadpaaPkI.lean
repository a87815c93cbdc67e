/-
  WHAT COMES IN: a row of numbers of a kind.
-/
import Derived.Test.YtgclakhcddadpaaPkW
namespace Go.Proofs.Ytgclakhcddadpaa
open Go.RowKit

theorem nats_of_row {k : IntKind} {P : Nat} (hk : ∀ x, (Lit.int k x).wf = true → 0 ≤ x ∧ x < (P : Int)) {w : World} {a : Option Addr} {len cap : Nat} {zs : List Int} (h : IsRow k w a len cap zs) :
    ∃ l : List Nat, l.length = len ∧ Rd w a (uk k l) ∧ (a = none → l = []) ∧ len ≤ cap ∧ cap ≤ maxLen ∧ ∀ x ∈ l, x < P := by
  obtain ⟨h1, h2, h3, h4, h5, h6⟩ := rd_of_row h
  refine ⟨(zs.take len).map Int.toNat, by rw [List.length_map]; exact h2, ?_, fun ha => ?_, h4, h5, ?_⟩
  · have e : uk k ((zs.take len).map Int.toNat) = (zs.take len).map (.int k) := by
      unfold uk
      rw [List.map_map]
      apply List.map_congr_left
      intro n hn
      have := hk n (h6 n hn)
      simp only [Function.comp]
      congr 1
      omega
    rw [e]
    exact h1
  · apply List.eq_nil_of_length_eq_zero
    rw [List.length_map, h2]
    exact h3 ha
  · intro x hx
    rw [List.mem_map] at hx
    obtain ⟨n, hn, rfl⟩ := hx
    have := hk n (h6 n hn)
    omega

theorem wf16 (x : Int) (h : (Lit.int .u16 x).wf = true) : 0 ≤ x ∧ x < ((65536 : Nat) : Int) := by
  simp [Lit.wf, IntKind.min, IntKind.max, IntKind.signed, IntKind.bits] at h
  omega
theorem wf32 (x : Int) (h : (Lit.int .u32 x).wf = true) : 0 ≤ x ∧ x < ((4294967296 : Nat) : Int) := by
  simp [Lit.wf, IntKind.min, IntKind.max, IntKind.signed, IntKind.bits] at h
  omega
theorem wf64 (x : Int) (h : (Lit.int .u64 x).wf = true) : 0 ≤ x ∧ x < ((18446744073709551616 : Nat) : Int) := by
  simp [Lit.wf, IntKind.min, IntKind.max, IntKind.signed, IntKind.bits] at h
  omega
end Go.Proofs.Ytgclakhcddadpaa
