/-
  PLAIN ROWS of numbers: what All tells of bytes. No program in sight.
-/
import Derived.Test.YtkaigeodeabicaaPlainNum
namespace Go.Proofs.Ytkaigeodeabicaa

/-- The numbers of bytes and where they begin, from the place at on; f: how many may still come. -/
def rowsG : Nat → Nat → List UInt8 → List (Nat × Nat)
  | 0, _, _ => []
  | f + 1, at_, l => if (take l).2.2 = 0 then (at_, (take l).1) :: rowsG f (at_ + (take l).2.1) (l.drop (take l).2.1) else []

/-- All numbers of bytes. -/
def rows (l : List UInt8) : List (Nat × Nat) := rowsG l.length 0 l

theorem take_nil : take [] = (0, 0, 4) := rfl

theorem rowsG_fuel (f : Nat) : ∀ g at_ l, l.length ≤ f → l.length ≤ g → rowsG f at_ l = rowsG g at_ l := by
  induction f with
  | zero =>
    intro g at_ l hf hg
    obtain rfl : l = [] := List.eq_nil_of_length_eq_zero (by omega)
    cases g with
    | zero => rfl
    | succ g => simp [rowsG, take_nil]
  | succ f ih =>
    intro g at_ l hf hg
    cases g with
    | zero =>
      obtain rfl : l = [] := List.eq_nil_of_length_eq_zero (by omega)
      simp [rowsG, take_nil]
    | succ g =>
      simp only [rowsG]
      split
      · rename_i h
        have hs := take_size h
        rw [ih g _ _ (by rw [List.length_drop]; omega) (by rw [List.length_drop]; omega)]
      · rfl

/-- What is still to come from the place k on. -/
def restR (l : List UInt8) (k : Nat) : List (Nat × Nat) := rowsG (l.length - k) k (l.drop k)

theorem restR_zero (l : List UInt8) : restR l 0 = rows l := rfl
theorem restR_end (l : List UInt8) (k : Nat) (h : l.length ≤ k) : restR l k = [] := by
  unfold restR
  rw [show l.length - k = 0 from by omega]
  rfl
theorem restR_bad (l : List UInt8) (k : Nat) (h : (take (l.drop k)).2.2 ≠ 0) : restR l k = [] := by
  unfold restR
  cases l.length - k with
  | zero => rfl
  | succ f => simp [rowsG, h]
theorem restR_step (l : List UInt8) (k : Nat) (hk : k < l.length) (h : (take (l.drop k)).2.2 = 0) :
    restR l k = (k, (take (l.drop k)).1) :: restR l (k + (take (l.drop k)).2.1) := by
  have hs := take_size h
  rw [List.length_drop] at hs
  unfold restR
  obtain ⟨f, hf⟩ : ∃ f, l.length - k = f + 1 := ⟨l.length - k - 1, by omega⟩
  rw [hf, rowsG, if_pos h]
  rw [rowsG_fuel f (l.length - (k + (take (l.drop k)).2.1)) _ _ (by rw [List.length_drop, List.length_drop]; omega) (by rw [List.length_drop, List.length_drop]; omega), List.drop_drop]

theorem rowsG_length (f : Nat) : ∀ at_ l, (rowsG f at_ l).length ≤ l.length := by
  induction f with
  | zero => intro at_ l; simp [rowsG]
  | succ f ih =>
    intro at_ l
    simp only [rowsG]
    split
    · rename_i h
      have hs := take_size h
      have := ih (at_ + (take l).2.1) (l.drop (take l).2.1)
      rw [List.length_drop] at this
      rw [List.length_cons]
      omega
    · simp
theorem rows_length (l : List UInt8) : (rows l).length ≤ l.length := rowsG_length _ _ _

/-- Every number told is below 2^64, every place below the length. -/
theorem rowsG_mem (f : Nat) : ∀ at_ l, ∀ x ∈ rowsG f at_ l, x.1 < at_ + l.length ∧ x.2 < 18446744073709551616 := by
  induction f with
  | zero => intro at_ l x hx; simp [rowsG] at hx
  | succ f ih =>
    intro at_ l x hx
    simp only [rowsG] at hx
    split at hx
    · rename_i h
      have hs := take_size h
      rcases List.mem_cons.1 hx with rfl | hx
      · exact ⟨by simp only; omega, take_lt l⟩
      · have := ih _ _ x hx
        rw [List.length_drop] at this
        exact ⟨by omega, this.2⟩
    · simp at hx
end Go.Proofs.Ytkaigeodeabicaa
