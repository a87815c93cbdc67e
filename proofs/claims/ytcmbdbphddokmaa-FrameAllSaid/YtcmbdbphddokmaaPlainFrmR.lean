/-
  PLAIN RECORDS, one behind the other. No program in sight.
-/
import Derived.Test.YtcmbdbphddokmaaPlainFrm
namespace Go.Proofs.Ytcmbdbphddokmaa

theorem takeR_nil : takeR [] = (0, [], 0, 4) := rfl

/-- The records of bytes and where they begin, from the place at on; f: how many may still come. -/
def rowsFG : Nat → Nat → List UInt8 → List (Nat × Nat × List UInt8)
  | 0, _, _ => []
  | f + 1, at_, r => if (takeR r).2.2.2 = 0 then (at_, (takeR r).1, (takeR r).2.1) :: rowsFG f (at_ + (takeR r).2.2.1) (r.drop (takeR r).2.2.1) else []

/-- Where the last record ends. -/
def endFG : Nat → Nat → List UInt8 → Nat
  | 0, at_, _ => at_
  | f + 1, at_, r => if (takeR r).2.2.2 = 0 then endFG f (at_ + (takeR r).2.2.1) (r.drop (takeR r).2.2.1) else at_

theorem rowsFG_fuel (f : Nat) : ∀ g at_ r, r.length ≤ f → r.length ≤ g → rowsFG f at_ r = rowsFG g at_ r := by
  induction f with
  | zero =>
    intro g at_ r hf hg
    obtain rfl : r = [] := List.eq_nil_of_length_eq_zero (by omega)
    cases g with
    | zero => rfl
    | succ g => simp [rowsFG, takeR_nil]
  | succ f ih =>
    intro g at_ r hf hg
    cases g with
    | zero =>
      obtain rfl : r = [] := List.eq_nil_of_length_eq_zero (by omega)
      simp [rowsFG, takeR_nil]
    | succ g =>
      simp only [rowsFG]
      split
      · rename_i h
        have hs := takeR_ok r h
        rw [ih g _ _ (by rw [List.length_drop]; omega) (by rw [List.length_drop]; omega)]
      · rfl
theorem endFG_fuel (f : Nat) : ∀ g at_ r, r.length ≤ f → r.length ≤ g → endFG f at_ r = endFG g at_ r := by
  induction f with
  | zero =>
    intro g at_ r hf hg
    obtain rfl : r = [] := List.eq_nil_of_length_eq_zero (by omega)
    cases g with
    | zero => rfl
    | succ g => simp [endFG, takeR_nil]
  | succ f ih =>
    intro g at_ r hf hg
    cases g with
    | zero =>
      obtain rfl : r = [] := List.eq_nil_of_length_eq_zero (by omega)
      simp [endFG, takeR_nil]
    | succ g =>
      simp only [endFG]
      split
      · rename_i h
        have hs := takeR_ok r h
        rw [ih g _ _ (by rw [List.length_drop]; omega) (by rw [List.length_drop]; omega)]
      · rfl

/-- All records of bytes; where the last one ends. -/
def rowsF (l : List UInt8) : List (Nat × Nat × List UInt8) := rowsFG l.length 0 l
def endF (l : List UInt8) : Nat := endFG l.length 0 l
/-- What is still to come from the place k on. -/
def restF (l : List UInt8) (k : Nat) : List (Nat × Nat × List UInt8) := rowsFG (l.length - k) k (l.drop k)
def endG (l : List UInt8) (k : Nat) : Nat := endFG (l.length - k) k (l.drop k)

theorem restF_zero (l : List UInt8) : restF l 0 = rowsF l := rfl
theorem endG_zero (l : List UInt8) : endG l 0 = endF l := rfl
theorem restF_end (l : List UInt8) (k : Nat) (h : l.length ≤ k) : restF l k = [] := by
  unfold restF
  rw [show l.length - k = 0 from by omega]
  rfl
theorem endG_end (l : List UInt8) (k : Nat) (h : l.length ≤ k) : endG l k = k := by
  unfold endG
  rw [show l.length - k = 0 from by omega]
  rfl
theorem restF_bad (l : List UInt8) (k : Nat) (h : (takeR (l.drop k)).2.2.2 ≠ 0) : restF l k = [] := by
  unfold restF
  cases l.length - k with
  | zero => rfl
  | succ f => simp [rowsFG, h]
theorem endG_bad (l : List UInt8) (k : Nat) (h : (takeR (l.drop k)).2.2.2 ≠ 0) : endG l k = k := by
  unfold endG
  cases l.length - k with
  | zero => rfl
  | succ f => simp [endFG, h]
theorem restF_step (l : List UInt8) (k : Nat) (hk : k < l.length) (h : (takeR (l.drop k)).2.2.2 = 0) :
    restF l k = (k, (takeR (l.drop k)).1, (takeR (l.drop k)).2.1) :: restF l (k + (takeR (l.drop k)).2.2.1) := by
  have hs := takeR_ok _ h
  rw [List.length_drop] at hs
  unfold restF
  obtain ⟨f, hf⟩ : ∃ f, l.length - k = f + 1 := ⟨l.length - k - 1, by omega⟩
  rw [hf, rowsFG, if_pos h]
  rw [rowsFG_fuel f (l.length - (k + (takeR (l.drop k)).2.2.1)) _ _ (by rw [List.length_drop, List.length_drop]; omega) (by rw [List.length_drop, List.length_drop]; omega), List.drop_drop]
theorem endG_step (l : List UInt8) (k : Nat) (hk : k < l.length) (h : (takeR (l.drop k)).2.2.2 = 0) : endG l k = endG l (k + (takeR (l.drop k)).2.2.1) := by
  have hs := takeR_ok _ h
  rw [List.length_drop] at hs
  unfold endG
  obtain ⟨f, hf⟩ : ∃ f, l.length - k = f + 1 := ⟨l.length - k - 1, by omega⟩
  rw [hf, endFG, if_pos h]
  rw [endFG_fuel f (l.length - (k + (takeR (l.drop k)).2.2.1)) _ _ (by rw [List.length_drop, List.length_drop]; omega) (by rw [List.length_drop, List.length_drop]; omega), List.drop_drop]

theorem takeF_of (l : List UInt8) (k : Nat) (hk : k ≤ l.length) : takeF l k = if (takeR (l.drop k)).2.2.2 = 0 then ((takeR (l.drop k)).1, (takeR (l.drop k)).2.1, k + (takeR (l.drop k)).2.2.1, 0) else (0, [], 0, (takeR (l.drop k)).2.2.2) := by
  unfold takeF
  rw [if_neg (by omega)]

theorem rowsFG_length (f : Nat) : ∀ at_ r, 12 * (rowsFG f at_ r).length ≤ r.length := by
  induction f with
  | zero => intro at_ r; simp [rowsFG]
  | succ f ih =>
    intro at_ r
    simp only [rowsFG]
    split
    · rename_i h
      have hs := takeR_ok r h
      have := ih (at_ + (takeR r).2.2.1) (r.drop (takeR r).2.2.1)
      rw [List.length_drop] at this
      rw [List.length_cons]
      omega
    · simp
theorem rowsF_length (l : List UInt8) : 12 * (rowsF l).length ≤ l.length := rowsFG_length _ _ _

theorem endFG_le (f : Nat) : ∀ at_ r, r.length ≤ f → at_ ≤ endFG f at_ r ∧ endFG f at_ r ≤ at_ + r.length := by
  induction f with
  | zero => intro at_ r h; simp [endFG]
  | succ f ih =>
    intro at_ r hf
    simp only [endFG]
    split
    · rename_i h
      have hs := takeR_ok r h
      have := ih (at_ + (takeR r).2.2.1) (r.drop (takeR r).2.2.1) (by rw [List.length_drop]; omega)
      rw [List.length_drop] at this
      omega
    · omega
theorem endF_le (l : List UInt8) : endF l ≤ l.length := by
  have := endFG_le l.length 0 l (Nat.le_refl _)
  unfold endF
  omega

/-- Where the walk of the records ends: the last place and its record tell it. -/
def lastEnd : List (Nat × Nat × List UInt8) → Nat → Nat
  | [], d => d
  | x :: xs, _ => lastEnd xs (x.1 + x.2.2.length + 12)
theorem lastEnd_snoc (xs : List (Nat × Nat × List UInt8)) : ∀ d x, lastEnd (xs ++ [x]) d = x.1 + x.2.2.length + 12 := by
  induction xs with
  | nil => intro d x; rfl
  | cons y ys ih => intro d x; exact ih _ x
theorem lastEnd_rowsFG (f : Nat) : ∀ at_ r, lastEnd (rowsFG f at_ r) at_ = endFG f at_ r := by
  induction f with
  | zero => intro at_ r; rfl
  | succ f ih =>
    intro at_ r
    simp only [rowsFG, endFG]
    split
    · rename_i h
      have hs := takeR_ok r h
      show lastEnd (rowsFG f (at_ + (takeR r).2.2.1) (r.drop (takeR r).2.2.1)) (at_ + (takeR r).2.1.length + 12) = _
      rw [show at_ + (takeR r).2.1.length + 12 = at_ + (takeR r).2.2.1 from by omega]
      exact ih _ _
    · rfl
theorem lastEnd_rowsF (l : List UInt8) : lastEnd (rowsF l) 0 = endF l := lastEnd_rowsFG _ _ _
/-- What is wrong where the records end. -/
theorem endFG_err (f : Nat) : ∀ (at_ : Nat) (r : List UInt8), r.length ≤ f → (takeR (r.drop (endFG f at_ r - at_))).2.2.2 ≠ 0 := by
  induction f with
  | zero =>
    intro at_ r h
    obtain rfl : r = [] := List.eq_nil_of_length_eq_zero (by omega)
    simp [takeR_nil]
  | succ f ih =>
    intro at_ r hf
    simp only [endFG]
    split
    · rename_i h
      have hs := takeR_ok r h
      have hi := ih (at_ + (takeR r).2.2.1) (r.drop (takeR r).2.2.1) (by rw [List.length_drop]; omega)
      have hle := endFG_le f (at_ + (takeR r).2.2.1) (r.drop (takeR r).2.2.1) (by rw [List.length_drop]; omega)
      rw [List.drop_drop] at hi
      rw [show endFG f (at_ + (takeR r).2.2.1) (r.drop (takeR r).2.2.1) - at_ = (takeR r).2.2.1 + (endFG f (at_ + (takeR r).2.2.1) (r.drop (takeR r).2.2.1) - (at_ + (takeR r).2.2.1)) from by omega]
      exact hi
    · rename_i h
      rw [Nat.sub_self, List.drop_zero]
      exact h
theorem endF_err (l : List UInt8) : (takeR (l.drop (endF l))).2.2.2 ≠ 0 := endFG_err l.length 0 l (Nat.le_refl _)
end Go.Proofs.Ytcmbdbphddokmaa
