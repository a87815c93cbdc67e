/-
  PLAIN RECORDS. No program in sight. 'frameB k b': a record of the kind k with the body b; 'takeR r': the record that bytes begin with: its kind, its body, how many bytes it has, and the error's number.
-/
import Derived.Test.YtcmbdbphddokmaaPlainNum
import Derived.Test.YtcmbdbphddokmaaPlainCrc
namespace Go.Proofs.Ytcmbdbphddokmaa

def headB (kind n : Nat) : List UInt8 := UInt8.ofNat kind :: fix n 3
def frameB (kind : Nat) (body : List UInt8) : List UInt8 := seal_ (headB kind body.length) ++ seal_ body

/-- What the head says, the head being h: the record behind it being r. -/
def takeH (h r : List UInt8) : Nat × List UInt8 × Nat × Nat :=
  if (h.headD 0).toNat < 1 ∨ 250 < (h.headD 0).toNat ∨ 70000 < fixed (h.drop 1) then (0, [], 0, 3)
  else if r.length < fixed (h.drop 1) + 4 then (0, [], 0, 4)
  else if (openR (r.take (fixed (h.drop 1) + 4))).2 = 0 then ((h.headD 0).toNat, (openR (r.take (fixed (h.drop 1) + 4))).1, fixed (h.drop 1) + 12, 0)
  else (0, [], 0, (openR (r.take (fixed (h.drop 1) + 4))).2)

def takeR (r : List UInt8) : Nat × List UInt8 × Nat × Nat :=
  if r.length < 8 then (0, [], 0, 4)
  else if (openR (r.take 8)).2 = 0 then takeH (openR (r.take 8)).1 (r.drop 8)
  else (0, [], 0, (openR (r.take 8)).2)

theorem headB_length (k n : Nat) : (headB k n).length = 4 := by simp [headB, fix_length]
theorem frameB_length (k : Nat) (b : List UInt8) : (frameB k b).length = b.length + 12 := by
  unfold frameB
  rw [List.length_append, seal_length, seal_length, headB_length]
  omega

theorem head_kind (k n : Nat) (h : k < 256) : ((headB k n).headD 0).toNat = k := by
  simp [headB]; omega
theorem head_len (k n : Nat) (h : n < 16777216) : fixed ((headB k n).drop 1) = n := by
  show fixed (fix n 3) = n
  rw [fixed_fix]
  exact Nat.mod_eq_of_lt (by simpa using h)

/-- **What is framed is taken again.** -/
theorem takeR_frame (k : Nat) (b rest : List UInt8) (h1 : 1 ≤ k) (h2 : k ≤ 250) (h3 : b.length ≤ 70000) : takeR (frameB k b ++ rest) = (k, b, b.length + 12, 0) := by
  have hl := seal_length (headB k b.length)
  rw [headB_length] at hl
  have hlb := seal_length b
  have e1 : (frameB k b ++ rest).take 8 = seal_ (headB k b.length) := by
    unfold frameB
    rw [List.append_assoc, List.take_append_of_le_length (by omega), List.take_of_length_le (by omega)]
  have e2 : (frameB k b ++ rest).drop 8 = seal_ b ++ rest := by
    unfold frameB
    rw [List.append_assoc, List.drop_append_of_le_length (by omega), List.drop_of_length_le (by omega), List.nil_append]
  have e3 : (seal_ b ++ rest).take (b.length + 4) = seal_ b := by
    rw [List.take_append_of_le_length (by omega), List.take_of_length_le (by omega)]
  unfold takeR
  rw [if_neg (by rw [List.length_append, frameB_length]; omega), e1, open_seal, if_pos rfl, e2]
  unfold takeH
  rw [head_kind _ _ (by omega), head_len _ _ (by omega), if_neg (by omega), if_neg (by rw [List.length_append]; omega), e3, open_seal, if_pos rfl]

/-- What an opened text may be. -/
theorem openR_err (l : List UInt8) (h : (openR l).2 ≠ 0) : (openR l).1 = [] := by
  unfold openR at h ⊢
  split
  · rfl
  · rename_i h1
    rw [if_neg h1] at h
    split
    · rename_i h2
      rw [if_pos h2] at h
      exact absurd rfl h
    · rfl
theorem openR_len (l : List UInt8) (h : (openR l).2 = 0) : (openR l).1.length + 4 = l.length := by
  unfold openR at h ⊢
  split
  · rename_i h1
    rw [if_pos h1] at h
    simp at h
  · rename_i h1
    rw [if_neg h1] at h
    split
    · simp only [List.length_take]; omega
    · rename_i h2
      rw [if_neg h2] at h
      simp at h
theorem openR_le (l : List UInt8) : (openR l).1.length ≤ l.length := by
  by_cases h : (openR l).2 = 0
  · have := openR_len l h; omega
  · rw [openR_err l h]; simp
theorem openR_code (l : List UInt8) : (openR l).2 = 0 ∨ (openR l).2 = 4 ∨ (openR l).2 = 5 := by
  unfold openR
  split
  · simp
  · split <;> simp

/-- An error says no more. -/
theorem takeR_bad (r : List UInt8) (h : (takeR r).2.2.2 ≠ 0) : (takeR r).1 = 0 ∧ (takeR r).2.1 = [] ∧ (takeR r).2.2.1 = 0 := by
  unfold takeR at h ⊢
  split
  · simp
  · rename_i h1
    rw [if_neg h1] at h
    split
    · rename_i h2
      rw [if_pos h2] at h
      unfold takeH at h ⊢
      split
      · simp
      · rename_i h3
        rw [if_neg h3] at h
        split
        · simp
        · rename_i h4
          rw [if_neg h4] at h
          split
          · rename_i h5
            rw [if_pos h5] at h
            exact absurd rfl h
          · simp
    · simp

/-- A record has twelve bytes besides its body, and lies within the bytes. -/
theorem takeR_ok (r : List UInt8) (h : (takeR r).2.2.2 = 0) : (takeR r).2.2.1 = (takeR r).2.1.length + 12 ∧ (takeR r).2.2.1 ≤ r.length ∧ 1 ≤ (takeR r).1 ∧ (takeR r).1 ≤ 250 ∧ (takeR r).2.1.length ≤ 70000 := by
  unfold takeR at h ⊢
  split
  · rename_i h1; rw [if_pos h1] at h; simp at h
  · rename_i h1
    rw [if_neg h1] at h
    split
    · rename_i h2
      rw [if_pos h2] at h
      unfold takeH at h ⊢
      split
      · rename_i h3; rw [if_pos h3] at h; simp at h
      · rename_i h3
        rw [if_neg h3] at h
        split
        · rename_i h4; rw [if_pos h4] at h; simp at h
        · rename_i h4
          rw [if_neg h4] at h
          split
          · rename_i h5
            have hl := openR_len _ h5
            rw [List.length_take] at hl
            rw [List.length_drop] at h4
            rw [List.length_drop] at hl
            simp only
            omega
          · rename_i h5
            rw [if_neg h5] at h
            exact absurd h h5
    · rename_i h2
      rw [if_neg h2] at h
      exact absurd h h2

/-- At a place. -/
def takeF (l : List UInt8) (p : Nat) : Nat × List UInt8 × Nat × Nat :=
  if l.length < p then (0, [], 0, 1) else if (takeR (l.drop p)).2.2.2 = 0 then ((takeR (l.drop p)).1, (takeR (l.drop p)).2.1, p + (takeR (l.drop p)).2.2.1, 0) else (0, [], 0, (takeR (l.drop p)).2.2.2)
end Go.Proofs.Ytcmbdbphddokmaa
