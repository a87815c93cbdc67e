/-
  PLAIN NUMBERS OF A FEW BITS. No program in sight. 'blen x': how many bits a number has; 'pack w l': numbers as bits, w each; 'readP m s': the numbers that bytes begin with, each below 2^m.
-/
import Derived.Test.YtgclakhcddadpaaPlainNum
namespace Go.Proofs.Ytgclakhcddadpaa

/-! ### How many bits -/
def blen (x : Nat) : Nat := if x = 0 then 0 else Nat.log2 x + 1

theorem blen_le {x k : Nat} : blen x ≤ k ↔ x < 2 ^ k := by
  unfold blen
  by_cases h : x = 0
  · subst h; simp; exact Nat.pow_pos (by omega)
  · rw [if_neg h]
    have := Nat.log2_lt (n := x) (k := k) h
    omega
theorem blen_lt (x : Nat) : x < 2 ^ blen x := blen_le.1 (Nat.le_refl _)
theorem blen_zero : blen 0 = 0 := rfl

def widthL (l : List Nat) : Nat := l.foldl (fun w x => max w (blen x)) 0
theorem widthL_nil : widthL [] = 0 := rfl
theorem widthL_snoc (l : List Nat) (x : Nat) : widthL (l ++ [x]) = max (widthL l) (blen x) := by simp [widthL]
theorem widthG_le (l : List Nat) : ∀ (a k : Nat), l.foldl (fun w x => max w (blen x)) a ≤ k ↔ a ≤ k ∧ ∀ x ∈ l, x < 2 ^ k := by
  induction l with
  | nil => intro a k; simp
  | cons x l ih =>
    intro a k
    rw [List.foldl_cons, ih, Nat.max_le, blen_le]
    constructor
    · rintro ⟨⟨h1, h2⟩, h3⟩
      refine ⟨h1, fun y hy => ?_⟩
      rcases List.mem_cons.1 hy with rfl | hy
      · exact h2
      · exact h3 y hy
    · rintro ⟨h1, h2⟩
      exact ⟨⟨h1, h2 x (by simp)⟩, fun y hy => h2 y (by simp [hy])⟩
theorem widthL_le {l : List Nat} {k : Nat} : widthL l ≤ k ↔ ∀ x ∈ l, x < 2 ^ k := by
  unfold widthL
  rw [widthG_le]
  simp
theorem widthL_take (l : List Nat) (j : Nat) (h : j < l.length) : widthL (l.take (j + 1)) = max (widthL (l.take j)) (blen l[j]) := by
  rw [List.take_succ_eq_append_getElem h, widthL_snoc]
theorem widthL_64 (l : List Nat) (h : ∀ x ∈ l, x < 18446744073709551616) : widthL l ≤ 64 := widthL_le.2 h

/-! ### Bits of numbers -/
/-- The number of which the k-th bit is f k. -/
def ofBits : Nat → (Nat → Bool) → Nat
  | 0, _ => 0
  | n + 1, f => ofBits n f + if f n then 2 ^ n else 0

theorem ofBits_lt (f : Nat → Bool) : ∀ n, ofBits n f < 2 ^ n
  | 0 => by simp [ofBits]
  | n + 1 => by
    have := ofBits_lt f n
    simp only [ofBits, Nat.pow_succ]
    split <;> omega

theorem ofBits_or (f : Nat → Bool) (n : Nat) : ofBits (n + 1) f = ofBits n f ||| (if f n then 2 ^ n else 0) := by
  have h := ofBits_lt f n
  simp only [ofBits]
  split
  · rw [Nat.or_comm, Nat.add_comm]
    have := Nat.two_pow_add_eq_or_of_lt h 1
    simpa using this
  · simp

theorem ofBits_testBit (f : Nat → Bool) : ∀ n i, (ofBits n f).testBit i = (decide (i < n) && f i)
  | 0, i => by simp [ofBits]
  | n + 1, i => by
    rw [ofBits_or, Nat.testBit_or, ofBits_testBit f n i]
    by_cases hin : i = n
    · subst hin
      cases h : f i <;> simp [Nat.testBit_two_pow]
    · have e : decide (i < n + 1) = decide (i < n) := by
        by_cases h : i < n
        · simp [h]; omega
        · simp [h]; omega
      rw [e]
      cases h : f n <;> simp [Nat.testBit_two_pow]
      intro hn
      exact absurd hn.symm hin

theorem ofBits_self (x n : Nat) (h : x < 2 ^ n) : ofBits n x.testBit = x := by
  apply Nat.eq_of_testBit_eq
  intro i
  rw [ofBits_testBit]
  by_cases hi : i < n
  · simp [hi]
  · have : x.testBit i = false := Nat.testBit_lt_two_pow (Nat.lt_of_lt_of_le h (Nat.pow_le_pow_right (by omega) (by omega)))
    simp [hi, this]

theorem ofBits_congr {f g : Nat → Bool} : ∀ n, (∀ k, k < n → f k = g k) → ofBits n f = ofBits n g
  | 0, _ => rfl
  | n + 1, h => by simp only [ofBits, ofBits_congr n (fun k hk => h k (by omega)), h n (by omega)]

/-! ### Bits of bytes -/
def bitB (b : List UInt8) (i : Nat) : Bool := (b.getD (i / 8) 0).toNat.testBit (i % 8)
def byteOf (f : Nat → Bool) : UInt8 := UInt8.ofNat (ofBits 8 f)
/-- The n bytes of which the i-th bit is f i. -/
def packF (f : Nat → Bool) (n : Nat) : List UInt8 := (List.range n).map fun j => byteOf fun t => f (8 * j + t)

theorem byteOf_toNat (f : Nat → Bool) : (byteOf f).toNat = ofBits 8 f := by
  have := ofBits_lt f 8
  unfold byteOf
  simp
  omega
theorem packF_length (f : Nat → Bool) (n : Nat) : (packF f n).length = n := by simp [packF]
theorem packF_get (f : Nat → Bool) (n j : Nat) (h : j < n) : (packF f n)[j]'(by rw [packF_length]; exact h) = byteOf fun t => f (8 * j + t) := by simp [packF]
theorem bitB_packF (f : Nat → Bool) (n i : Nat) (h : i < 8 * n) : bitB (packF f n) i = f i := by
  unfold bitB
  rw [List.getD_eq_getElem?_getD, List.getElem?_eq_getElem (by rw [packF_length]; omega), packF_get f n _ (by omega)]
  simp only [Option.getD_some]
  rw [byteOf_toNat, ofBits_testBit]
  have e : 8 * (i / 8) + i % 8 = i := by omega
  simp only [e]
  simp
  omega
theorem packF_zero (n : Nat) : packF (fun _ => false) n = List.replicate n 0 := by
  apply List.ext_getElem
  · simp [packF_length]
  · intro i h1 h2
    rw [packF_length] at h1
    rw [packF_get _ _ _ h1, List.getElem_replicate]
    rfl
theorem packF_congr {f g : Nat → Bool} (n : Nat) (h : ∀ i, i < 8 * n → f i = g i) : packF f n = packF g n := by
  apply List.ext_getElem
  · simp [packF_length]
  · intro i h1 h2
    rw [packF_length] at h1
    rw [packF_get _ _ _ h1, packF_get _ _ _ h1]
    unfold byteOf
    rw [ofBits_congr 8 fun k hk => h _ (by omega)]

theorem byte_setBit (f : Nat → Bool) (t : Nat) (ht : t < 8) (v : Bool) (hf : f t = false) : byteOf f ||| UInt8.ofNat (if v then 2 ^ t else 0) = byteOf (fun k => if k = t then v else f k) := by
  have h2 : (if v then 2 ^ t else 0) < 256 := by
    split
    · have := Nat.pow_lt_pow_right (a := 2) (by omega) ht; omega
    · omega
  apply UInt8.toNat_inj.1
  rw [UInt8.toNat_or, byteOf_toNat, byteOf_toNat]
  have e : (UInt8.ofNat (if v then 2 ^ t else 0)).toNat = if v then 2 ^ t else 0 := by
    simp only [UInt8.toNat_ofNat']
    exact Nat.mod_eq_of_lt h2
  rw [e]
  apply Nat.eq_of_testBit_eq
  intro i
  rw [Nat.testBit_or, ofBits_testBit, ofBits_testBit]
  by_cases hi : i = t
  · subst hi
    cases v <;> simp [ht, hf, Nat.testBit_two_pow]
  · have hti : ¬ t = i := fun h => hi h.symm
    cases v <;> simp [hi, hti, Nat.testBit_two_pow]

/-- One bit more. -/
theorem packF_step (f : Nat → Bool) (n a : Nat) (ha : a < 8 * n) (h : a / 8 < (packF (fun i => decide (i < a) && f i) n).length) :
    (packF (fun i => decide (i < a) && f i) n).set (a / 8) ((packF (fun i => decide (i < a) && f i) n)[a / 8] ||| UInt8.ofNat (if f a then 2 ^ (a % 8) else 0)) = packF (fun i => decide (i < a + 1) && f i) n := by
  apply List.ext_getElem
  · simp [packF_length]
  · intro i h1 h2
    have h2' : i < n := by rw [packF_length] at h2; exact h2
    have hr : (packF (fun i => decide (i < a + 1) && f i) n)[i] = byteOf fun t => decide (8 * i + t < a + 1) && f (8 * i + t) := packF_get _ n i h2'
    have hl : (packF (fun i => decide (i < a) && f i) n)[a / 8] = byteOf fun t => decide (8 * (a / 8) + t < a) && f (8 * (a / 8) + t) := packF_get _ n (a / 8) (by omega)
    rw [List.getElem_set, hr]
    split
    · rename_i hi
      rw [hl, byte_setBit _ _ (by omega) _ (by simp; omega)]
      unfold byteOf
      congr 1
      refine ofBits_congr 8 fun k hk => ?_
      by_cases hk2 : k = a % 8
      · rw [if_pos hk2]
        have e : 8 * i + k = a := by omega
        rw [e]
        simp
      · rw [if_neg hk2]
        have e : decide (8 * (a / 8) + k < a) = decide (8 * i + k < a + 1) := by
          subst hi
          by_cases hh : 8 * (a / 8) + k < a
          · simp [hh]; omega
          · simp [hh]; omega
        rw [e, hi]
    · rename_i hi
      have hm : (packF (fun i => decide (i < a) && f i) n)[i]'(by rw [packF_length]; exact h2') = byteOf fun t => decide (8 * i + t < a) && f (8 * i + t) := packF_get _ n i h2'
      rw [hm]
      unfold byteOf
      congr 1
      refine ofBits_congr 8 fun k hk => ?_
      have e : decide (8 * i + k < a) = decide (8 * i + k < a + 1) := by
        by_cases hh : 8 * i + k < a
        · simp [hh]; omega
        · simp [hh]; omega
      rw [e]

/-! ### Numbers packed -/
def sizeP (n w : Nat) : Nat := (n * w + 7) / 8
def bitN (w : Nat) (l : List Nat) (i : Nat) : Bool := decide (i < l.length * w) && (l.getD (i / w) 0).testBit (i % w)
def pack (w : Nat) (l : List Nat) : List UInt8 := packF (bitN w l) (sizeP l.length w)
def packAll (w : Nat) (l : List Nat) : List UInt8 := put l.length ++ UInt8.ofNat w :: pack w l

theorem pack_length (w : Nat) (l : List Nat) : (pack w l).length = sizeP l.length w := packF_length _ _
theorem packAll_length (w : Nat) (l : List Nat) : (packAll w l).length = (put l.length).length + 1 + sizeP l.length w := by simp [packAll, pack_length]; omega

/-- The bit at place k of number j. -/
theorem bitN_at (w : Nat) (l : List Nat) (j k : Nat) (hk : k < w) (hj : j < l.length) : bitN w l (j * w + k) = l[j].testBit k := by
  unfold bitN
  have h1 : (j * w + k) / w = j := by rw [Nat.mul_comm, Nat.mul_add_div (by omega), Nat.div_eq_of_lt hk, Nat.add_zero]
  have h2 : (j * w + k) % w = k := by rw [Nat.mul_comm, Nat.mul_add_mod, Nat.mod_eq_of_lt hk]
  have h3 : j * w + k < l.length * w := by
    have : (j + 1) * w ≤ l.length * w := Nat.mul_le_mul_right w hj
    rw [Nat.succ_mul] at this
    omega
  rw [h1, h2, List.getD_eq_getElem?_getD, List.getElem?_eq_getElem hj]
  simp [h3]
theorem bitN_out (w : Nat) (l : List Nat) (i : Nat) (h : l.length * w ≤ i) : bitN w l i = false := by
  unfold bitN
  simp; omega
/-- The bits of a first part. -/
theorem pack_all (w : Nat) (l : List Nat) : packF (fun i => decide (i < l.length * w) && bitN w l i) (sizeP l.length w) = pack w l := by
  refine packF_congr _ fun i _ => ?_
  unfold bitN
  cases decide (i < l.length * w) <;> simp

/-! ### Reading -/
def numAt (b : List UInt8) (w i : Nat) : Nat := ofBits w fun k => bitB b (i * w + k)
theorem numAt_lt (b : List UInt8) (w i : Nat) : numAt b w i < 2 ^ w := ofBits_lt _ _

/-- Does each of the first n fit m bits? -/
def fits (m : Nat) (b : List UInt8) (w n : Nat) : Bool := (List.range n).all fun i => decide (numAt b w i < 2 ^ m)
/-- Is each bit from the place a on nought, up to z? -/
def tailZ (b : List UInt8) (a z : Nat) : Bool := (List.range (z - a)).all fun i => !bitB b (a + i)

theorem fits_zero (m : Nat) (b : List UInt8) (w : Nat) : fits m b w 0 = true := rfl
theorem fits_succ (m : Nat) (b : List UInt8) (w n : Nat) : fits m b w (n + 1) = (fits m b w n && decide (numAt b w n < 2 ^ m)) := by
  simp [fits, List.range_succ]
theorem fits_false {m : Nat} {b : List UInt8} {w i n : Nat} (hi : i < n) (h : ¬ numAt b w i < 2 ^ m) : fits m b w n = false := by
  unfold fits
  rw [List.all_eq_false]
  exact ⟨i, List.mem_range.2 hi, by simpa using h⟩
theorem tailZ_false {b : List UInt8} {a z i : Nat} (h1 : a ≤ i) (h2 : i < z) (h : bitB b i = true) : tailZ b a z = false := by
  unfold tailZ
  rw [List.all_eq_false]
  exact ⟨i - a, List.mem_range.2 (by omega), by rw [show a + (i - a) = i from by omega]; simp [h]⟩
theorem tailZ_true {b : List UInt8} {a z : Nat} (h : ∀ i, a ≤ i → i < z → bitB b i = false) : tailZ b a z = true := by
  unfold tailZ
  rw [List.all_eq_true]
  intro i hi
  have := List.mem_range.1 hi
  rw [h _ (by omega) (by omega)]
  rfl

def numsAt (b : List UInt8) (w n : Nat) : List Nat := (List.range n).map fun i => numAt b w i
theorem numsAt_succ (b : List UInt8) (w n : Nat) : numsAt b w (n + 1) = numsAt b w n ++ [numAt b w n] := by simp [numsAt, List.range_succ]
theorem numsAt_length (b : List UInt8) (w n : Nat) : (numsAt b w n).length = n := by simp [numsAt]
theorem numsAt_lt (m : Nat) (b : List UInt8) (w n : Nat) (h : fits m b w n = true) : ∀ x ∈ numsAt b w n, x < 2 ^ m := by
  intro x hx
  simp only [numsAt, List.mem_map, List.mem_range] at hx
  obtain ⟨i, hi, rfl⟩ := hx
  unfold fits at h
  rw [List.all_eq_true] at h
  simpa using h i (List.mem_range.2 hi)

/-- What the part behind the head says: width, numbers, how many bytes, the error. -/
def readQ (m : Nat) (r : List UInt8) (at_ n w : Nat) : Nat × List Nat × Nat × Nat :=
  if r.length < sizeP n w then (0, [], 0, 4)
  else if fits m (r.take (sizeP n w)) w n then
    if tailZ (r.take (sizeP n w)) (n * w) (8 * sizeP n w) then (w, numsAt (r.take (sizeP n w)) w n, at_ + sizeP n w, 0) else (0, [], 0, 3)
  else (0, [], 0, 3)

/-- The head: how many, how wide, where they begin, the error. -/
def headP (s : List UInt8) : Nat × Nat × Nat × Nat :=
  if (take s).2.2 ≠ 0 then (0, 0, 0, (take s).2.2)
  else if 100000 < (take s).1 then (0, 0, 0, 2)
  else if s.length ≤ (take s).2.1 then (0, 0, 0, 4)
  else if 64 < (s.getD (take s).2.1 0).toNat then (0, 0, 0, 3)
  else ((take s).1, (s.getD (take s).2.1 0).toNat, (take s).2.1 + 1, 0)

def readP (m : Nat) (s : List UInt8) : Nat × List Nat × Nat × Nat :=
  if (headP s).2.2.2 ≠ 0 then (0, [], 0, (headP s).2.2.2) else readQ m (s.drop (headP s).2.2.1) (headP s).2.2.1 (headP s).1 (headP s).2.1

theorem headP_ok (s : List UInt8) (h : (headP s).2.2.2 = 0) : (headP s).1 ≤ 100000 ∧ (headP s).2.1 ≤ 64 ∧ (headP s).2.2.1 ≤ s.length ∧ 1 ≤ (headP s).2.2.1 := by
  unfold headP at h ⊢
  split
  · rename_i h1; rw [if_pos h1] at h; exact absurd h h1
  · rename_i h1
    rw [if_neg h1] at h
    split
    · rename_i h2; rw [if_pos h2] at h; simp at h
    · rename_i h2
      rw [if_neg h2] at h
      split
      · rename_i h3; rw [if_pos h3] at h; simp at h
      · rename_i h3
        rw [if_neg h3] at h
        split
        · rename_i h4; rw [if_pos h4] at h; simp at h
        · simp only
          omega

theorem head_packAll (w : Nat) (l : List Nat) (rest : List UInt8) (hw : w ≤ 64) (hl : l.length ≤ 100000) : headP (packAll w l ++ rest) = (l.length, w, (put l.length).length + 1, 0) := by
  have e : packAll w l ++ rest = put l.length ++ (UInt8.ofNat w :: (pack w l ++ rest)) := by simp [packAll]
  have ht := take_put l.length (by omega) (UInt8.ofNat w :: (pack w l ++ rest))
  have hg : (packAll w l ++ rest).getD (put l.length).length 0 = UInt8.ofNat w := by
    rw [e, List.getD_eq_getElem?_getD, List.getElem?_append_right (Nat.le_refl _), Nat.sub_self]
    rfl
  have hu : (UInt8.ofNat w).toNat = w := by simp; omega
  rw [← e] at ht
  unfold headP
  rw [ht]
  simp only [ne_eq, not_true, if_false]
  rw [if_neg (by omega), if_neg (by rw [e, List.length_append]; simp), hg, hu, if_neg (by omega)]

theorem bitB_append (a b : List UInt8) (i : Nat) (h : i < 8 * a.length) : bitB (a ++ b) i = bitB a i := by
  unfold bitB
  rw [List.getD_eq_getElem?_getD, List.getD_eq_getElem?_getD, List.getElem?_append_left (by omega)]

/-- **What is packed is read again.** -/
theorem read_pack (m w : Nat) (l : List Nat) (rest : List UInt8) (hw : w ≤ 64) (hl : l.length ≤ 100000) (h1 : ∀ x ∈ l, x < 2 ^ w) (h2 : ∀ x ∈ l, x < 2 ^ m) :
    readP m (packAll w l ++ rest) = (w, l, (packAll w l).length, 0) := by
  have hd : (packAll w l ++ rest).drop ((put l.length).length + 1) = pack w l ++ rest := by
    have e : packAll w l ++ rest = (put l.length ++ [UInt8.ofNat w]) ++ (pack w l ++ rest) := by simp [packAll]
    rw [e, List.drop_append_of_le_length (by simp), List.drop_of_length_le (by simp), List.nil_append]
  have hp := pack_length w l
  have ht : (pack w l ++ rest).take (sizeP l.length w) = pack w l := by
    rw [List.take_append_of_le_length (by omega), List.take_of_length_le (by omega)]
  have hsz : l.length * w ≤ 8 * sizeP l.length w := by unfold sizeP; omega
  have hnum : ∀ i (h : i < l.length), numAt (pack w l) w i = l[i] := by
    intro i hi
    have hx := h1 l[i] (List.getElem_mem hi)
    have e : ∀ k, k < w → bitB (pack w l) (i * w + k) = l[i].testBit k := by
      intro k hk
      have h3 : i * w + k < l.length * w := by
        have : (i + 1) * w ≤ l.length * w := Nat.mul_le_mul_right w hi
        rw [Nat.succ_mul] at this
        omega
      unfold pack
      rw [bitB_packF _ _ _ (by omega), bitN_at w l i k hk hi]
    unfold numAt
    rw [ofBits_congr w e, ofBits_self _ _ hx]
  have hnums : numsAt (pack w l) w l.length = l := by
    apply List.ext_getElem
    · rw [numsAt_length]
    · intro i h3 h4
      simp only [numsAt, List.getElem_map, List.getElem_range]
      exact hnum i h4
  have hfit : fits m (pack w l) w l.length = true := by
    unfold fits
    rw [List.all_eq_true]
    intro i hi
    have hi := List.mem_range.1 hi
    rw [hnum i hi]
    simpa using h2 _ (List.getElem_mem hi)
  have htl : tailZ (pack w l) (l.length * w) (8 * sizeP l.length w) = true := by
    refine tailZ_true fun i h3 h4 => ?_
    unfold pack
    rw [bitB_packF _ _ _ h4, bitN_out w l i h3]
  unfold readP
  rw [head_packAll w l rest hw hl]
  simp only [ne_eq, not_true, if_false]
  rw [hd]
  unfold readQ
  rw [if_neg (by rw [List.length_append]; omega), ht, hfit, if_pos rfl, htl, if_pos rfl, hnums, packAll_length]

theorem readP_err (m : Nat) (s : List UInt8) (h : (readP m s).2.2.2 ≠ 0) : (readP m s).1 = 0 ∧ (readP m s).2.1 = [] ∧ (readP m s).2.2.1 = 0 := by
  unfold readP at h ⊢
  split
  · simp
  · rename_i h1
    rw [if_neg h1] at h
    unfold readQ at h ⊢
    split
    · simp
    · rename_i h2
      rw [if_neg h2] at h
      split
      · rename_i h3
        rw [if_pos h3] at h
        split
        · rename_i h4; rw [if_pos h4] at h; exact absurd rfl h
        · simp
      · simp
theorem readP_ok (m : Nat) (s : List UInt8) (h : (readP m s).2.2.2 = 0) : (readP m s).1 ≤ 64 ∧ (readP m s).2.1.length ≤ 100000 ∧ (∀ x ∈ (readP m s).2.1, x < 2 ^ m) ∧ (readP m s).2.2.1 ≤ s.length := by
  unfold readP at h ⊢
  split
  · rename_i h1; rw [if_pos h1] at h; exact absurd h h1
  · rename_i h1
    rw [if_neg h1] at h
    have hk := headP_ok s (by omega)
    unfold readQ at h ⊢
    split
    · rename_i h2; rw [if_pos h2] at h; simp at h
    · rename_i h2
      rw [if_neg h2] at h
      rw [List.length_drop] at h2
      split
      · rename_i h3
        rw [if_pos h3] at h
        split
        · refine ⟨hk.2.1, by rw [numsAt_length]; exact hk.1, numsAt_lt m _ _ _ h3, by simp only; omega⟩
        · rename_i h4; rw [if_neg h4] at h; simp at h
      · rename_i h3; rw [if_neg h3] at h; simp at h
end Go.Proofs.Ytgclakhcddadpaa
