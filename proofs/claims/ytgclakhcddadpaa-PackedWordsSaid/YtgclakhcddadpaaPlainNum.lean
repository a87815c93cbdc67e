/-
  PLAIN NUMBERS. No program in sight. 'put n': the bytes of a number, seven bits each, the lowest first. 'take l': the number that bytes begin with, how many bytes it has, and the error's number.
-/
import Derived.WalkKit
namespace Go.Proofs.Ytgclakhcddadpaa

/-- A byte's cell. -/
def u8c (u : UInt8) : Value := .int .u8 (u.toNat : Int)
/-- Bytes as cells. -/
def cb (l : List UInt8) : List Value := l.map u8c

theorem cb_length (l : List UInt8) : (cb l).length = l.length := by simp [cb]
theorem cb_append (a b : List UInt8) : cb (a ++ b) = cb a ++ cb b := by simp [cb]
theorem cb_get (l : List UInt8) (i : Nat) (h : i < l.length) : (cb l)[i]? = some (u8c l[i]) := by simp [cb, h]

/-- A number as bytes. -/
def put (n : Nat) : List UInt8 :=
  if h : n < 128 then [UInt8.ofNat n] else UInt8.ofNat (n % 128 + 128) :: put (n / 128)
termination_by n
decreasing_by omega

theorem put_small {n : Nat} (h : n < 128) : put n = [UInt8.ofNat n] := by rw [put, dif_pos h]
theorem put_big {n : Nat} (h : ¬ n < 128) : put n = UInt8.ofNat (n % 128 + 128) :: put (n / 128) := by rw [put, dif_neg h]

theorem put_pos (n : Nat) : 1 ≤ (put n).length := by
  by_cases h : n < 128
  · rw [put_small h]; simp
  · rw [put_big h]; simp

theorem put_le (k : Nat) : ∀ n, n < 128 ^ (k + 1) → (put n).length ≤ k + 1 := by
  induction k with
  | zero => intro n h; rw [put_small (by simpa using h)]; simp
  | succ k ih =>
    intro n h
    by_cases hs : n < 128
    · rw [put_small hs]; simp
    · rw [put_big hs, List.length_cons]
      have : n / 128 < 128 ^ (k + 1) := by
        rw [Nat.div_lt_iff_lt_mul (by omega)]
        rw [Nat.pow_succ] at h; exact h
      have := ih _ this
      omega

theorem put_ge (k : Nat) : ∀ n, 128 ^ k ≤ n → k + 1 ≤ (put n).length := by
  induction k with
  | zero => intro n _; exact put_pos n
  | succ k ih =>
    intro n h
    have hk : 1 ≤ 128 ^ k := Nat.one_le_pow _ _ (by omega)
    have hb : ¬ n < 128 := by rw [Nat.pow_succ] at h; omega
    rw [put_big hb, List.length_cons]
    have : 128 ^ k ≤ n / 128 := by
      rw [Nat.le_div_iff_mul_le (by omega)]
      rw [Nat.pow_succ] at h; exact h
    have := ih _ this
    omega

theorem put_le10 (n : Nat) (h : n < 18446744073709551616) : (put n).length ≤ 10 := put_le 9 n (by omega)

/-- The lengths go with the numbers. -/
theorem put_mono (n : Nat) : ∀ m, n ≤ m → (put n).length ≤ (put m).length := by
  induction n using Nat.strongRecOn with
  | _ n ih =>
    intro m hm
    by_cases h : n < 128
    · rw [put_small h]; exact put_pos m
    · have hm' : ¬ m < 128 := by omega
      rw [put_big h, put_big hm', List.length_cons, List.length_cons]
      have := ih (n / 128) (by omega) (m / 128) (Nat.div_le_div_right hm)
      omega

theorem put_inj (n : Nat) : ∀ m, put n = put m → n = m := by
  induction n using Nat.strongRecOn with
  | _ n ih =>
    intro m hm
    by_cases h : n < 128 <;> by_cases h' : m < 128
    · rw [put_small h, put_small h'] at hm
      have := congrArg (fun l : List UInt8 => (l.headD 0).toNat) hm
      simp at this
      omega
    · rw [put_small h, put_big h'] at hm
      have := congrArg List.length hm
      have hp := put_pos (m / 128)
      simp at this
      rw [this] at hp; simp at hp
    · rw [put_big h, put_small h'] at hm
      have := congrArg List.length hm
      have hp := put_pos (n / 128)
      simp at this
      rw [this] at hp; simp at hp
    · rw [put_big h, put_big h'] at hm
      injection hm with h1 h2
      have h3 := ih (n / 128) (by omega) (m / 128) h2
      have h1 := congrArg UInt8.toNat h1
      simp at h1
      omega

/-- The number that bytes begin with: from place i on, what is known so far being acc; f: how many bytes may still come. -/
def takeG : Nat → Nat → Nat → List UInt8 → Nat × Nat × Nat
  | 0, _, _, _ => (0, 0, 3)
  | _ + 1, _, _, [] => (0, 0, 4)
  | f + 1, i, acc, c :: l =>
    if i = 9 ∧ 1 < c.toNat then (0, 0, 3)
    else if c.toNat < 128 then (if c.toNat = 0 ∧ 0 < i then (0, 0, 3) else (acc + c.toNat % 128 * 2 ^ (7 * i), i + 1, 0))
    else takeG f (i + 1) (acc + c.toNat % 128 * 2 ^ (7 * i)) l

def take (l : List UInt8) : Nat × Nat × Nat := takeG 10 0 0 l

theorem takeG_size (f : Nat) : ∀ i acc l, (takeG f i acc l).2.2 = 0 → i < (takeG f i acc l).2.1 ∧ (takeG f i acc l).2.1 ≤ i + l.length := by
  induction f with
  | zero => intro i acc l h; simp [takeG] at h
  | succ f ih =>
    intro i acc l h
    cases l with
    | nil => simp [takeG] at h
    | cons c l =>
      simp only [takeG] at h ⊢
      split at h
      · simp at h
      · rename_i h1
        rw [if_neg h1]
        split at h
        · rename_i h2
          rw [if_pos h2]
          split at h
          · simp at h
          · rename_i h3; rw [if_neg h3]; simp
        · rename_i h2
          rw [if_neg h2]
          have := ih _ _ _ h
          simp only [List.length_cons]
          omega

theorem take_size {l : List UInt8} (h : (take l).2.2 = 0) : 0 < (take l).2.1 ∧ (take l).2.1 ≤ l.length := by
  have := takeG_size 10 0 0 l h
  unfold take
  omega

theorem takeG_err (f : Nat) : ∀ i acc l, (takeG f i acc l).2.2 ≠ 0 → (takeG f i acc l).1 = 0 ∧ (takeG f i acc l).2.1 = 0 := by
  induction f with
  | zero => intro i acc l h; simp [takeG]
  | succ f ih =>
    intro i acc l h
    cases l with
    | nil => simp [takeG]
    | cons c l =>
      simp only [takeG] at h ⊢
      split
      · simp
      · rename_i h1
        rw [if_neg h1] at h
        split
        · rename_i h2
          rw [if_pos h2] at h
          split
          · simp
          · rename_i h3; rw [if_neg h3] at h; simp at h
        · rename_i h2
          rw [if_neg h2] at h
          exact ih _ _ _ h

theorem take_err {l : List UInt8} (h : (take l).2.2 ≠ 0) : (take l).1 = 0 ∧ (take l).2.1 = 0 := takeG_err 10 0 0 l h

/-- What is taken is below 2^64. -/
theorem takeG_lt (f : Nat) : ∀ i acc l, f + i = 10 → acc < 2 ^ (7 * i) → (takeG f i acc l).1 < 18446744073709551616 := by
  induction f with
  | zero => intro i acc l _ _; simp [takeG]
  | succ f ih =>
    intro i acc l hf ha
    cases l with
    | nil => simp [takeG]
    | cons c l =>
      simp only [takeG]
      split
      · simp
      · rename_i h1
        have hi : i ≤ 9 := by omega
        have hstep : acc + c.toNat % 128 * 2 ^ (7 * i) < 2 ^ (7 * (i + 1)) := by
          have h7 : 2 ^ (7 * (i + 1)) = 128 * 2 ^ (7 * i) := by rw [Nat.mul_add, Nat.pow_add]; omega
          rw [h7]
          have hc : c.toNat % 128 ≤ 127 := by omega
          have := Nat.mul_le_mul_right (2 ^ (7 * i)) hc
          omega
        split
        · rename_i h2
          split
          · simp
          · simp only
            by_cases h9 : i = 9
            · subst h9
              have hc : c.toNat % 128 ≤ 1 := by omega
              have := Nat.mul_le_mul_right (2 ^ (7 * 9)) hc
              simp only [Nat.reduceMul, Nat.reducePow] at this ha ⊢
              omega
            · have hp : 2 ^ (7 * (i + 1)) ≤ 2 ^ 63 := Nat.pow_le_pow_right (by omega) (by omega)
              simp only [Nat.reducePow] at hp
              omega
        · exact ih _ _ _ (by omega) hstep

theorem take_lt (l : List UInt8) : (take l).1 < 18446744073709551616 := takeG_lt 10 0 0 l rfl (by simp)

/-- What was put is taken. -/
theorem takeG_put (f : Nat) : ∀ i acc n rest, f + i = 10 → n < 2 ^ (64 - 7 * i) → (0 < i → 0 < n) →
    takeG f i acc (put n ++ rest) = (acc + n * 2 ^ (7 * i), i + (put n).length, 0) := by
  induction f with
  | zero =>
    intro i acc n rest hf hn h0
    obtain rfl : i = 10 := by omega
    simp at hn
    omega
  | succ f ih =>
    intro i acc n rest hf hn h0
    by_cases h : n < 128
    · rw [put_small h]
      have e : (UInt8.ofNat n).toNat = n := by simp; omega
      simp only [List.cons_append, List.nil_append, takeG, e]
      have h9 : ¬ (i = 9 ∧ 1 < n) := by
        rintro ⟨rfl, hh⟩
        simp at hn
        omega
      rw [if_neg h9, if_pos h, if_neg (by omega), Nat.mod_eq_of_lt h]
      simp
    · rw [put_big h]
      have e : (UInt8.ofNat (n % 128 + 128)).toNat = n % 128 + 128 := by simp; omega
      have hi : i ≤ 8 := by
        rcases Nat.lt_or_ge i 9 with hlt | hge
        · omega
        · obtain rfl : i = 9 := by omega
          simp at hn
          omega
      simp only [List.cons_append, takeG, e]
      rw [if_neg (by omega), if_neg (by omega)]
      have hn' : n / 128 < 2 ^ (64 - 7 * (i + 1)) := by
        rw [Nat.div_lt_iff_lt_mul (by omega)]
        have : 2 ^ (64 - 7 * i) = 2 ^ (64 - 7 * (i + 1)) * 128 := by
          rw [show 64 - 7 * i = (64 - 7 * (i + 1)) + 7 from by omega, Nat.pow_add]
        omega
      rw [ih (i + 1) _ (n / 128) rest (by omega) hn' (by omega)]
      have h7 : 2 ^ (7 * (i + 1)) = 128 * 2 ^ (7 * i) := by rw [Nat.mul_add, Nat.pow_add]; omega
      have e2 : (n % 128 + 128) % 128 = n % 128 := by omega
      rw [h7, e2, List.length_cons]
      refine Prod.ext ?_ (Prod.ext (by simp; omega) rfl)
      simp only
      have hnn : n = n % 128 + 128 * (n / 128) := by omega
      conv => rhs; rw [hnn]
      rw [Nat.add_mul, ← Nat.mul_assoc, Nat.mul_comm (n / 128) 128, Nat.add_assoc]

theorem take_put (n : Nat) (h : n < 18446744073709551616) (rest : List UInt8) : take (put n ++ rest) = (n, (put n).length, 0) := by
  have := takeG_put 10 0 0 n rest rfl (by simpa using h) (by omega)
  simpa [take] using this

/-- A number written with a byte more than it needs. -/
def long (n : Nat) : List UInt8 :=
  if h : n < 128 then [UInt8.ofNat (n + 128)] else UInt8.ofNat (n % 128 + 128) :: long (n / 128)
termination_by n
decreasing_by omega

theorem long_small {n : Nat} (h : n < 128) : long n = [UInt8.ofNat (n + 128)] := by rw [long, dif_pos h]
theorem long_big {n : Nat} (h : ¬ n < 128) : long n = UInt8.ofNat (n % 128 + 128) :: long (n / 128) := by rw [long, dif_neg h]

theorem takeG_long (f : Nat) : ∀ i acc n, f + i = 10 → i + (put n).length ≤ 9 → takeG f i acc (long n ++ [0]) = (0, 0, 3) := by
  induction f with
  | zero =>
    intro i acc n hf hl
    have := put_pos n
    omega
  | succ f ih =>
    intro i acc n hf hl
    by_cases h : n < 128
    · rw [long_small h]
      have e : (UInt8.ofNat (n + 128)).toNat = n + 128 := by simp; omega
      rw [put_small h] at hl
      simp at hl
      simp only [List.cons_append, List.nil_append, takeG, e]
      rw [if_neg (by omega), if_neg (by omega)]
      obtain ⟨f', rfl⟩ : ∃ f', f = f' + 1 := ⟨f - 1, by omega⟩
      simp [takeG]
    · rw [long_big h]
      have e : (UInt8.ofNat (n % 128 + 128)).toNat = n % 128 + 128 := by simp; omega
      rw [put_big h, List.length_cons] at hl
      simp only [List.cons_append, takeG, e]
      have := put_pos (n / 128)
      rw [if_neg (by omega), if_neg (by omega)]
      exact ih _ _ _ (by omega) (by omega)

theorem take_long (n : Nat) (h : (put n).length ≤ 9) : take (long n ++ [0]) = (0, 0, 3) := takeG_long 10 0 0 n rfl (by omega)

/-- The last byte with its highest bit set. -/
theorem long_of_put (n : Nat) : long n = (put n).dropLast ++ [(put n).getLastD 0 ||| 128] := by
  induction n using Nat.strongRecOn with
  | _ n ih =>
    by_cases h : n < 128
    · rw [long_small h, put_small h]
      simp
      apply UInt8.toNat_inj.1
      simp
      have e : n ||| 128 = n + 128 := by
        rw [Nat.or_comm]
        have := Nat.two_pow_add_eq_or_of_lt (i := 7) (b := n) (by omega) 1
        simp at this
        omega
      rw [Nat.mod_eq_of_lt (show n < 256 by omega), e]
      omega
    · rw [long_big h, put_big h]
      have hp := put_pos (n / 128)
      have hne : put (n / 128) ≠ [] := by intro e; rw [e] at hp; simp at hp
      rw [ih (n / 128) (by omega), List.dropLast_cons_of_ne_nil hne, List.cons_append]
      congr 3
      rw [List.getLastD_eq_getLast?, List.getLastD_eq_getLast?, List.getLast?_cons]
      rw [List.getLast?_eq_some_getLast hne]
      simp

/-- A number whose last byte is gone is torn. -/
theorem takeG_torn (f : Nat) : ∀ i acc n, f + i = 10 → i + (put n).length ≤ 10 → takeG f i acc (put n).dropLast = (0, 0, 4) := by
  induction f with
  | zero =>
    intro i acc n hf hl
    have := put_pos n
    omega
  | succ f ih =>
    intro i acc n hf hl
    by_cases h : n < 128
    · rw [put_small h]; simp [takeG]
    · rw [put_big h] at hl ⊢
      have hp := put_pos (n / 128)
      have hne : put (n / 128) ≠ [] := by intro e; rw [e] at hp; simp at hp
      rw [List.length_cons] at hl
      rw [List.dropLast_cons_of_ne_nil hne]
      have e : (UInt8.ofNat (n % 128 + 128)).toNat = n % 128 + 128 := by simp; omega
      simp only [takeG, e]
      rw [if_neg (by omega), if_neg (by omega)]
      exact ih _ _ _ (by omega) (by omega)

theorem take_torn (n : Nat) (h : n < 18446744073709551616) : take (put n).dropLast = (0, 0, 4) :=
  takeG_torn 10 0 0 n rfl (by have := put_le10 n h; omega)

theorem long_set (n : Nat) (L : Nat) (hL : (put n).length = L) (h : L - 1 < (put n).length) : (put n).set (L - 1) ((put n)[L - 1] ||| 128) = long n := by
  have hp := put_pos n
  have hne : put n ≠ [] := by intro e; rw [e] at hp; simp at hp
  rw [long_of_put]
  have e0 : (put n)[L - 1] = (put n).getLast hne := by
    rw [List.getLast_eq_getElem]
    simp [hL]
  have e1 : (put n).getLastD 0 = (put n).getLast hne := by
    rw [List.getLastD_eq_getLast?, List.getLast?_eq_some_getLast hne]; rfl
  rw [e0, e1]
  generalize hx : (put n).getLast hne = x
  have e2 : put n = (put n).dropLast ++ [x] := by rw [← hx]; exact (List.dropLast_concat_getLast hne).symm
  have hd : (put n).dropLast.length = L - 1 := by simp [hL]
  conv => lhs; rw [e2]
  rw [List.set_append_right _ _ (by omega)]
  simp [hd]
theorem long_length (n : Nat) : (long n).length = (put n).length := by
  rw [long_of_put]; have := put_pos n; simp; omega
theorem take_255 (u : UInt8) (h : 1 < u.toNat) : take [255, 255, 255, 255, 255, 255, 255, 255, 255, u] = (0, 0, 3) := by
  simp [take, takeG, h]

/-! ### Signs -/
def zig (n : Int) : Int := if n < 0 then -2 * n - 1 else 2 * n
def zag (n : Int) : Int := if n % 2 = 0 then n / 2 else - (n / 2) - 1
theorem zag_zig (n : Int) : zag (zig n) = n := by unfold zag zig; split <;> split <;> omega
theorem zig_zag (n : Int) (h : 0 ≤ n) : zig (zag n) = n := by unfold zag zig; split <;> split <;> omega
theorem zig_range (n : Int) (h : -9223372036854775808 ≤ n ∧ n ≤ 9223372036854775807) : 0 ≤ zig n ∧ zig n ≤ 18446744073709551615 := by unfold zig; split <;> omega
theorem zag_range (n : Int) (h : 0 ≤ n ∧ n ≤ 18446744073709551615) : -9223372036854775808 ≤ zag n ∧ zag n ≤ 9223372036854775807 := by unfold zag; split <;> omega

/-! ### Numbers of a fixed size -/
def fix (n : Nat) : Nat → List UInt8
  | 0 => []
  | k + 1 => UInt8.ofNat (n / 256 ^ k) :: fix n k
theorem fix_length (n : Nat) : ∀ k, (fix n k).length = k
  | 0 => rfl
  | k + 1 => by simp [fix, fix_length n k]
def fixedG (a : Nat) (l : List UInt8) : Nat := l.foldl (fun n c => n * 256 + c.toNat) a
def fixed (l : List UInt8) : Nat := fixedG 0 l
theorem fixedG_fix (n : Nat) : ∀ k a, fixedG a (fix n k) = a * 256 ^ k + n % 256 ^ k
  | 0, a => by simp [fixedG, fix, Nat.mod_one]
  | k + 1, a => by
    have ih := fixedG_fix n k (a * 256 + n / 256 ^ k % 256)
    simp only [fixedG] at ih
    simp only [fixedG, fix, List.foldl_cons]
    have e : (UInt8.ofNat (n / 256 ^ k)).toNat = n / 256 ^ k % 256 := by simp
    rw [e, ih, Nat.pow_succ, Nat.mod_mul, Nat.add_mul, Nat.mul_assoc, Nat.mul_comm 256 (256 ^ k), Nat.mul_comm (n / 256 ^ k % 256)]
    omega
theorem fixed_fix (n k : Nat) : fixed (fix n k) = n % 256 ^ k := by rw [fixed, fixedG_fix]; simp
theorem fixedG_snoc (a : Nat) (l : List UInt8) (c : UInt8) : fixedG a (l ++ [c]) = fixedG a l * 256 + c.toNat := by simp [fixedG]
theorem fixedG_lt (l : List UInt8) : ∀ a, fixedG a l < (a + 1) * 256 ^ l.length := by
  induction l with
  | nil => intro a; simp [fixedG]
  | cons c l ih =>
    intro a
    have := ih (a * 256 + c.toNat)
    simp only [fixedG, List.foldl_cons, List.length_cons] at this ⊢
    have hc := c.toNat_lt
    have h1 : (a * 256 + c.toNat + 1) * 256 ^ l.length ≤ ((a + 1) * 256) * 256 ^ l.length := Nat.mul_le_mul_right _ (by omega)
    rw [Nat.pow_succ, Nat.mul_comm (256 ^ l.length) 256, ← Nat.mul_assoc]
    omega
theorem fixed_lt (l : List UInt8) (k : Nat) (h : l.length ≤ k) : fixed l < 256 ^ k := by
  have := fixedG_lt l 0
  have h2 : 256 ^ l.length ≤ 256 ^ k := Nat.pow_le_pow_right (by omega) h
  simp only [Nat.zero_add, Nat.one_mul] at this
  exact Nat.lt_of_lt_of_le this h2

/-! ### Bits of a byte -/
theorem or128 : ∀ x, x < 256 → x ||| 128 = x % 128 + 128 := by decide +kernel
theorem u8_or128 (k : Nat) : bits BinOp.or IntKind.u8 ((k : Int) % 256) 128 = ((k % 128 + 128 : Nat) : Int) := by
  have h := u8_or_nat (k % 256) 128 (by omega) (by omega)
  rw [or128 _ (by omega)] at h
  rw [show ((k : Int) % 256) = ((k % 256 : Nat) : Int) from by omega]
  rw [show k % 128 = k % 256 % 128 from by omega]
  exact h
theorem and127 : ∀ x, x < 256 → x &&& 127 = x % 128 := by decide +kernel
theorem u8_and127 (u : UInt8) : bits BinOp.and IntKind.u8 (u.toNat : Int) 127 = ((u.toNat % 128 : Nat) : Int) := by
  have h := u8_and_nat u.toNat 127 u.toNat_lt (by omega)
  rw [and127 _ u.toNat_lt] at h
  exact h

/-! ### One step of 'take' -/
theorem takeG_at (l : List UInt8) (k acc : Nat) (hk : k < 10) (hl : k < l.length) : takeG (10 - k) k acc (l.drop k) =
    if k = 9 ∧ 1 < l[k].toNat then (0, 0, 3) else if l[k].toNat < 128 then (if l[k].toNat = 0 ∧ 0 < k then (0, 0, 3) else (acc + l[k].toNat % 128 * 2 ^ (7 * k), k + 1, 0))
    else takeG (10 - (k + 1)) (k + 1) (acc + l[k].toNat % 128 * 2 ^ (7 * k)) (l.drop (k + 1)) := by
  rw [List.drop_eq_getElem_cons hl, show 10 - k = (10 - (k + 1)) + 1 from by omega]
  rfl
theorem takeG_end (l : List UInt8) (k acc : Nat) (hk : k < 10) (hl : l.length ≤ k) : takeG (10 - k) k acc (l.drop k) = (0, 0, 4) := by
  rw [List.drop_eq_nil_of_le hl, show 10 - k = (10 - (k + 1)) + 1 from by omega]
  rfl
theorem acc_lt (acc k x : Nat) (ha : acc < 2 ^ (7 * k)) : acc + x % 128 * 2 ^ (7 * k) < 2 ^ (7 * (k + 1)) := by
  have h7 : 2 ^ (7 * (k + 1)) = 128 * 2 ^ (7 * k) := by rw [Nat.mul_add, Nat.pow_add]; omega
  rw [h7]
  have hc : x % 128 ≤ 127 := by omega
  have := Nat.mul_le_mul_right (2 ^ (7 * k)) hc
  omega
theorem acc_lt64 (acc k x : Nat) (ha : acc < 2 ^ (7 * k)) (hk : k < 10) (h9 : k = 9 → x ≤ 1) : acc + x % 128 * 2 ^ (7 * k) < 18446744073709551616 := by
  by_cases h : k = 9
  · subst h
    have hc : x % 128 ≤ 1 := by have := h9 rfl; omega
    have := Nat.mul_le_mul_right (2 ^ (7 * 9)) hc
    simp only [Nat.reduceMul, Nat.reducePow] at this ha ⊢
    omega
  · have h1 := acc_lt acc k x ha
    have hp : 2 ^ (7 * (k + 1)) ≤ 2 ^ 63 := Nat.pow_le_pow_right (by omega) (by omega)
    simp only [Nat.reducePow] at hp
    omega
theorem or_shift (acc k x : Nat) (ha : acc < 2 ^ (7 * k)) (hk : k < 10) (h9 : k = 9 → x ≤ 1) :
    bits BinOp.or IntKind.u64 (acc : Int) (IntKind.u64.wrap ((x : Int) % 128 * 2 ^ (7 * k))) = ((acc + x % 128 * 2 ^ (7 * k) : Nat) : Int) := by
  have hlt := acc_lt64 acc k x ha hk h9
  have e : ((x : Int) % 128 * 2 ^ (7 * k)) = ((x % 128 * 2 ^ (7 * k) : Nat) : Int) := by
    rw [Int.natCast_mul, Int.natCast_emod, Int.natCast_pow]; rfl
  rw [e, IntKind.wrap_u64]
  rw [show ((x % 128 * 2 ^ (7 * k) : Nat) : Int) % 18446744073709551616 = ((x % 128 * 2 ^ (7 * k) : Nat) : Int) from by omega]
  rw [u64_or_nat _ _ (by omega) (by omega)]
  congr 1
  rw [Nat.or_comm, nat_join (7 * k) _ _ (Nat.mul_mod_left _ _) ha, Nat.add_comm]

theorem or_shift9 (acc x : Nat) (ha : acc < 2 ^ (7 * 9)) (h9 : x ≤ 1) :
    bits BinOp.or IntKind.u64 (acc : Int) ((x : Int) % 128 * 9223372036854775808) = ((acc + x % 128 * 9223372036854775808 : Nat) : Int) := by
  have h := or_shift acc 9 x ha (by omega) (fun _ => h9)
  simp only [Nat.reduceMul, Nat.reducePow, Int.reducePow] at h
  rw [← h, IntKind.wrap_u64]
  congr 1
  omega

/-! ### The bits of a sign -/
open Go.RowKit (wrap64)
theorem ofInt_ones64 : BitVec.ofInt 64 18446744073709551615 = BitVec.allOnes 64 := by decide
theorem ofInt_neg64 : BitVec.ofInt 64 (-1) = BitVec.allOnes 64 := by decide
theorem ofInt_nat64 (a : Nat) (ha : a < 18446744073709551616) : (BitVec.ofInt 64 (a : Int)).toNat = a := by
  rw [BitVec.ofInt_natCast, BitVec.toNat_ofNat]; exact Nat.mod_eq_of_lt (by omega)
theorem zig_bits (n : Int) (h : -9223372036854775808 ≤ n ∧ n ≤ 9223372036854775807) :
    bits BinOp.xor IntKind.u64 (IntKind.u64.wrap (IntKind.u64.wrap n * 2)) (IntKind.u64.wrap (n / 9223372036854775808)) = zig n := by
  rw [IntKind.wrap_u64, IntKind.wrap_u64, IntKind.wrap_u64]
  show IntKind.u64.wrap ((BitVec.ofInt 64 _ ^^^ BitVec.ofInt 64 _).toNat : Int) = _
  unfold zig
  split
  · rename_i hn
    rw [show n / 9223372036854775808 % 18446744073709551616 = 18446744073709551615 from by omega, ofInt_ones64, BitVec.xor_allOnes, BitVec.toNat_not]
    obtain ⟨m, hm⟩ : ∃ m : Nat, n % 18446744073709551616 * 2 % 18446744073709551616 = m := ⟨_, (Int.toNat_of_nonneg (by omega)).symm⟩
    rw [hm, ofInt_nat64 m (by omega), IntKind.wrap_u64]
    omega
  · rename_i hn
    rw [show n / 9223372036854775808 % 18446744073709551616 = 0 from by omega]
    obtain ⟨m, hm⟩ : ∃ m : Nat, n % 18446744073709551616 * 2 % 18446744073709551616 = m := ⟨_, (Int.toNat_of_nonneg (by omega)).symm⟩
    rw [hm, show BitVec.ofInt 64 0 = 0#64 from by decide, BitVec.xor_zero, ofInt_nat64 m (by omega), IntKind.wrap_u64]
    omega
theorem zag_bits (n : Int) (h : 0 ≤ n ∧ n ≤ 18446744073709551615) :
    bits BinOp.xor IntKind.i64 (n / 2) (wrap64 (-wrap64 (bits BinOp.and IntKind.u64 n 1))) = zag n := by
  obtain ⟨m, rfl⟩ := Int.eq_ofNat_of_zero_le h.1
  have ha := u64_and_nat m 1 (by omega) (by omega)
  rw [nat_mask1] at ha
  have ha' : bits BinOp.and IntKind.u64 (m : Int) 1 = ((m % 2 : Nat) : Int) := ha
  rw [ha']
  show IntKind.i64.wrap ((BitVec.ofInt 64 _ ^^^ BitVec.ofInt 64 _).toNat : Int) = _
  have e2 : ((m : Int) / 2) = ((m / 2 : Nat) : Int) := by omega
  unfold zag
  split
  · rename_i hn
    rw [show m % 2 = 0 from by omega, show wrap64 (-wrap64 ((0 : Nat) : Int)) = 0 from by unfold wrap64; omega, show BitVec.ofInt 64 0 = 0#64 from by decide, BitVec.xor_zero, e2, ofInt_nat64 _ (by omega), IntKind.wrap_i64]
    omega
  · rename_i hn
    rw [show m % 2 = 1 from by omega, show wrap64 (-wrap64 ((1 : Nat) : Int)) = -1 from by unfold wrap64; omega, ofInt_neg64, BitVec.xor_allOnes, BitVec.toNat_not, e2, ofInt_nat64 _ (by omega), IntKind.wrap_i64]
    omega

theorem u64_and127 (u : UInt8) : bits BinOp.and IntKind.u64 (u.toNat : Int) 127 = ((u.toNat % 128 : Nat) : Int) := by
  have hu := u.toNat_lt
  have h := u64_and_nat u.toNat 127 (by omega) (by omega)
  rw [and127 _ u.toNat_lt] at h
  exact h
theorem fix_byte (n j : Nat) : (n : Int) / 2 ^ (8 * j) % 256 = ((UInt8.ofNat (n / 256 ^ j)).toNat : Int) := by
  rw [UInt8.toNat_ofNat', Int.natCast_emod, Int.natCast_ediv, Int.natCast_pow, Int.pow_mul]
  rfl

theorem zig_neg' {p : Int} (h : p < 0) : zig p = -2 * p - 1 := by unfold zig; rw [if_pos h]
theorem zig_nn' {p : Int} (h : 0 ≤ p) : zig p = 2 * p := by unfold zig; rw [if_neg (by omega)]

end Go.Proofs.Ytgclakhcddadpaa
