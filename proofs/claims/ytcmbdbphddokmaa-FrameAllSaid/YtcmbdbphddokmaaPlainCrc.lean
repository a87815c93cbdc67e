/-
  PLAIN SUMS. No program in sight. 'reg c l': the register behind the bytes l, begun at c. 'sum l': the sum of bytes. Linear over exclusive or; a burst of 32 bits in a row never leaves the register as it was.
-/
import Derived.WalkKit
namespace Go.Proofs.Ytcmbdbphddokmaa

abbrev Reg := BitVec 32
def poly : Reg := 0x82f63b78#32

/-- One bit. -/
def st (n : Reg) : Reg := (n >>> 1) ^^^ (if n.getLsbD 0 then poly else 0#32)

theorem st_xor (a b : Reg) : st (a ^^^ b) = st a ^^^ st b := by
  unfold st
  rw [BitVec.getLsbD_xor]
  ext i hi
  cases a.getLsbD 0 <;> cases b.getLsbD 0 <;> simp <;>
    (generalize a.getLsbD (1 + i) = x; generalize b.getLsbD (1 + i) = y; try generalize poly[i] = z; revert x y; try revert z; decide)

theorem st_zero : st 0#32 = 0#32 := by decide

theorem st_inj0 (a : Reg) (h : st a = 0#32) : a = 0#32 := by
  have h31 : (st a).getLsbD 31 = false := by rw [h]; decide
  have h0 : a.getLsbD 0 = false := by
    unfold st at h31
    cases hb : a.getLsbD 0 with
    | false => rfl
    | true =>
      rw [hb] at h31
      simp [poly] at h31
  unfold st at h
  rw [h0] at h
  simp at h
  apply BitVec.eq_of_getLsbD_eq
  intro i hi
  rcases Nat.eq_zero_or_pos i with rfl | hp
  · rw [h0]; simp
  · have := congrArg (fun x : Reg => x.getLsbD (i - 1)) h
    simp at this
    rw [show 1 + (i - 1) = i from by omega] at this
    rw [this]; simp

/-- So many bits. -/
def sts : Nat → Reg → Reg
  | 0, n => n
  | k + 1, n => sts k (st n)

theorem sts_add (a b : Nat) : ∀ n, sts (a + b) n = sts b (sts a n) := by
  induction a with
  | zero => intro n; simp [sts]
  | succ a ih => intro n; rw [Nat.add_right_comm]; exact ih _

theorem sts_xor (k : Nat) : ∀ a b, sts k (a ^^^ b) = sts k a ^^^ sts k b := by
  induction k with
  | zero => intro a b; rfl
  | succ k ih => intro a b; simp only [sts, st_xor, ih]

theorem sts_zero (k : Nat) : sts k 0#32 = 0#32 := by
  induction k with
  | zero => rfl
  | succ k ih => simp only [sts, st_zero, ih]

theorem sts_inj0 (k : Nat) : ∀ a, sts k a = 0#32 → a = 0#32 := by
  induction k with
  | zero => intro a h; exact h
  | succ k ih => intro a h; exact st_inj0 a (ih _ h)

theorem xor_eq_zero {a b : Reg} : a ^^^ b = 0#32 ↔ a = b := by
  constructor
  · intro h
    have : a ^^^ b ^^^ b = 0#32 ^^^ b := by rw [h]
    rw [BitVec.xor_assoc, BitVec.xor_self] at this
    simpa using this
  · rintro rfl; exact BitVec.xor_self

theorem sts_inj (k : Nat) {a b : Reg} (h : sts k a = sts k b) : a = b := by
  rw [← xor_eq_zero] at h ⊢
  rw [← sts_xor] at h
  exact sts_inj0 k _ h

/-- A byte as a register. -/
def rb (u : UInt8) : Reg := BitVec.ofNat 32 u.toNat
/-- One byte. -/
def st8 (c : Reg) (u : UInt8) : Reg := sts 8 (c ^^^ rb u)
/-- The register behind bytes. -/
def reg (c : Reg) (l : List UInt8) : Reg := l.foldl st8 c
def ones : Reg := 0xffffffff#32
/-- More of 'sum'. -/
def more (s : Reg) (l : List UInt8) : Reg := ~~~ (reg (~~~ s) l)
def sum (l : List UInt8) : Reg := more 0#32 l

theorem reg_append (c : Reg) (a b : List UInt8) : reg c (a ++ b) = reg (reg c a) b := by simp [reg]
theorem more_append (s : Reg) (a b : List UInt8) : more s (a ++ b) = more (more s a) b := by simp [more, reg_append]
theorem more_nil (s : Reg) : more s [] = s := by simp [more, reg]
theorem sum_append (a b : List UInt8) : sum (a ++ b) = more (sum a) b := more_append _ _ _

theorem rb_xor (a b : UInt8) : rb (a ^^^ b) = rb a ^^^ rb b := by
  unfold rb
  apply BitVec.eq_of_getLsbD_eq
  intro i hi
  simp [BitVec.getLsbD_ofNat, hi, Nat.testBit_xor]

/-- Bytes laid over each other. -/
def xl (a b : List UInt8) : List UInt8 := List.zipWith (· ^^^ ·) a b

theorem reg_xl (a : List UInt8) : ∀ b c d, a.length = b.length → reg (c ^^^ d) (xl a b) = reg c a ^^^ reg d b := by
  induction a with
  | nil => intro b c d h; cases b with
    | nil => rfl
    | cons _ _ => simp at h
  | cons x a ih =>
    intro b c d h
    cases b with
    | nil => simp at h
    | cons y b =>
      simp only [xl, List.zipWith_cons_cons, reg, List.foldl_cons]
      have e : st8 (c ^^^ d) (x ^^^ y) = st8 c x ^^^ st8 d y := by
        unfold st8
        rw [rb_xor, ← sts_xor]
        congr 1
        ac_rfl
      rw [e]
      exact ih b _ _ (by simpa using h)

/-- Nibbles: what four bits make of a sum. -/
def tab (i : Nat) : Reg := sts 4 (BitVec.ofNat 32 i)

theorem sts_succ (q : Nat) (x : Reg) : sts (q + 1) x = st (sts q x) := by rw [sts_add q 1 x]; rfl

theorem u32_and1 (r : Reg) : bits BinOp.and IntKind.u32 (r.toNat : Int) 1 = ((r.toNat % 2 : Nat) : Int) := by
  have h := u32_and_nat r.toNat 1 r.isLt (by omega)
  rw [nat_mask1] at h
  exact h

theorem st_bits (r : Reg) : bits BinOp.xor IntKind.u32 ((r.toNat : Int) / 2) (bits BinOp.and IntKind.u32 2197175160 (-bits BinOp.and IntKind.u32 (r.toNat : Int) 1 % 4294967296)) = ((st r).toNat : Int) := by
  have hr := r.isLt
  have hlsb : r.getLsbD 0 = decide (r.toNat % 2 = 1) := by
    rw [BitVec.getLsbD, Nat.testBit_zero]
  have hd : ((r.toNat : Int) / 2) = ((r.toNat / 2 : Nat) : Int) := by omega
  rw [u32_and1, hd]
  rcases Nat.mod_two_eq_zero_or_one r.toNat with h | h
  · rw [h]
    have e : bits BinOp.and IntKind.u32 2197175160 (-((0 : Nat) : Int) % 4294967296) = ((0 : Nat) : Int) := by decide
    rw [e, u32_xor_nat _ _ (by omega) (by omega), Nat.xor_zero]
    congr 1
    unfold st
    rw [hlsb, h]
    simp [Nat.shiftRight_eq_div_pow]
  · rw [h]
    have e : bits BinOp.and IntKind.u32 2197175160 (-((1 : Nat) : Int) % 4294967296) = ((2197175160 : Nat) : Int) := by decide
    rw [e, u32_xor_nat _ _ (by omega) (by omega)]
    congr 1
    unfold st
    rw [hlsb, h]
    simp [Nat.shiftRight_eq_div_pow, poly]

/-! ### Four bits at once -/
theorem st_even (y : Reg) (h : y.getLsbD 0 = false) : st y = y >>> 1 := by
  unfold st
  rw [h]
  simp

theorem sts_high (r : Reg) : sts 4 ((r >>> 4) <<< 4) = r >>> 4 := by
  have e1 : st ((r >>> 4) <<< 4) = ((r >>> 4) <<< 4) >>> 1 := st_even _ (by simp)
  have e2 : st (((r >>> 4) <<< 4) >>> 1) = ((r >>> 4) <<< 4) >>> 1 >>> 1 := st_even _ (by simp)
  have e3 : st (((r >>> 4) <<< 4) >>> 1 >>> 1) = ((r >>> 4) <<< 4) >>> 1 >>> 1 >>> 1 := st_even _ (by simp)
  have e4 : st (((r >>> 4) <<< 4) >>> 1 >>> 1 >>> 1) = ((r >>> 4) <<< 4) >>> 1 >>> 1 >>> 1 >>> 1 := st_even _ (by simp)
  simp only [sts, e1, e2, e3, e4]
  apply BitVec.eq_of_getLsbD_eq
  intro i hi
  simp only [BitVec.getLsbD_ushiftRight, BitVec.getLsbD_shiftLeft]
  by_cases h : 1 + (1 + (1 + (1 + i))) < 32
  · simp [show ¬ (1 + (1 + (1 + (1 + i))) < 4) from by omega, h]
    congr 1
    omega
  · simp [h]
    rw [BitVec.getLsbD_of_ge _ _ (by omega)]

theorem split4 (r : Reg) : r = ((r >>> 4) <<< 4) ^^^ BitVec.ofNat 32 (r.toNat % 16) := by
  apply BitVec.eq_of_getLsbD_eq
  intro i hi
  rw [BitVec.getLsbD_xor, BitVec.getLsbD_shiftLeft, BitVec.getLsbD_ushiftRight, BitVec.getLsbD_ofNat]
  have e : (r.toNat % 16).testBit i = (decide (i < 4) && r.toNat.testBit i) := Nat.testBit_mod_two_pow r.toNat 4 i
  rw [e]
  by_cases h : i < 4
  · simp [h, hi, BitVec.getLsbD]
  · simp [h, hi]
    congr 1
    omega

theorem nib (r : Reg) : sts 4 r = (r >>> 4) ^^^ tab (r.toNat % 16) := by
  conv => lhs; rw [split4 r]
  rw [sts_xor, sts_high]
  rfl

theorem nib_bits (r : Reg) : bits BinOp.xor IntKind.u32 ((r.toNat : Int) / 16) ((tab (r.toNat % 16)).toNat : Int) = ((sts 4 r).toNat : Int) := by
  have hr := r.isLt
  rw [show ((r.toNat : Int) / 16) = ((r.toNat / 16 : Nat) : Int) from by omega, u32_xor_nat _ _ (by omega) (tab _).isLt, nib, BitVec.toNat_xor]
  first | done | simp [Nat.shiftRight_eq_div_pow]

theorem and15_bits (r : Reg) : bits BinOp.and IntKind.u32 (r.toNat : Int) 15 = ((r.toNat % 16 : Nat) : Int) := by
  have h := u32_and_nat r.toNat 15 r.isLt (by omega)
  rw [nat_mask4] at h
  exact h

theorem xor_bits (r : Reg) (u : UInt8) : bits BinOp.xor IntKind.u32 (r.toNat : Int) (u.toNat : Int) = ((r ^^^ rb u).toNat : Int) := by
  have hu := u.toNat_lt
  rw [u32_xor_nat _ _ r.isLt (by omega), BitVec.toNat_xor]
  congr 2
  simp [rb]

theorem not_bits (r : Reg) : bits BinOp.xor IntKind.u32 IntKind.u32.max (r.toNat : Int) = ((~~~r).toNat : Int) := by
  have h := u32_xor_nat 4294967295 r.toNat (by omega) r.isLt
  refine Eq.trans h ?_
  have : (4294967295 : Nat) = (BitVec.allOnes 32).toNat := by decide
  rw [this, ← BitVec.toNat_xor, BitVec.allOnes_xor]

theorem reg_snoc (c : Reg) (l : List UInt8) (u : UInt8) : reg c (l ++ [u]) = sts 4 (sts 4 (reg c l ^^^ rb u)) := by
  rw [reg_append]
  show st8 (reg c l) u = _
  unfold st8
  exact sts_add 4 4 _

/-! ### A sum's bytes; what is sealed -/
def four (r : Reg) : List UInt8 := [UInt8.ofNat r.toNat, UInt8.ofNat (r.toNat / 256), UInt8.ofNat (r.toNat / 65536), UInt8.ofNat (r.toNat / 16777216)]
def seal_ (l : List UInt8) : List UInt8 := l ++ four (sum l)
/-- What Open hands back: the bytes and the error. -/
def openR (s : List UInt8) : List UInt8 × Nat :=
  if s.length < 4 then ([], 4) else if four (sum (s.take (s.length - 4))) = s.drop (s.length - 4) then (s.take (s.length - 4), 0) else ([], 5)

theorem four_length (r : Reg) : (four r).length = 4 := rfl
theorem seal_length (l : List UInt8) : (seal_ l).length = l.length + 4 := by simp [seal_, four]
theorem open_seal (l : List UInt8) : openR (seal_ l) = (l, 0) := by
  unfold openR
  rw [seal_length, if_neg (by omega), Nat.add_sub_cancel]
  have h1 : (seal_ l).take l.length = l := by simp [seal_]
  have h2 : (seal_ l).drop l.length = four (sum l) := by simp [seal_]
  rw [h1, h2, if_pos rfl]
theorem open_short (s : List UInt8) (h : s.length < 4) : openR s = ([], 4) := by unfold openR; rw [if_pos h]

theorem byte_of (x : Nat) : ((UInt8.ofNat x).toNat : Int) = (x : Int) % 256 := by
  rw [UInt8.toNat_ofNat', Int.natCast_emod]
  rfl

end Go.Proofs.Ytcmbdbphddokmaa
