/-
  PLAIN BURSTS. No program in sight. At most 32 bits in a row turned: the register behind the bytes is another.
-/
import Derived.Test.YtcmbdbphddokmaaPlainCrc
namespace Go.Proofs.Ytcmbdbphddokmaa

theorem reg_xor (l : List UInt8) : ∀ c d, reg (c ^^^ d) l = reg c l ^^^ sts (8 * l.length) d := by
  induction l with
  | nil => intro c d; rfl
  | cons x l ih =>
    intro c d
    have e : st8 (c ^^^ d) x = st8 c x ^^^ sts 8 d := by
      unfold st8
      rw [← sts_xor]
      congr 1
      ac_rfl
    show reg (st8 (c ^^^ d) x) l = reg (st8 c x) l ^^^ _
    rw [e, ih, List.length_cons, ← sts_add]
    congr 2
    omega

theorem bit_in : ∀ j : Fin 8, sts 8 (rb ((1 : UInt8) <<< (UInt8.ofNat j.val))) = sts (8 - j.val) 1#32 := by decide

/-- One bit turned. -/
theorem reg_flip (l : List UInt8) : ∀ (k : Nat) (c : Reg) (b : UInt8) (j : Nat) (_ : j < 8) (_ : sts 8 (rb b) = sts (8 - j) 1#32) (hk : k < l.length), reg c (l.set k (l[k] ^^^ b)) = reg c l ^^^ sts (8 * (l.length - k) - j) 1#32 := by
  induction l with
  | nil => intro k c b j _ _ hk; simp at hk
  | cons x l ih =>
    intro k c b j hj hb hk
    rcases k with _ | k
    · show reg (st8 c (x ^^^ b)) l = reg (st8 c x) l ^^^ _
      have e : st8 c (x ^^^ b) = st8 c x ^^^ sts 8 (rb b) := by
        unfold st8
        rw [rb_xor, ← sts_xor]
        congr 1
        ac_rfl
      rw [e, hb, reg_xor, ← sts_add]
      congr 2
      rw [List.length_cons]
      omega
    · have hk' : k < l.length := by simpa using hk
      show reg (st8 c x) (l.set k (l[k] ^^^ b)) = reg (st8 c x) l ^^^ _
      rw [ih k _ b j hj hb hk', List.length_cons]
      congr 2
      omega

/-- A word's bit falls out behind so many steps. -/
theorem word_bit : ∀ i : Fin 32, sts i.val (BitVec.ofNat 32 (2 ^ i.val)) = 1#32 := by decide

theorem word_out (i M : Nat) (hi : i < 32) (hM : i ≤ M) : sts M (BitVec.ofNat 32 (2 ^ i)) = sts (M - i) 1#32 := by
  have h := word_bit ⟨i, hi⟩
  simp only [] at h
  rw [show M = i + (M - i) from by omega, sts_add, h]
  congr 1
  omega

/-! ### A sum's bytes behind the register -/
theorem sh4 (y : Reg) (h : y.toNat < 268435456) : sts 4 (y <<< 4) = y := by
  have e : (y <<< 4) >>> 4 = y := by
    apply BitVec.eq_of_toNat_eq
    rw [BitVec.toNat_ushiftRight, BitVec.toNat_shiftLeft, Nat.shiftLeft_eq, Nat.shiftRight_eq_div_pow]
    omega
  have := sts_high (y <<< 4)
  rwa [e] at this

theorem sh8 (y : Reg) (h : y.toNat < 16777216) : sts 8 (y <<< 8) = y := by
  have e : y <<< 8 = (y <<< 4) <<< 4 := by rw [← BitVec.shiftLeft_add]
  have h4 : (y <<< 4).toNat < 268435456 := by rw [BitVec.toNat_shiftLeft, Nat.shiftLeft_eq]; omega
  rw [e, sts_add 4 4, sh4 _ h4, sh4 _ (by omega)]

theorem rb_lt (u : UInt8) : (rb u).toNat < 256 := by
  have := u.toNat_lt
  unfold rb
  rw [BitVec.toNat_ofNat]
  omega

theorem rb_bit (n i : Nat) : (rb (UInt8.ofNat n)).getLsbD i = (decide (i < 8) && n.testBit i) := by
  unfold rb
  rw [BitVec.getLsbD_ofNat, UInt8.toNat_ofNat']
  have e : (n % 2 ^ 8).testBit i = (decide (i < 8) && n.testBit i) := Nat.testBit_mod_two_pow n 8 i
  rw [e]
  by_cases h : i < 8
  · simp [h, show i < 32 from by omega]
  · simp [h]

theorem div_bit (n q k i : Nat) (hq : q = 2 ^ k) : (n / q).testBit i = n.testBit (k + i) := by
  subst hq
  rw [Nat.testBit_div_two_pow, Nat.add_comm]

theorem four_split (r : Reg) : r = rb (UInt8.ofNat r.toNat) ^^^ (rb (UInt8.ofNat (r.toNat / 256))) <<< 8 ^^^ (rb (UInt8.ofNat (r.toNat / 65536))) <<< 16 ^^^ (rb (UInt8.ofNat (r.toNat / 16777216))) <<< 24 := by
  apply BitVec.eq_of_getLsbD_eq
  intro i hi
  rw [BitVec.getLsbD_xor, BitVec.getLsbD_xor, BitVec.getLsbD_xor, BitVec.getLsbD_shiftLeft, BitVec.getLsbD_shiftLeft, BitVec.getLsbD_shiftLeft, rb_bit, rb_bit, rb_bit, rb_bit,
    div_bit _ 256 8 _ rfl, div_bit _ 65536 16 _ rfl, div_bit _ 16777216 24 _ rfl]
  have e0 : r.getLsbD i = r.toNat.testBit i := rfl
  rw [e0]
  rcases (show i < 8 ∨ (8 ≤ i ∧ i < 16) ∨ (16 ≤ i ∧ i < 24) ∨ 24 ≤ i from by omega) with h | h | h | h
  · simp [h, show i < 16 from by omega, show i < 24 from by omega]
  · simp [hi, show ¬ i < 8 from by omega, show i < 16 from by omega, show i < 24 from by omega, show i - 8 < 8 from by omega, show 8 + (i - 8) = i from by omega]
  · simp [hi, show ¬ i < 8 from by omega, show ¬ i < 16 from by omega, show i < 24 from by omega, show ¬ i - 8 < 8 from by omega, show i - 16 < 8 from by omega, show 16 + (i - 16) = i from by omega]
  · simp [hi, show ¬ i < 8 from by omega, show ¬ i < 16 from by omega, show ¬ i < 24 from by omega, show ¬ i - 8 < 8 from by omega, show ¬ i - 16 < 8 from by omega, show i - 24 < 8 from by omega, show 24 + (i - 24) = i from by omega]

theorem sh_lt (u : UInt8) (k : Nat) (hk : k ≤ 16) : ((rb u) <<< k).toNat < 16777216 := by
  have h := rb_lt u
  rw [BitVec.toNat_shiftLeft, Nat.shiftLeft_eq]
  have h2 : 2 ^ k ≤ 2 ^ 16 := Nat.pow_le_pow_right (by omega) hk
  have h3 : (rb u).toNat * 2 ^ k ≤ 255 * 2 ^ 16 := Nat.mul_le_mul (by omega) h2
  have := Nat.mod_le ((rb u).toNat * 2 ^ k) (2 ^ 32)
  omega

theorem reg_four (c r : Reg) : reg c (four r) = sts 32 (c ^^^ r) := by
  have e := four_split r
  conv => rhs; rw [e]
  unfold four
  generalize UInt8.ofNat r.toNat = a
  generalize UInt8.ofNat (r.toNat / 256) = b
  generalize UInt8.ofNat (r.toNat / 65536) = d
  generalize UInt8.ofNat (r.toNat / 16777216) = f
  have hb : sts 32 ((rb b) <<< 8) = sts 24 (rb b) :=
    (sts_add 8 24 _).trans (congrArg (sts 24) (sh8 _ (by have := rb_lt b; omega)))
  have hd : sts 32 ((rb d) <<< 16) = sts 16 (rb d) := by
    rw [show (rb d) <<< 16 = ((rb d) <<< 8) <<< 8 from by rw [← BitVec.shiftLeft_add]]
    refine (sts_add 8 24 _).trans ?_
    rw [sh8 _ (sh_lt d 8 (by omega))]
    exact (sts_add 8 16 _).trans (congrArg (sts 16) (sh8 _ (by have := rb_lt d; omega)))
  have hf : sts 32 ((rb f) <<< 24) = sts 8 (rb f) := by
    have e2 : ((rb f) <<< 8) <<< 8 = (rb f) <<< 16 := by rw [← BitVec.shiftLeft_add]
    rw [show (rb f) <<< 24 = (((rb f) <<< 8) <<< 8) <<< 8 from by rw [← BitVec.shiftLeft_add, ← BitVec.shiftLeft_add]]
    refine (sts_add 8 24 _).trans ?_
    rw [sh8 _ (by rw [e2]; exact sh_lt f 16 (by omega))]
    refine (sts_add 8 16 _).trans ?_
    rw [sh8 _ (sh_lt f 8 (by omega))]
    exact (sts_add 8 8 _).trans (congrArg (sts 8) (sh8 _ (by have := rb_lt f; omega)))
  simp only [sts_xor, hb, hd, hf]
  show st8 (st8 (st8 (st8 c a) b) d) f = _
  unfold st8
  simp only [sts_xor, ← sts_add, Nat.reduceAdd]
  ac_rfl

theorem seal_reg (l : List UInt8) : reg ones (seal_ l) = sts 32 ones := by
  unfold seal_
  rw [reg_append, reg_four]
  congr 1
  unfold sum more
  rw [show ~~~(0#32) = ones from by decide]
  generalize reg ones l = r
  show r ^^^ ~~~r = ones
  rw [show ones = BitVec.allOnes 32 from by decide, ← BitVec.allOnes_xor, BitVec.xor_comm, BitVec.xor_assoc, BitVec.xor_self, BitVec.xor_zero]

/-- What is not as it was sealed does not open. -/
theorem open_turned (l s : List UInt8) (hs : s.length = l.length + 4) (x : Reg) (hx : x ≠ 0#32) (h : reg ones s = reg ones (seal_ l) ^^^ x) : openR s = ([], 5) := by
  unfold openR
  rw [if_neg (by omega), if_neg]
  intro he
  have e : s = seal_ (s.take (s.length - 4)) := by
    unfold seal_
    rw [he, List.take_append_drop]
  rw [e, seal_reg, seal_reg] at h
  have : sts 32 ones ^^^ sts 32 ones = sts 32 ones ^^^ (sts 32 ones ^^^ x) := by rw [← h]
  rw [← BitVec.xor_assoc, BitVec.xor_self, BitVec.zero_xor] at this
  exact hx this.symm
end Go.Proofs.Ytcmbdbphddokmaa
