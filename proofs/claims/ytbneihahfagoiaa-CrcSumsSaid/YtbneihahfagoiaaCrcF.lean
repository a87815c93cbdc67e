/-
  PLAIN WORDS for the laws of sums; what comes in.
-/
import Derived.Test.YtbneihahfagoiaaCrcE
import Derived.Laws.OwnMore
namespace Go.Proofs.Ytbneihahfagoiaa
open Go.RowKit

theorem i64_of {a : Int} (h : (Lit.int .i64 a).wf = true) : -9223372036854775808 ≤ a ∧ a ≤ 9223372036854775807 := by
  simp [Lit.wf, IntKind.min, IntKind.max, IntKind.signed, IntKind.bits] at h
  omega

/-- The lowest bits of whatever int. -/
theorem i64_mask (a : Int) (m : Nat) (hm : m < 9223372036854775808) : ∃ r : Nat, r ≤ m ∧ bits BinOp.and IntKind.i64 a (m : Int) = (r : Int) := by
  have h2 : (BitVec.ofInt 64 (m : Int)).toNat = m := by
    rw [BitVec.ofInt_natCast, BitVec.toNat_ofNat]; exact Nat.mod_eq_of_lt (by omega)
  refine ⟨(BitVec.ofInt 64 a).toNat &&& m, Nat.and_le_right, ?_⟩
  show IntKind.i64.wrap ((BitVec.ofInt 64 a &&& BitVec.ofInt 64 (m : Int)).toNat : Int) = _
  have hx : (BitVec.ofInt 64 a).toNat &&& m ≤ m := Nat.and_le_right
  rw [BitVec.toNat_and, h2, IntKind.wrap_i64]
  omega

theorem u8_of {a : Int} (h : (Lit.int .u8 a).wf = true) : ∃ u : UInt8, a = (u.toNat : Int) := by
  have := byte_wf h
  refine ⟨UInt8.ofNat a.toNat, ?_⟩
  rw [UInt8.toNat_ofNat']
  omega

theorem u32_of {a : Int} (h : (Lit.int .u32 a).wf = true) : ∃ r : Reg, a = (r.toNat : Int) := by
  simp [Lit.wf, IntKind.min, IntKind.max, IntKind.signed, IntKind.bits] at h
  refine ⟨BitVec.ofNat 32 a.toNat, ?_⟩
  rw [BitVec.toNat_ofNat]
  omega

theorem u8_xor_c (u v : UInt8) : bits BinOp.xor IntKind.u8 (u.toNat : Int) (v.toNat : Int) = ((u ^^^ v).toNat : Int) := by
  rw [u8_xor_nat _ _ u.toNat_lt v.toNat_lt, UInt8.toNat_xor]

/-! ### A byte turned is a sum turned -/
theorem rb_inj {u v : UInt8} (h : rb u = rb v) : u = v := by
  have := congrArg BitVec.toNat h
  unfold rb at this
  rw [BitVec.toNat_ofNat, BitVec.toNat_ofNat] at this
  have h1 := u.toNat_lt
  have h2 := v.toNat_lt
  apply UInt8.toNat_inj.1
  omega

theorem reg_inj (l : List UInt8) : ∀ {c d}, reg c l = reg d l → c = d := by
  induction l with
  | nil => intro c d h; exact h
  | cons x l ih =>
    intro c d h
    have := sts_inj 8 (ih (c := st8 c x) (d := st8 d x) h)
    have h2 : c ^^^ rb x ^^^ rb x = d ^^^ rb x ^^^ rb x := by rw [this]
    rwa [BitVec.xor_assoc, BitVec.xor_assoc, BitVec.xor_self, BitVec.xor_zero, BitVec.xor_zero] at h2

theorem reg_byte (c : Reg) (u v : UInt8) (b : List UInt8) (h : reg c (u :: b) = reg c (v :: b)) : u = v := by
  have h1 := reg_inj b (c := st8 c u) (d := st8 c v) h
  have h2 := sts_inj 8 h1
  have h3 : c ^^^ (c ^^^ rb u) = c ^^^ (c ^^^ rb v) := by rw [h2]
  rw [← BitVec.xor_assoc, ← BitVec.xor_assoc, BitVec.xor_self, BitVec.zero_xor, BitVec.zero_xor] at h3
  exact rb_inj h3

theorem not_inj {a b : Reg} (h : ~~~a = ~~~b) : a = b := by
  have : ~~~(~~~a) = ~~~(~~~b) := by rw [h]
  simpa using this

theorem sum_inj_reg {a b : List UInt8} (h : sum a = sum b) : reg (~~~(0#32)) a = reg (~~~(0#32)) b := not_inj h

theorem sum_set (l : List UInt8) (k : Nat) (hk : k < l.length) (v : UInt8) (h : sum l = sum (l.set k v)) : l[k] = v := by
  have e1 : l = l.take k ++ l[k] :: l.drop (k + 1) := by rw [List.getElem_cons_drop, List.take_append_drop]
  have e2 : l.set k v = l.take k ++ v :: l.drop (k + 1) := List.set_eq_take_append_cons_drop .. |>.trans (if_pos hk)
  have h' := sum_inj_reg h
  rw [e2] at h'
  conv at h' => lhs; rw [e1]
  rw [reg_append, reg_append] at h'
  exact reg_byte _ _ _ _ h'

theorem xor_self_of {u x : UInt8} (h : u = u ^^^ x) : x = 0 := by
  have : u ^^^ u = u ^^^ (u ^^^ x) := by rw [← h]
  rw [← UInt8.xor_assoc, UInt8.xor_self, UInt8.zero_xor] at this
  exact this.symm
end Go.Proofs.Ytbneihahfagoiaa
