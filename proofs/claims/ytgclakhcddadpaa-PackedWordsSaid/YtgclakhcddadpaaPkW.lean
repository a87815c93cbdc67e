/-
  MEMORY WORDS for numbers of a kind, and for a Vec.
-/
import Derived.Test.YtgclakhcddadpaaPkHd
import Derived.Test.YtgclakhcddadpaaPkRef
import Derived.Test.YtgclakhcddadpaaFree
import Derived.Test.YtgclakhcddadpaaConcat
namespace Go.Proofs.Ytgclakhcddadpaa
open Go.RowKit

/-- Numbers as cells. -/
def uk (k : IntKind) (l : List Nat) : List Value := l.map fun x : Nat => .int k (x : Int)
theorem uk_length (k : IntKind) (l : List Nat) : (uk k l).length = l.length := by simp [uk]
theorem uk_get (k : IntKind) (l : List Nat) (i : Nat) (h : i < l.length) : (uk k l)[i]? = some (.int k (l[i] : Int)) := by simp [uk, h]
theorem uk_snoc (k : IntKind) (l : List Nat) (x : Nat) : uk k (l ++ [x]) = uk k l ++ [.int k (x : Int)] := by simp [uk]
theorem uk_one (k : IntKind) (l : List Nat) : ∀ u ∈ uk k l, u.oneCell' = true := by
  intro u hu
  simp [uk] at hu
  obtain ⟨x, _, rfl⟩ := hu
  rfl

/-- The block g is a Vec of the width z that holds l. -/
def VecAt (t : TypeId) (k : IntKind) (g : Nat) (z : Nat) (l : List Nat) (w : World) : Prop :=
  ∃ A c, w.heap[g]? = some (.cells #[.int .i64 (z : Int), .slice A l.length c] t (0, 0)) ∧ Rd w A (uk k l) ∧ (A = none → l = []) ∧ l.length ≤ c ∧ c ≤ maxLen

theorem VecAt.lt {t : TypeId} {k : IntKind} {g z : Nat} {l : List Nat} {w : World} (h : VecAt t k g z l w) : g < w.heap.size := by
  obtain ⟨A, c, h1, _⟩ := h
  exact (Array.getElem?_eq_some_iff.1 h1).1
theorem VecAt.below {t : TypeId} {k : IntKind} {g z : Nat} {l : List Nat} {w w' : World} (h : VecAt t k g z l w) (hb : Below w.heap.size w w') : VecAt t k g z l w' := by
  have hl := h.lt
  obtain ⟨A, c, h1, h2, h3⟩ := h
  exact ⟨A, c, (hb.block g hl).trans h1, h2.below hb, h3⟩

theorem vec_cells {w : World} {g : Nat} {t : TypeId} {u v : Value} (h : w.heap[g]? = some (.cells #[u, v] t (0, 0))) : w.cell? ⟨g, 0, none⟩ = some u ∧ w.cell? ⟨g, 1, none⟩ = some v :=
  ⟨by simp [World.cell?, h], by simp [World.cell?, h]⟩

/-- New's answer where it is one. -/
def NewOk (t : TypeId) (k : IntKind) (z : Nat) (l : List Nat) (w : World) (e : Ending) (w' : World) : Prop :=
  ∃ g, e = .returned (.tuple #[.pointer (some ⟨g, 0, none⟩), .int .i64 0]) ∧ w.heap.size ≤ g ∧ VecAt t k g z l w' ∧ Below w.heap.size w w'

theorem own_mono {w : World} {base base' : Nat} {e : TypeId} {v : Value} {n : Nat} {xs : List Value} (h : w.ownsRow base e 1 v n xs) (hb : base' ≤ base) : w.ownsRow base' e 1 v n xs := by
  obtain ⟨h1, h2⟩ := h
  refine ⟨h1, ?_⟩
  rcases h2 with h2 | ⟨g, cap, cur, hv, hg, r⟩
  · exact .inl h2
  · exact .inr ⟨g, cap, cur, hv, Nat.le_trans hb hg, r⟩

theorem rd_cutF {w : World} {A : Option Addr} {l : List UInt8} (hr : Rd w A (cb l)) (p c : Nat) (h : l.length ≤ c) : Rd w (if c = p then A else Option.map (fun x => x.add p) A) (cb (l.drop p)) := by
  by_cases hp : c = p
  · rw [List.drop_eq_nil_of_le (show l.length ≤ p by omega)]
    exact Rd.nil _ _
  · rw [if_neg hp]
    have h2 := hr.drop p
    rwa [cb_drop] at h2

/-- A number's bit, as the code takes it and lays it. -/
theorem bitv (x k r : Nat) (hx : x < 18446744073709551616) (hr : r < 8) : ∃ v : Nat, bits BinOp.and IntKind.u64 ((x : Int) / 2 ^ k) 1 = (v : Int) ∧ IntKind.u8.wrap (v : Int) = (v : Int) ∧
    IntKind.u8.wrap ((v : Int) * 2 ^ r) = ((UInt8.ofNat (if x.testBit k then 2 ^ r else 0)).toNat : Int) ∧ v = if x.testBit k then 1 else 0 := by
  have e : (x : Int) / 2 ^ k = ((x / 2 ^ k : Nat) : Int) := by rw [Int.natCast_ediv]; simp
  have hd : x / 2 ^ k ≤ x := Nat.div_le_self _ _
  have h := u64_and_nat (x / 2 ^ k) 1 (by omega) (by omega)
  have h : bits BinOp.and IntKind.u64 ((x / 2 ^ k : Nat) : Int) 1 = _ := h
  rw [Nat.and_one_is_mod] at h
  have hp : 2 ^ r < 256 := Nat.pow_lt_pow_right (a := 2) (by omega) hr
  refine ⟨if x.testBit k then 1 else 0, ?_, ?_, ?_, rfl⟩
  · rw [e, h, Nat.testBit_eq_decide_div_mod_eq]
    have : x / 2 ^ k % 2 = 0 ∨ x / 2 ^ k % 2 = 1 := by omega
    rcases this with h | h <;> simp [h]
  · split <;> rfl
  · split
    · rw [IntKind.wrap_u8]
      have e2 : ((1 : Nat) : Int) * 2 ^ r = ((2 ^ r : Nat) : Int) := by simp
      rw [e2]
      generalize 2 ^ r = q at hp
      simp only [UInt8.toNat_ofNat']
      omega
    · rw [IntKind.wrap_u8]; simp

/-- A slice of bytes that reads as l. -/
def SlS (n : Nat) (l : List UInt8) : Spec := fun v w => ∃ A c, v = .slice A n c ∧ Rd w A (cb l)
theorem slS_stable (n : Nat) (l : List UInt8) : Stable (SlS n l) := fun v w w' hx ⟨A, c, h1, h2⟩ => ⟨A, c, h1, h2.below hx⟩
/-- The same, clipped. -/
def SlC (n : Nat) (l : List UInt8) : Spec := fun v w => ∃ A, v = .slice A n n ∧ Rd w A (cb l) ∧ (A = none → n = 0)
theorem slC_stable (n : Nat) (l : List UInt8) : Stable (SlC n l) := fun v w w' hx ⟨A, h1, h2, h3⟩ => ⟨A, h1, h2.below hx, h3⟩
/-- The same, with spare room. -/
def SlR (n : Nat) (l : List UInt8) : Spec := fun v w => ∃ A c, v = .slice A n c ∧ Rd w A (cb l) ∧ n ≤ c ∧ c ≤ maxLen ∧ (A = none → n = 0)
theorem slR_stable (n : Nat) (l : List UInt8) : Stable (SlR n l) := fun v w w' hx ⟨A, c, h1, h2, h3⟩ => ⟨A, c, h1, h2.below hx, h3⟩

theorem upon_append {P : Program} {a : Act} {w : World} {R : Value → World → Prop} {o : Oper} (s x : Operand) (t : TypeId) (ho : o.op = .call { callee := .builtin .append, args := #[s, x], argTypes := #[t, t] })
    {v1 v2 v' : Value} {w' : World} (hs : a.eval s = v1) (hx : a.eval x = v2) (hr : (Builtin.append_ #[t, t] o.type #[v1, v2]).run P w = .ok v' w') (h : R v' w') : upon P R ((execOp a.eval o).run P w) := by
  unfold execOp
  simp only [ho, resolve, invoke, builtin, Sem.run_bind, Sem.run_pure, Result.andThen_ok, List.map_toArray, List.map_cons, List.map_nil, hs, hx, hr]
  exact h

theorem slS_conv {wx : World} {n : Nat} {l : List UInt8} {v : Value} (hn : l.length = n) (h : SlS n l v wx) : (convert 23 9 v).run Try.prog wx = .ok (.string ⟨l.toArray⟩) wx := by
  obtain ⟨A, c, rfl, hd⟩ := h
  exact run_strn wx 23 9 5 Try.underlying23 Try.underlying5 Try.underlying9 A n l c hn hd
end Go.Proofs.Ytgclakhcddadpaa
