/-
  PLAIN ROWS of numbers put one behind the other, cut anywhere. No program in sight.
-/
import Derived.Test.YtkaigeodeabicaaPlainRows
namespace Go.Proofs.Ytkaigeodeabicaa

theorem takeG_cut (f : Nat) : ∀ i acc n j, f + i = 10 → i + (put n).length ≤ 10 → j < (put n).length → takeG f i acc ((put n).take j) = (0, 0, 4) := by
  induction f with
  | zero =>
    intro i acc n j hf hl hj
    have := put_pos n
    omega
  | succ f ih =>
    intro i acc n j hf hl hj
    cases j with
    | zero => rw [List.take_zero]; rfl
    | succ j =>
      by_cases h : n < 128
      · rw [put_small h] at hj
        simp at hj
      · rw [put_big h] at hl hj ⊢
        have hp := put_pos (n / 128)
        rw [List.length_cons] at hl hj
        rw [List.take_succ_cons]
        have e : (UInt8.ofNat (n % 128 + 128)).toNat = n % 128 + 128 := by simp; omega
        simp only [takeG, e]
        rw [if_neg (by omega), if_neg (by omega)]
        exact ih _ _ _ j (by omega) (by omega) (by omega)

theorem take_cut (n j : Nat) (h : n < 18446744073709551616) (hj : j < (put n).length) : take ((put n).take j) = (0, 0, 4) :=
  takeG_cut 10 0 0 n j rfl (by have := put_le10 n h; omega) hj

/-- Numbers put one behind the other. -/
def puts (ns : List Nat) : List UInt8 := (ns.map put).flatten
/-- Where the i-th begins. -/
def startN (ns : List Nat) (i : Nat) : Nat := (puts (ns.take i)).length

theorem puts_cons (n : Nat) (ns : List Nat) : puts (n :: ns) = put n ++ puts ns := by simp [puts]
theorem puts_snoc (n : Nat) (ns : List Nat) : puts (ns ++ [n]) = puts ns ++ put n := by simp [puts]
theorem startN_zero (ns : List Nat) : startN ns 0 = 0 := by simp [startN, puts]
theorem startN_cons (n : Nat) (ns : List Nat) (i : Nat) : startN (n :: ns) (i + 1) = (put n).length + startN ns i := by
  simp [startN, puts_cons]
theorem startN_succ (ns : List Nat) (i : Nat) (h : i < ns.length) : startN ns (i + 1) = startN ns i + (put ns[i]).length := by
  unfold startN
  rw [List.take_succ_eq_append_getElem h, puts_snoc, List.length_append]

/-- What is told of such numbers of which k bytes are left. -/
def outs : Nat → List Nat → Nat → List (Nat × Nat)
  | _, [], _ => []
  | at_, n :: ns, k => if (put n).length ≤ k then (at_, n) :: outs (at_ + (put n).length) ns (k - (put n).length) else []

theorem rowsG_puts (ns : List Nat) : ∀ f at_ k, (∀ n ∈ ns, n < 18446744073709551616) → ((puts ns).take k).length ≤ f → rowsG f at_ ((puts ns).take k) = outs at_ ns k := by
  induction ns with
  | nil =>
    intro f at_ k _ _
    have e : (puts []).take k = [] := by simp [puts]
    rw [e]
    cases f with
    | zero => rfl
    | succ f => simp [rowsG, take_nil, outs]
  | cons n ns ih =>
    intro f at_ k hn hf
    have h0 := hn n (by simp)
    have hp := put_pos n
    rw [puts_cons] at hf ⊢
    unfold outs
    by_cases hk : (put n).length ≤ k
    · rw [if_pos hk]
      have e : (put n ++ puts ns).take k = put n ++ (puts ns).take (k - (put n).length) := by
        rw [List.take_append, List.take_of_length_le hk]
      rw [e] at hf ⊢
      rw [List.length_append] at hf
      obtain ⟨g, rfl⟩ : ∃ g, f = g + 1 := ⟨f - 1, by omega⟩
      rw [rowsG, take_put n h0]
      simp only [if_true]
      rw [List.drop_left, ih g _ _ (fun x hx => hn x (by simp [hx])) (by omega)]
    · rw [if_neg hk]
      have e : (put n ++ puts ns).take k = (put n).take k := by
        rw [List.take_append, show k - (put n).length = 0 from by omega]
        simp
      rw [e]
      cases f with
      | zero => rfl
      | succ f => rw [rowsG, take_cut n k h0 (by omega)]; rfl

theorem rows_puts (ns : List Nat) (k : Nat) (h : ∀ n ∈ ns, n < 18446744073709551616) : rows ((puts ns).take k) = outs 0 ns k :=
  rowsG_puts ns _ 0 k h (Nat.le_refl _)

theorem outs_spec (ns : List Nat) : ∀ at_ k, (outs at_ ns k).length ≤ ns.length ∧
    (∀ i (hi : i < (outs at_ ns k).length) (hl : i < ns.length), (outs at_ ns k)[i] = (at_ + startN ns i, ns[i]) ∧ startN ns (i + 1) ≤ k) ∧
    ((outs at_ ns k).length < ns.length → k < startN ns ((outs at_ ns k).length + 1)) := by
  induction ns with
  | nil => intro at_ k; simp [outs]
  | cons n ns ih =>
    intro at_ k
    by_cases hk : (put n).length ≤ k
    · have e : outs at_ (n :: ns) k = (at_, n) :: outs (at_ + (put n).length) ns (k - (put n).length) := by rw [outs, if_pos hk]
      obtain ⟨h1, h2, h3⟩ := ih (at_ + (put n).length) (k - (put n).length)
      rw [e]
      refine ⟨by simp only [List.length_cons]; omega, fun i hi hl => ?_, fun h => ?_⟩
      · cases i with
        | zero =>
          refine ⟨by simp [startN_zero], ?_⟩
          rw [startN_cons, startN_zero]
          omega
        | succ i =>
          simp only [List.length_cons] at hi hl
          obtain ⟨k1, k2⟩ := h2 i (by omega) (by omega)
          refine ⟨?_, ?_⟩
          · simp only [List.getElem_cons_succ]
            rw [k1, startN_cons, Nat.add_assoc]
          · rw [startN_cons]
            omega
      · simp only [List.length_cons] at h ⊢
        have := h3 (by omega)
        rw [startN_cons]
        omega
    · have e : outs at_ (n :: ns) k = [] := by rw [outs, if_neg hk]
      rw [e]
      refine ⟨by simp, fun i hi _ => by simp at hi, fun _ => ?_⟩
      simp only [List.length_nil, Nat.zero_add]
      rw [startN_cons, startN_zero]
      omega

theorem startN_le (ns : List Nat) (h : ∀ n ∈ ns, n < 18446744073709551616) : ∀ i, startN ns i ≤ 10 * i := by
  intro i
  induction i with
  | zero => rw [startN_zero]; omega
  | succ i ih =>
    by_cases hi : i < ns.length
    · rw [startN_succ ns i hi]
      have := put_le10 ns[i] (h _ (List.getElem_mem hi))
      omega
    · have e : startN ns (i + 1) = startN ns i := by
        unfold startN
        rw [List.take_of_length_le (by omega), List.take_of_length_le (by omega)]
      omega
end Go.Proofs.Ytkaigeodeabicaa
