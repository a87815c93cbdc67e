/-
  PLAIN RECORDS put one behind the other; cut anywhere. No program in sight.
-/
import Derived.Test.YtcmbdbphddokmaaPlainFrmR
namespace Go.Proofs.Ytcmbdbphddokmaa

/-- A record that is cut is torn. -/
theorem takeR_cut (k : Nat) (b : List UInt8) (j : Nat) (h1 : 1 ≤ k) (h2 : k ≤ 250) (h3 : b.length ≤ 70000) (hj : j < b.length + 12) : takeR ((frameB k b).take j) = (0, [], 0, 4) := by
  have hfl := frameB_length k b
  have hl := seal_length (headB k b.length)
  rw [headB_length] at hl
  have hlb := seal_length b
  by_cases h8 : j < 8
  · unfold takeR
    rw [if_pos (by rw [List.length_take]; omega)]
  · have e1 : ((frameB k b).take j).take 8 = seal_ (headB k b.length) := by
      unfold frameB
      rw [List.take_take, Nat.min_eq_left (by omega), List.take_append_of_le_length (by omega), List.take_of_length_le (by omega)]
    unfold takeR
    rw [if_neg (by rw [List.length_take]; omega), e1, open_seal, if_pos rfl]
    unfold takeH
    rw [head_kind _ _ (by omega), head_len _ _ (by omega), if_neg (by omega), if_pos (by rw [List.length_drop, List.length_take]; omega)]

/-- Records (kind, body) one behind the other. -/
def framesB (rs : List (Nat × List UInt8)) : List UInt8 := (rs.map fun r => frameB r.1 r.2).flatten
/-- Where the i-th begins. -/
def startB (rs : List (Nat × List UInt8)) (i : Nat) : Nat := (framesB (rs.take i)).length
def GoodB (rs : List (Nat × List UInt8)) : Prop := ∀ r ∈ rs, 1 ≤ r.1 ∧ r.1 ≤ 250 ∧ r.2.length ≤ 70000

theorem framesB_cons (r : Nat × List UInt8) (rs : List (Nat × List UInt8)) : framesB (r :: rs) = frameB r.1 r.2 ++ framesB rs := by simp [framesB]
theorem framesB_snoc (r : Nat × List UInt8) (rs : List (Nat × List UInt8)) : framesB (rs ++ [r]) = framesB rs ++ frameB r.1 r.2 := by simp [framesB]
theorem framesB_append (a b : List (Nat × List UInt8)) : framesB (a ++ b) = framesB a ++ framesB b := by simp [framesB]
theorem startB_zero (rs : List (Nat × List UInt8)) : startB rs 0 = 0 := by simp [startB, framesB]
theorem startB_succ (rs : List (Nat × List UInt8)) (i : Nat) (h : i < rs.length) : startB rs (i + 1) = startB rs i + (rs[i].2.length + 12) := by
  unfold startB
  rw [List.take_succ_eq_append_getElem h, framesB_snoc, List.length_append, frameB_length]
theorem startB_len (rs : List (Nat × List UInt8)) (i : Nat) (h : rs.length ≤ i) : startB rs i = (framesB rs).length := by
  unfold startB
  rw [List.take_of_length_le h]
theorem startB_cons (r : Nat × List UInt8) (rs : List (Nat × List UInt8)) (i : Nat) : startB (r :: rs) (i + 1) = (r.2.length + 12) + startB rs i := by
  unfold startB
  rw [List.take_succ_cons, framesB_cons, List.length_append, frameB_length]
theorem framesB_split (rs : List (Nat × List UInt8)) (i : Nat) : framesB rs = framesB (rs.take i) ++ framesB (rs.drop i) := by
  rw [← framesB_append, List.take_append_drop]
theorem framesB_drop (rs : List (Nat × List UInt8)) (i : Nat) : (framesB rs).drop (startB rs i) = framesB (rs.drop i) := by
  rw [framesB_split rs i]
  unfold startB
  rw [List.drop_left]
theorem goodB_take {rs : List (Nat × List UInt8)} (h : GoodB rs) (i : Nat) : GoodB (rs.take i) := fun r hr => h r (List.mem_of_mem_take hr)
theorem goodB_drop {rs : List (Nat × List UInt8)} (h : GoodB rs) (i : Nat) : GoodB (rs.drop i) := fun r hr => h r (List.mem_of_mem_drop hr)

/-- What is told of records that begin at the place at. -/
def outF : Nat → List (Nat × List UInt8) → List (Nat × Nat × List UInt8)
  | _, [] => []
  | at_, r :: rs => (at_, r.1, r.2) :: outF (at_ + (r.2.length + 12)) rs
theorem outF_length (rs : List (Nat × List UInt8)) : ∀ at_, (outF at_ rs).length = rs.length := by
  induction rs with
  | nil => intro at_; rfl
  | cons r rs ih => intro at_; simp [outF, ih]
theorem outF_get (rs : List (Nat × List UInt8)) : ∀ at_ i (hi : i < rs.length) (h : i < (outF at_ rs).length), (outF at_ rs)[i] = (at_ + startB rs i, rs[i].1, rs[i].2) := by
  induction rs with
  | nil => intro at_ i hi; simp at hi
  | cons r rs ih =>
    intro at_ i hi h
    cases i with
    | zero => simp [outF, startB_zero]
    | succ i =>
      have h2 := ih (at_ + (r.2.length + 12)) i (by simpa using hi) (by rw [outF_length]; simpa using hi)
      simp only [outF, List.getElem_cons_succ]
      rw [h2, startB_cons, Nat.add_assoc]

theorem rowsFG_frames (rs : List (Nat × List UInt8)) : ∀ at_ t, GoodB rs →
    rowsFG (framesB rs ++ t).length at_ (framesB rs ++ t) = outF at_ rs ++ rowsFG t.length (at_ + (framesB rs).length) t ∧
    endFG (framesB rs ++ t).length at_ (framesB rs ++ t) = endFG t.length (at_ + (framesB rs).length) t := by
  induction rs with
  | nil => intro at_ t _; simp [framesB, outF]
  | cons r rs ih =>
    intro at_ t hg
    obtain ⟨h1, h2, h3⟩ := hg r (by simp)
    have ih' := ih (at_ + (r.2.length + 12)) t (fun x hx => hg x (by simp [hx]))
    have hfl := frameB_length r.1 r.2
    rw [framesB_cons, List.append_assoc]
    have hT := takeR_frame r.1 r.2 (framesB rs ++ t) h1 h2 h3
    obtain ⟨f, hf⟩ : ∃ f, (frameB r.1 r.2 ++ (framesB rs ++ t)).length = f + 1 := ⟨_, (Nat.succ_pred_eq_of_pos (by rw [List.length_append]; omega)).symm⟩
    have hlen : (frameB r.1 r.2 ++ (framesB rs ++ t)).length = r.2.length + 12 + (framesB rs ++ t).length := by rw [List.length_append, hfl]
    have hd : (frameB r.1 r.2 ++ (framesB rs ++ t)).drop (r.2.length + 12) = framesB rs ++ t := by rw [← hfl, List.drop_left]
    rw [hf, rowsFG, endFG, hT]
    simp only [if_true]
    rw [hd, rowsFG_fuel f (framesB rs ++ t).length _ _ (by omega) (Nat.le_refl _), endFG_fuel f (framesB rs ++ t).length _ _ (by omega) (Nat.le_refl _), ih'.1, ih'.2, List.length_append, hfl]
    rw [show at_ + (r.2.length + 12) + (framesB rs).length = at_ + (r.2.length + 12 + (framesB rs).length) from by omega]
    exact ⟨rfl, rfl⟩

theorem rowsF_frames (rs : List (Nat × List UInt8)) (t : List UInt8) (h : GoodB rs) : rowsF (framesB rs ++ t) = outF 0 rs ++ rowsFG t.length (framesB rs).length t := by
  have := (rowsFG_frames rs 0 t h).1
  rw [Nat.zero_add] at this
  exact this
theorem endF_frames (rs : List (Nat × List UInt8)) (t : List UInt8) (h : GoodB rs) : endF (framesB rs ++ t) = endFG t.length (framesB rs).length t := by
  have := (rowsFG_frames rs 0 t h).2
  rw [Nat.zero_add] at this
  exact this

theorem rowsFG_bad (f : Nat) (at_ : Nat) (t : List UInt8) (h : (takeR t).2.2.2 ≠ 0) : rowsFG f at_ t = [] ∧ endFG f at_ t = at_ := by
  cases f with
  | zero => exact ⟨rfl, rfl⟩
  | succ f => simp [rowsFG, endFG, h]

/-- Records with what is no record behind them. -/
theorem rowsF_stop (rs : List (Nat × List UInt8)) (t : List UInt8) (h : GoodB rs) (ht : (takeR t).2.2.2 ≠ 0) : rowsF (framesB rs ++ t) = outF 0 rs ∧ endF (framesB rs ++ t) = (framesB rs).length := by
  obtain ⟨h1, h2⟩ := rowsFG_bad t.length (framesB rs).length t ht
  rw [rowsF_frames rs t h, endF_frames rs t h, h1, h2, List.append_nil]
  exact ⟨rfl, rfl⟩
theorem rowsF_all (rs : List (Nat × List UInt8)) (h : GoodB rs) : rowsF (framesB rs) = outF 0 rs ∧ endF (framesB rs) = (framesB rs).length := by
  have := rowsF_stop rs [] h (by decide)
  rwa [List.append_nil] at this

/-- How many records lie ahead of the place k. -/
def cntB : List (Nat × List UInt8) → Nat → Nat
  | [], _ => 0
  | r :: rs, k => if r.2.length + 12 ≤ k then cntB rs (k - (r.2.length + 12)) + 1 else 0
theorem cntB_spec (rs : List (Nat × List UInt8)) : ∀ k, cntB rs k ≤ rs.length ∧ (∀ i, i ≤ cntB rs k → startB rs i ≤ k) ∧ (cntB rs k < rs.length → k < startB rs (cntB rs k + 1)) := by
  induction rs with
  | nil => intro k; refine ⟨Nat.le_refl _, fun i hi => ?_, fun h => by simp [cntB] at h⟩; rw [startB_len _ _ (Nat.zero_le _)]; simp [framesB]
  | cons r rs ih =>
    intro k
    by_cases hk : r.2.length + 12 ≤ k
    · have e : cntB (r :: rs) k = cntB rs (k - (r.2.length + 12)) + 1 := by rw [cntB, if_pos hk]
      obtain ⟨h1, h2, h3⟩ := ih (k - (r.2.length + 12))
      rw [e]
      refine ⟨by simp only [List.length_cons]; omega, fun i hi => ?_, fun h => ?_⟩
      · cases i with
        | zero => rw [startB_zero]; omega
        | succ i =>
          rw [startB_cons]
          have := h2 i (by omega)
          omega
      · simp only [List.length_cons] at h
        have := h3 (by omega)
        rw [startB_cons]
        omega
    · have e : cntB (r :: rs) k = 0 := by rw [cntB, if_neg hk]
      rw [e]
      refine ⟨Nat.zero_le _, fun i hi => ?_, fun _ => ?_⟩
      · obtain rfl : i = 0 := by omega
        rw [startB_zero]
        omega
      · rw [Nat.zero_add, startB_cons, startB_zero]
        omega

/-- What is left of records with bytes behind them, cut at k: whole records, and what is none. -/
theorem cut_frames (rs : List (Nat × List UInt8)) (k : Nat) (h : GoodB rs) : ∃ t, (framesB rs).take k = framesB (rs.take (cntB rs k)) ++ t ∧ (takeR t).2.2.2 = 4 ∧ (takeR t).2.2.2 ≠ 0 ∧ (k ≤ (framesB rs).length → t.length = k - startB rs (cntB rs k)) := by
  obtain ⟨h1, h2, h3⟩ := cntB_spec rs k
  have hle := h2 _ (Nat.le_refl _)
  have e : (framesB rs).take k = framesB (rs.take (cntB rs k)) ++ (framesB (rs.drop (cntB rs k))).take (k - startB rs (cntB rs k)) := by
    rw [framesB_split rs (cntB rs k), List.take_append, List.take_of_length_le (show (framesB (rs.take (cntB rs k))).length ≤ k from hle)]
    rfl
  have htl : k ≤ (framesB rs).length → ((framesB (rs.drop (cntB rs k))).take (k - startB rs (cntB rs k))).length = k - startB rs (cntB rs k) := by
    intro hk
    rw [List.length_take]
    have : (framesB rs).length = startB rs (cntB rs k) + (framesB (rs.drop (cntB rs k))).length := by
      conv => lhs; rw [framesB_split rs (cntB rs k)]
      rw [List.length_append]; rfl
    omega
  refine ⟨_, e, ?_, ?_, htl⟩
  all_goals
    rcases Nat.lt_or_ge (cntB rs k) rs.length with hlt | hge
    · have h3' := h3 hlt
      rw [startB_succ rs _ hlt] at h3'
      have hd : framesB (rs.drop (cntB rs k)) = frameB rs[cntB rs k].1 rs[cntB rs k].2 ++ framesB (rs.drop (cntB rs k + 1)) := by
        rw [List.drop_eq_getElem_cons hlt, framesB_cons]
      obtain ⟨g1, g2, g3⟩ := h _ (List.getElem_mem hlt)
      rw [hd, List.take_append_of_le_length (by rw [frameB_length]; omega), takeR_cut _ _ _ g1 g2 g3 (by omega)] <;> decide
    · rw [List.drop_of_length_le hge]
      have hz : (takeR ((framesB []).take (k - startB rs (cntB rs k)))) = (0, [], 0, 4) := by simp [framesB, takeR_nil]
      rw [hz] <;> decide
end Go.Proofs.Ytcmbdbphddokmaa
