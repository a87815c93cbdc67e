/-
  THE SAME AS Free, where an operation may look at a temporary that a later one writes, if that one waits for it ('s = s + f(..)').
-/
import Derived.Test.YtcmbdbphddokmaaFree
namespace Go.Proofs.Ytcmbdbphddokmaa
open Go Go.RowKit

section
variable {P : Program} {ops : Array Oper}

/-- What an operation looks at has been put by those that it waits for, or will be put by one that waits for it. -/
def Waits2 (ops : Array Oper) (i : Nat) (o : Oper) : Prop :=
  ∀ t, t ∈ o.looksAt ops → ∀ j, dstOf ops j = some t → (j < i ∧ ∃ e ∈ o.after, Region.binds .any e = true ∧ e.on = j) ∨ (i < j ∧ ∃ oj, ops[j]? = some oj ∧ ∃ e ∈ oj.after, Region.binds .any e = true ∧ e.on = i)

theorem frm_agree2 (hA : Apart ops) {a : Act} {vs : Nat → Value} {S : Nat → Bool} {i : Nat} {o : Oper} (hW : Waits2 ops i o) {n : Nat} (hin : i ≤ n)
    (hS : ∀ e ∈ o.after, Region.binds .any e = true → S e.on = true) (hcl : ∀ j oj, ops[j]? = some oj → S j = true → ∀ e ∈ oj.after, Region.binds .any e = true → S e.on = true) (hi : S i = false)
    {t : Tmp} (ht : t ∈ o.looksAt ops) : (frm ops a vs S n).tmps[t]? = (frm ops a vs (fun _ => true) i).tmps[t]? := by
  by_cases hex : ∃ j, dstOf ops j = some t
  · obtain ⟨j, hj⟩ := hex
    rcases hW t ht j hj with ⟨hji, e, he, hb, heq⟩ | ⟨hij, oj, hoj, e, he, hb, heq⟩
    · have hSj : S j = true := by rw [← heq]; exact hS e he hb
      rw [frm_in hA hj hSj n (by omega), frm_in hA hj rfl i hji]
    · have hSj : S j = false := by
        cases h : S j with
        | false => rfl
        | true =>
          have := hcl j oj hoj h e he hb
          rw [heq, hi] at this
          cases this
      have h1 : (frm ops a vs S n).tmps[t]? = a.tmps[t]? := frm_out n fun k _ hk h => by
        by_cases hkj : k = j
        · subst hkj; rw [hSj] at hk; cases hk
        · exact hA k j t hkj h hj
      have h2 : (frm ops a vs (fun _ => true) i).tmps[t]? = a.tmps[t]? := frm_out i fun k hk _ h => by
        by_cases hkj : k = j
        · omega
        · exact hA k j t hkj h hj
      rw [h1, h2]
  · rw [frm_out n fun j _ _ h => hex ⟨j, h⟩, frm_out i fun j _ _ h => hex ⟨j, h⟩]

/-- The region's shape: what is asked of it is a closed fact. -/
def shapeB2 (ops : Array Oper) : Bool :=
  Region.noSelect ops &&
  (List.range ops.size).all fun i => match ops[i]? with
    | none => true
    | some o =>
      (o.after.all fun e => !Region.binds .any e || decide (e.on < i)) &&
      ((List.range ops.size).all fun j => match dstOf ops j with
        | none => true
        | some t => (i == j || dstOf ops i != some t) && (!(o.looksAt ops).contains t || (decide (j < i) && o.after.any fun e => Region.binds .any e && e.on == j) || (decide (i < j) && match ops[j]? with | some oj => oj.after.any fun e => Region.binds .any e && e.on == i | none => false)))

theorem shape_spec2 (h : shapeB2 ops = true) : (∀ (j : Nat) (o : Oper) cs b, ops[j]? = some o → o.op ≠ .select cs b) ∧ Apart ops ∧
    (∀ i o, ops[i]? = some o → Waits2 ops i o) ∧ (∀ i o, ops[i]? = some o → ∀ e ∈ o.after, Region.binds .any e = true → e.on < i) := by
  simp only [shapeB2, Bool.and_eq_true, List.all_eq_true, List.mem_range] at h
  obtain ⟨h1, h2⟩ := h
  refine ⟨Region.noSelect_spec h1, ?_, ?_, ?_⟩
  · intro i j d hij hi hj
    have hil := dstOf_lt hi
    have hjl := dstOf_lt hj
    have h3 := h2 i hil
    rw [Array.getElem?_eq_getElem hil] at h3
    simp only [Bool.and_eq_true, List.all_eq_true, List.mem_range] at h3
    have h4 := h3.2 j hjl
    rw [hj] at h4
    simp only [Bool.and_eq_true, Bool.or_eq_true] at h4
    rcases h4.1 with h5 | h5
    · simp at h5; exact hij h5
    · rw [hi] at h5; simp at h5
  · intro i o ho t ht j hj
    have hil : i < ops.size := (Array.getElem?_eq_some_iff.1 ho).1
    have h3 := h2 i hil
    rw [ho] at h3
    simp only [Bool.and_eq_true, List.all_eq_true, List.mem_range] at h3
    have h4 := h3.2 j (dstOf_lt hj)
    rw [hj] at h4
    simp only [Bool.and_eq_true, Bool.or_eq_true, Bool.not_eq_true'] at h4
    rcases h4.2 with (h5 | h5) | h5
    · have : (o.looksAt ops).contains t = true := by simpa using ht
      rw [this] at h5; cases h5
    · obtain ⟨h6, h7⟩ := h5
      obtain ⟨e, he, hb⟩ := Array.any_eq_true'.1 h7
      simp only [Bool.and_eq_true, beq_iff_eq] at hb
      exact .inl ⟨by simpa using h6, e, he, hb.1, hb.2⟩
    · obtain ⟨h6, h7⟩ := h5
      split at h7
      · rename_i oj hoj
        obtain ⟨e, he, hb⟩ := Array.any_eq_true'.1 h7
        simp only [Bool.and_eq_true, beq_iff_eq] at hb
        exact .inr ⟨by simpa using h6, oj, hoj, e, he, hb.1, hb.2⟩
      · cases h7
  · intro i o ho e he hb
    have hil : i < ops.size := (Array.getElem?_eq_some_iff.1 ho).1
    have h3 := h2 i hil
    rw [ho] at h3
    simp only [Bool.and_eq_true, Array.all_eq_true_iff_forall_mem] at h3
    have := h3.1 e he
    simpa [hb] using this

/-- **THE REGION**, whatever order it takes. -/
theorem any_of2 {w0 : World} {Q : Exit → Act → World → Prop} {a : Act} (hsh : shapeB2 ops = true) {Φ : Nat → Spec}
    (hob : ∀ i o, ops[i]? = some o → Stable (Φ i) ∧ Obl P ops w0 (fun vs => frm ops a vs (fun _ => true) i) i o Φ (Φ i))
    (hQ : ∀ vs w, Ext w0 w → (∀ j, j < ops.size → Φ j (vs j) w) → Q .normal (frm ops a vs (fun _ => true) ops.size) w) :
    ∀ (fuel : Nat) (listed : Array Bool) (vs : Nat → Value) (w : World), listed.size = ops.size → listed.toList.count false = fuel → Ext w0 w →
      (∀ j, listed.getD j false = true → Φ j (vs j) w) → (∀ j oj, ops[j]? = some oj → listed.getD j false = true → ∀ e ∈ oj.after, Region.binds .any e = true → listed.getD e.on false = true) → wpAny P .any ops Q fuel listed (frm ops a vs (fun j => listed.getD j false) ops.size) w := by
  obtain ⟨hsel, hA, hW, hE⟩ := shape_spec2 hsh
  have hend : ∀ (listed : Array Bool) (vs : Nat → Value) (w : World), listed.size = ops.size → Ext w0 w → (∀ j, listed.getD j false = true → Φ j (vs j) w) →
      Region.ready .any ops listed = [] → Q .normal (frm ops a vs (fun j => listed.getD j false) ops.size) w := by
    intro listed vs w hsz hw hΦ hr
    have hall : ∀ j, j < ops.size → listed.getD j false = true := by
      intro j
      induction j using Nat.strongRecOn with
      | _ j ih =>
        intro hj
        cases hb : listed.getD j false with
        | true => rfl
        | false =>
          exfalso
          have hm : j ∈ Region.ready .any ops listed := by
            refine mem_ready.2 ⟨?_, ops[j], Array.getElem?_eq_getElem hj, fun e he hbi => ih e.on (hE j _ (Array.getElem?_eq_getElem hj) e he hbi) ?_⟩
            · have hjl : j < listed.size := by omega
              simp [Array.getD, hjl] at hb ⊢
              exact hb
            · have := hE j _ (Array.getElem?_eq_getElem hj) e he hbi
              omega
          rw [hr] at hm
          cases hm
    rw [frm_congr (S' := fun _ => true) (vs' := vs) ops.size fun j hj => ⟨hall j hj, rfl⟩]
    exact hQ vs w hw fun j hj => hΦ j (hall j hj)
  intro fuel
  induction fuel with
  | zero =>
    intro listed vs w hsz hc hw hΦ hcl
    have hr : Region.ready .any ops listed = [] := by
      rw [List.eq_nil_iff_forall_not_mem]
      intro i hi
      obtain ⟨h1, o, ho, _⟩ := mem_ready.1 hi
      have hil : i < listed.size := by rw [hsz]; exact (Array.getElem?_eq_some_iff.1 ho).1
      have hmem : false ∈ listed.toList := by
        have : listed[i] = false := by simpa [Array.getD, hil] using h1
        rw [← this]
        exact Array.getElem_mem_toList hil
      have := List.count_pos_iff.2 hmem
      omega
    exact ⟨hr, hend listed vs w hsz hw hΦ hr⟩
  | succ fuel ih =>
    intro listed vs w hsz hc hw hΦ hcl
    refine ⟨hend listed vs w hsz hw hΦ, fun i hi => ?_⟩
    obtain ⟨h1, o, ho, hall⟩ := mem_ready.1 hi
    have hio : i < ops.size := (Array.getElem?_eq_some_iff.1 ho).1
    have hil : i < listed.size := by omega
    have hif : listed.getD i false = false := by simp [Array.getD, hil] at h1 ⊢; exact h1
    have hgo : ∀ v w', Ext w w' → Φ i v w' → wpAny P .any ops Q fuel (listed.setIfInBounds i true) ((frm ops a vs (fun j => listed.getD j false) ops.size).put o.dst v) w' := by
      intro v w' hw' hv
      have e := frm_add hA (a := a) (vs := vs) (S := fun j => listed.getD j false) (v := v) hif ops.size hio
      have ed : dstOf ops i = o.dst := by simp [dstOf, ho]
      rw [ed] at e
      rw [← e]
      have eS : updS (fun j => listed.getD j false) i = fun j => (listed.setIfInBounds i true).getD j false := by
        funext j
        unfold updS
        by_cases hji : j = i
        · subst hji; simp [hil]
        · rw [getD_set_ne false (Ne.symm hji)]; simp [hji]
      rw [eS]
      refine ih _ _ w' (by simpa using hsz) ?_ (hw.trans hw') (fun j hj => ?_) (fun j oj hoj hj e2 he2 hb2 => ?_)
      · have hcs := count_set (l := listed.toList) (i := i) (by
          have : listed[i] = false := by simpa [Array.getD, hil] using h1
          simp [hil, this])
        rw [Array.toList_setIfInBounds]
        omega
      · unfold updV
        by_cases hji : j = i
        · subst hji; simpa using hv
        · rw [getD_set_ne false (Ne.symm hji)] at hj
          simp only [hji, if_false]
          exact (hob j _ (Array.getElem?_eq_getElem (show j < ops.size by
            rcases Nat.lt_or_ge j listed.size with h' | h'
            · omega
            · simp [Array.getD, Nat.not_lt.2 h'] at hj))).1 _ _ _ hw' (hΦ j hj)
      · have hset : ∀ q, listed.getD q false = true → (listed.setIfInBounds i true).getD q false = true := fun q hq => by
          by_cases hqi : q = i
          · subst hqi; simp [hil]
          · rw [getD_set_ne false (Ne.symm hqi)]; exact hq
        by_cases hji : j = i
        · subst hji
          rw [ho] at hoj
          injection hoj with hoj
          subst hoj
          exact hset _ (hall e2 he2 hb2)
        · rw [getD_set_ne false (Ne.symm hji)] at hj
          exact hset _ (hcl j oj hoj hj e2 he2 hb2)
    have hag : ∀ t, t ∈ o.looksAt ops → (frm ops a vs (fun j => listed.getD j false) ops.size).tmps[t]? = (frm ops a vs (fun _ => true) i).tmps[t]? :=
      fun t ht => frm_agree2 hA (hW i o ho) (Nat.le_of_lt hio) hall hcl hif ht
    have hb := (hob i o ho).2 vs w hw (fun e he hb => hΦ e.on (hall e he hb))
    unfold wpOp
    simp only [ho]
    rw [wanted_agree hag]
    rcases hb with ⟨hwt, hu⟩ | ⟨hwt, hu⟩
    · rw [if_pos hwt]
      refine .inl (wp_of_upon (R := fun v w' => Ext w w' ∧ Φ i v w') ?_ fun v w' h => hgo v w' h.1 h.2)
      rw [execOp_agree (fun cs b => hsel i o cs b ho) hag]
      exact hu
    · rw [if_neg (by rw [hwt]; simp)]
      exact hgo undef w (Ext.refl w) hu

theorem wp_region_free2 {id : Nat} {Q : Exit → Act → World → Prop} {a : Act} {w : World} {l : List Oper} (hm : P.follows .mixedOrders = true) (hB : shapeB2 l.toArray = true)
    (h : Walk P l.toArray w (fun a' w' => Q .normal a' w') l 0 (fun _ _ _ => True) (fun _ => a)) : (Code.region id l.toArray true).wp P Q a w := by
  refine wp_region_any hm ?_
  obtain ⟨_, _, _, hE⟩ := shape_spec2 hB
  obtain ⟨Φ, _, h2, h3⟩ := walk_out (a := a) l 0 _ _ (by simp) (fun vs => rfl) hE h
  have hx : Ext w { w with drawn := w.drawn + 1 } := ⟨rfl, rfl, rfl, Nat.le_refl _, fun _ _ => rfl⟩
  have := any_of2 (P := P) (ops := l.toArray) (w0 := w) (Q := Q) (a := a) hB (Φ := Φ) (fun i o ho => h2 i o (Nat.zero_le _) ho)
    (fun vs w' hw' hv => by have := h3 vs w' hw' (by simpa using hv); simpa using this)
    l.toArray.size (Array.replicate l.toArray.size false) (fun _ => undef) { w with drawn := w.drawn + 1 } (by simp) (by simp) hx (fun j hj => by simp [Array.getD] at hj) (fun j oj _ hj => by simp [Array.getD] at hj)
  have e : frm l.toArray a (fun _ => undef) (fun j => (Array.replicate l.toArray.size false).getD j false) l.toArray.size = a := by
    have : ∀ k, frm l.toArray a (fun _ => undef) (fun j => (Array.replicate l.toArray.size false).getD j false) k = a := by
      intro k
      induction k with
      | zero => rfl
      | succ k ih =>
        rw [frm, ih, if_neg]
        simp [Array.getD]
    exact this _
  rw [e] at this
  exact this
end

end Go.Proofs.Ytcmbdbphddokmaa
