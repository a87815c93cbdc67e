/-
  A REGION THAT DRAWS ITS ORDER, whatever its operations do to memory of their own: each operation is looked at once, in the order of the text, in whatever world in which what it waits for has come.
-/
import Derived.Test.YtgclakhcddadpaaPlainNum
import Derived.WalkKit
import Derived.Orders
namespace Go.Proofs.Ytgclakhcddadpaa
open Go Go.RowKit

/-- What was there is as it was. -/
def Ext (w w' : World) : Prop := Below w.heap.size w w'
theorem Ext.refl (w : World) : Ext w w := Below.refl _ w
theorem Ext.trans {a b c : World} (h : Ext a b) (k : Ext b c) : Ext a c := Below.trans h (Below.mono k h.size)

/-- What is known of an operation's value. -/
abbrev Spec := Value → World → Prop
def Stable (φ : Spec) : Prop := ∀ v w w', Ext w w' → φ v w → φ v w'

section
variable {P : Program} {ops : Array Oper}

/-- The frame in which the operations k' < k that are in S have put their values. -/
def frm (ops : Array Oper) (a : Act) (vs : Nat → Value) (S : Nat → Bool) : Nat → Act
  | 0 => a
  | k + 1 => if S k then (frm ops a vs S k).put ((ops[k]?).bind (·.dst)) (vs k) else frm ops a vs S k

def dstOf (ops : Array Oper) (i : Nat) : Option Tmp := (ops[i]?).bind (·.dst)
def Apart (ops : Array Oper) : Prop := ∀ i j d, i ≠ j → dstOf ops i = some d → dstOf ops j ≠ some d

theorem frm_congr {a : Act} {vs vs' : Nat → Value} {S S' : Nat → Bool} : ∀ k, (∀ j, j < k → S j = S' j ∧ vs j = vs' j) → frm ops a vs S k = frm ops a vs' S' k
  | 0, _ => rfl
  | k + 1, h => by
    have ih := frm_congr (a := a) k (fun j hj => h j (by omega))
    have hk := h k (by omega)
    simp only [frm, ih, hk.1, hk.2]

def updS (S : Nat → Bool) (i : Nat) : Nat → Bool := fun j => if j = i then true else S j
def updV (vs : Nat → Value) (i : Nat) (v : Value) : Nat → Value := fun j => if j = i then v else vs j

theorem frm_add (hA : Apart ops) {a : Act} {vs : Nat → Value} {S : Nat → Bool} {i : Nat} {v : Value} (hi : S i = false) :
    ∀ k, i < k → frm ops a (updV vs i v) (updS S i) k = (frm ops a vs S k).put (dstOf ops i) v
  | 0, h => by omega
  | k + 1, h => by
    by_cases hik : i = k
    · subst hik
      have e : frm ops a (updV vs i v) (updS S i) i = frm ops a vs S i :=
        frm_congr i fun j hj => ⟨by simp [updS, show j ≠ i from by omega], by simp [updV, show j ≠ i from by omega]⟩
      simp [frm, e, updS, updV, hi, dstOf]
    · have ih := frm_add hA (a := a) (vs := vs) (v := v) hi k (by omega)
      have e1 : updS S i k = S k := by simp [updS, show k ≠ i from by omega]
      have e2 : updV vs i v k = vs k := by simp [updV, show k ≠ i from by omega]
      simp only [frm, ih, e1, e2]
      split
      · exact Act.put_comm _ _ _ (fun d hd => hA i k d hik hd)
      · rfl

/-- A temporary that none of them writes. -/
theorem frm_out {a : Act} {vs : Nat → Value} {S : Nat → Bool} {t : Tmp} : ∀ k, (∀ j, j < k → S j = true → dstOf ops j ≠ some t) → (frm ops a vs S k).tmps[t]? = a.tmps[t]?
  | 0, _ => rfl
  | k + 1, h => by
    have ih := frm_out (a := a) (vs := vs) k (fun j hj => h j (by omega))
    simp only [frm]
    split
    · rename_i hS
      have hk := h k (by omega) hS
      cases hd : (ops[k]?).bind (·.dst) with
      | none => simpa [Act.put] using ih
      | some d =>
        have hne : d ≠ t := fun e => hk (by rw [← e]; exact hd)
        simp only [Act.put]
        rw [Array.getElem?_setIfInBounds_ne hne]
        exact ih
    · exact ih

theorem frm_size {a : Act} {vs : Nat → Value} {S : Nat → Bool} : ∀ k, (frm ops a vs S k).tmps.size = a.tmps.size
  | 0 => rfl
  | k + 1 => by
    have ih := frm_size (a := a) (vs := vs) (S := S) k
    simp only [frm]
    split
    · cases hd : (ops[k]?).bind (·.dst) with
      | none => simpa [Act.put] using ih
      | some d => simpa [Act.put] using ih
    · exact ih

theorem frm_in (hA : Apart ops) {a : Act} {vs : Nat → Value} {S : Nat → Bool} {t : Tmp} {j : Nat} (hj : dstOf ops j = some t) (hS : S j = true) :
    ∀ k, j < k → (frm ops a vs S k).tmps[t]? = if t < a.tmps.size then some (vs j) else none
  | 0, h => by omega
  | k + 1, h => by
    by_cases hjk : j = k
    · subst hjk
      have hs := frm_size (ops := ops) (a := a) (vs := vs) (S := S) j
      have e : (ops[j]?).bind (·.dst) = some t := hj
      simp only [frm, hS, if_true, e, Act.put]
      rw [Array.getElem?_setIfInBounds]
      simp [hs]
    · have ih := frm_in hA (a := a) (vs := vs) hj hS k (by omega)
      simp only [frm]
      split
      · cases hd : (ops[k]?).bind (·.dst) with
        | none => simpa [Act.put] using ih
        | some d =>
          have hne : d ≠ t := fun e => hA j k t hjk hj (by rw [← e]; exact hd)
          simp only [Act.put]
          rw [Array.getElem?_setIfInBounds_ne hne]
          exact ih
      · exact ih

/-- What an operation looks at has been put by those that it waits for. -/
def Waits (ops : Array Oper) (i : Nat) (o : Oper) : Prop :=
  ∀ t, t ∈ o.looksAt ops → ∀ j, dstOf ops j = some t → j < i ∧ ∃ e ∈ o.after, Region.binds .any e = true ∧ e.on = j

theorem frm_agree (hA : Apart ops) {a : Act} {vs : Nat → Value} {S : Nat → Bool} {i : Nat} {o : Oper} (hW : Waits ops i o) {n : Nat} (hin : i ≤ n)
    (hS : ∀ e ∈ o.after, Region.binds .any e = true → S e.on = true) {t : Tmp} (ht : t ∈ o.looksAt ops) :
    (frm ops a vs S n).tmps[t]? = (frm ops a vs (fun _ => true) i).tmps[t]? := by
  by_cases hex : ∃ j, dstOf ops j = some t
  · obtain ⟨j, hj⟩ := hex
    obtain ⟨hji, e, he, hb, heq⟩ := hW t ht j hj
    have hSj : S j = true := by rw [← heq]; exact hS e he hb
    rw [frm_in hA hj hSj n (by omega), frm_in hA hj rfl i hji]
  · rw [frm_out n fun j _ _ h => hex ⟨j, h⟩, frm_out i fun j _ _ h => hex ⟨j, h⟩]

theorem execOp_agree {o : Oper} (hs : ∀ cs b, o.op ≠ .select cs b) {a a' : Act} (h : ∀ t, t ∈ o.looksAt ops → a.tmps[t]? = a'.tmps[t]?) : execOp a.eval o = execOp a'.eval o := by
  refine execOp_congr o hs fun x hx => ?_
  cases x with
  | tmp t =>
    have ht : t ∈ o.looksAt ops := List.mem_append_left _ (List.mem_filterMap.2 ⟨.tmp t, by simpa using hx, rfl⟩)
    have := h t ht
    simp [Act.eval, Array.getD_eq_getD_getElem?, this]
  | _ => rfl

theorem wanted_agree {o : Oper} {a a' : Act} (h : ∀ t, t ∈ o.looksAt ops → a.tmps[t]? = a'.tmps[t]?) : Region.wanted o (yielded ops a.tmps) = Region.wanted o (yielded ops a'.tmps) := by
  unfold Region.wanted
  cases hg : o.guard with
  | none => rfl
  | some gw =>
    obtain ⟨g, want⟩ := gw
    have hy : yielded ops a.tmps g = yielded ops a'.tmps g := by
      unfold yielded
      cases ht : (ops[g]?).bind (·.dst) with
      | none => rfl
      | some t =>
        have := h t (by simp [Oper.looksAt, hg, ht])
        simp [this]
    simp only [hy]

/-- What an operation yields. -/
def upon (P : Program) (R : Value → World → Prop) : Result Next → Prop
  | .ok (.value v) w' => R v w'
  | .ok .skip w' => R undef w'
  | .ok (.enter f args) w' => Calls P f args w' fun e w'' => ∃ v, e = .returned v ∧ R v w''
  | _ => False

theorem wp_of_upon {o : Oper} {a : Act} {w : World} {R : Value → World → Prop} {K : Act → World → Prop} {Q : Exit → Act → World → Prop}
    (h : upon P R ((execOp a.eval o).run P w)) (hK : ∀ v w', R v w' → K (a.put o.dst v) w') : o.wp P a w K Q := by
  unfold Oper.wp
  generalize (execOp a.eval o).run P w = r at *
  cases r with
  | ok n w' =>
    cases n <;> simp only [upon] at h <;> simp only [Oper.upon]
    case value u => exact hK _ _ h
    case skip => exact hK _ _ h
    case enter f args => exact h.mono fun e w'' ⟨v, he, hv⟩ => by subst he; exact hK _ _ hv
  | halt x w' => simp only [upon] at h

/-- What is to be shown of operation i: at its lexical frame, from whatever world in which what it waits for has come. -/
def Obl (P : Program) (ops : Array Oper) (w0 : World) (F : (Nat → Value) → Act) (i : Nat) (o : Oper) (env : Nat → Spec) (φ : Spec) : Prop :=
  ∀ vs w, Ext w0 w → (∀ e ∈ o.after, Region.binds .any e = true → env e.on (vs e.on) w) →
    (Region.wanted o (yielded ops (F vs).tmps) = true ∧ upon P (fun v w' => Ext w w' ∧ φ v w') ((execOp (F vs).eval o).run P w)) ∨
    (Region.wanted o (yielded ops (F vs).tmps) = false ∧ φ undef w)

def updE (env : Nat → Spec) (k : Nat) (φ : Spec) : Nat → Spec := fun j => if j = k then φ else env j

/-- THE WALK, in the order of the text; behind it whatever order the region takes. -/
def Walk (P : Program) (ops : Array Oper) (w0 : World) (Q : Act → World → Prop) : List Oper → Nat → (Nat → Spec) → ((Nat → Value) → Act) → Prop
  | [], k, env, F => ∀ vs w, Ext w0 w → (∀ j, j < k → env j (vs j) w) → Q (F vs) w
  | o :: l, k, env, F => ∃ φ, Stable φ ∧ Obl P ops w0 F k o env φ ∧ Walk P ops w0 Q l (k + 1) (updE env k φ) (fun vs => (F vs).put o.dst (vs k))

theorem walk_out {w0 : World} {Q : Act → World → Prop} {a : Act} : ∀ (l : List Oper) (k : Nat) (env : Nat → Spec) (F : (Nat → Value) → Act),
    (∀ j, l[j]? = ops[k + j]?) → (∀ vs, F vs = frm ops a vs (fun _ => true) k) → (∀ i o, ops[i]? = some o → ∀ e ∈ o.after, Region.binds .any e = true → e.on < i) → Walk P ops w0 Q l k env F →
    ∃ Φ : Nat → Spec, (∀ j, j < k → Φ j = env j) ∧ (∀ i o, k ≤ i → ops[i]? = some o → Stable (Φ i) ∧ Obl P ops w0 (fun vs => frm ops a vs (fun _ => true) i) i o Φ (Φ i)) ∧
      ∀ vs w, Ext w0 w → (∀ j, j < k + l.length → Φ j (vs j) w) → Q (frm ops a vs (fun _ => true) (k + l.length)) w
  | [], k, env, F, hl, hF, _, h => ⟨env, fun _ _ => rfl, fun i o hk ho => by
      have h0 := hl (i - k)
      rw [show k + (i - k) = i from by omega, ho] at h0
      simp at h0, fun vs w hw hv => by
      have := h vs w hw (by simpa using hv)
      rw [hF] at this
      simpa using this⟩
  | o :: l, k, env, F, hl, hF, hE, h => by
    obtain ⟨φ, hst, hob, hrest⟩ := h
    have h0 : ops[k]? = some o := by simpa using (hl 0).symm
    have hF' : ∀ vs, (fun vs => (F vs).put o.dst (vs k)) vs = frm ops a vs (fun _ => true) (k + 1) := fun vs => by
      simp [frm, hF, h0]
    obtain ⟨Φ, h1, h2, h3⟩ := walk_out l (k + 1) (updE env k φ) _ (fun j => by have := hl (j + 1); simpa [Nat.add_assoc, Nat.add_comm 1 j] using this) hF' hE hrest
    have hΦk : Φ k = φ := by rw [h1 k (by omega)]; simp [updE]
    have hΦ : ∀ j, j < k → Φ j = env j := fun j hj => by rw [h1 j (by omega)]; simp [updE, show j ≠ k from by omega]
    refine ⟨Φ, hΦ, fun i o' hki ho' => ?_, ?_⟩
    · by_cases hik : i = k
      · subst hik
        rw [h0] at ho'
        injection ho' with ho'
        subst ho'
        rw [hΦk]
        refine ⟨hst, fun vs w hw hd => ?_⟩
        have := hob vs w hw (fun e he hb => by rw [← hΦ e.on (hE i o h0 e he hb)]; exact hd e he hb)
        rw [hF] at this
        exact this
      · exact h2 i o' (by omega) ho'
    · intro vs w hw hv
      have := h3 vs w hw (fun j hj => hv j (by simp only [List.length_cons]; omega))
      simpa [Nat.add_assoc, Nat.add_comm 1 l.length] using this

theorem count_set {l : List Bool} {i : Nat} (h : l[i]? = some false) : (l.set i true).count false + 1 = l.count false := by
  induction l generalizing i with
  | nil => simp at h
  | cons b l ih =>
    cases i with
    | zero => simp at h; subst h; simp
    | succ i =>
      have := ih (i := i) (by simpa using h)
      cases b <;> simp [List.count_cons] <;> omega

/-- The region's shape: what is asked of it is a closed fact. -/
def shapeB (ops : Array Oper) : Bool :=
  Region.noSelect ops &&
  (List.range ops.size).all fun i => match ops[i]? with
    | none => true
    | some o =>
      (o.after.all fun e => !Region.binds .any e || decide (e.on < i)) &&
      ((List.range ops.size).all fun j => match dstOf ops j with
        | none => true
        | some t => (i == j || dstOf ops i != some t) && (!(o.looksAt ops).contains t || (decide (j < i) && o.after.any fun e => Region.binds .any e && e.on == j)))

theorem dstOf_lt {j : Nat} {t : Tmp} (h : dstOf ops j = some t) : j < ops.size := by
  rcases Nat.lt_or_ge j ops.size with hlt | hge
  · exact hlt
  · simp [dstOf, Array.getElem?_eq_none hge] at h

theorem shape_spec (h : shapeB ops = true) : (∀ (j : Nat) (o : Oper) cs b, ops[j]? = some o → o.op ≠ .select cs b) ∧ Apart ops ∧
    (∀ i o, ops[i]? = some o → Waits ops i o) ∧ (∀ i o, ops[i]? = some o → ∀ e ∈ o.after, Region.binds .any e = true → e.on < i) := by
  simp only [shapeB, Bool.and_eq_true, List.all_eq_true, List.mem_range] at h
  obtain ⟨h1, h2⟩ := h
  refine ⟨Region.noSelect_spec h1, ?_, ?_, ?_⟩
  · intro i j d hij hi hj
    have hil := dstOf_lt hi
    have hjl := dstOf_lt hj
    have h3 := h2 i hil
    rw [Array.getElem?_eq_getElem hil] at h3
    simp only [Bool.and_eq_true, List.all_eq_true, List.mem_range] at h3
    have h4 := h3.2 j hjl
    rw [hj] at h4
    simp only [Bool.and_eq_true, Bool.or_eq_true] at h4
    rcases h4.1 with h5 | h5
    · simp at h5; exact hij h5
    · rw [hi] at h5; simp at h5
  · intro i o ho t ht j hj
    have hil : i < ops.size := (Array.getElem?_eq_some_iff.1 ho).1
    have h3 := h2 i hil
    rw [ho] at h3
    simp only [Bool.and_eq_true, List.all_eq_true, List.mem_range] at h3
    have h4 := h3.2 j (dstOf_lt hj)
    rw [hj] at h4
    simp only [Bool.and_eq_true, Bool.or_eq_true, Bool.not_eq_true'] at h4
    rcases h4.2 with h5 | h5
    · have : (o.looksAt ops).contains t = true := by simpa using ht
      rw [this] at h5; cases h5
    · obtain ⟨h6, h7⟩ := h5
      obtain ⟨e, he, hb⟩ := Array.any_eq_true'.1 h7
      simp only [Bool.and_eq_true, beq_iff_eq] at hb
      exact ⟨by simpa using h6, e, he, hb.1, hb.2⟩
  · intro i o ho e he hb
    have hil : i < ops.size := (Array.getElem?_eq_some_iff.1 ho).1
    have h3 := h2 i hil
    rw [ho] at h3
    simp only [Bool.and_eq_true, Array.all_eq_true_iff_forall_mem] at h3
    have := h3.1 e he
    simpa [hb] using this

/-- **THE REGION**, whatever order it takes. -/
theorem any_of {w0 : World} {Q : Exit → Act → World → Prop} {a : Act} (hsh : shapeB ops = true) {Φ : Nat → Spec}
    (hob : ∀ i o, ops[i]? = some o → Stable (Φ i) ∧ Obl P ops w0 (fun vs => frm ops a vs (fun _ => true) i) i o Φ (Φ i))
    (hQ : ∀ vs w, Ext w0 w → (∀ j, j < ops.size → Φ j (vs j) w) → Q .normal (frm ops a vs (fun _ => true) ops.size) w) :
    ∀ (fuel : Nat) (listed : Array Bool) (vs : Nat → Value) (w : World), listed.size = ops.size → listed.toList.count false = fuel → Ext w0 w →
      (∀ j, listed.getD j false = true → Φ j (vs j) w) → wpAny P .any ops Q fuel listed (frm ops a vs (fun j => listed.getD j false) ops.size) w := by
  obtain ⟨hsel, hA, hW, hE⟩ := shape_spec hsh
  have hend : ∀ (listed : Array Bool) (vs : Nat → Value) (w : World), listed.size = ops.size → Ext w0 w → (∀ j, listed.getD j false = true → Φ j (vs j) w) →
      Region.ready .any ops listed = [] → Q .normal (frm ops a vs (fun j => listed.getD j false) ops.size) w := by
    intro listed vs w hsz hw hΦ hr
    have hall : ∀ j, j < ops.size → listed.getD j false = true := by
      intro j
      induction j using Nat.strongRecOn with
      | _ j ih =>
        intro hj
        cases hb : listed.getD j false with
        | true => rfl
        | false =>
          exfalso
          have hm : j ∈ Region.ready .any ops listed := by
            refine mem_ready.2 ⟨?_, ops[j], Array.getElem?_eq_getElem hj, fun e he hbi => ih e.on (hE j _ (Array.getElem?_eq_getElem hj) e he hbi) ?_⟩
            · have hjl : j < listed.size := by omega
              simp [Array.getD, hjl] at hb ⊢
              exact hb
            · have := hE j _ (Array.getElem?_eq_getElem hj) e he hbi
              omega
          rw [hr] at hm
          cases hm
    rw [frm_congr (S' := fun _ => true) (vs' := vs) ops.size fun j hj => ⟨hall j hj, rfl⟩]
    exact hQ vs w hw fun j hj => hΦ j (hall j hj)
  intro fuel
  induction fuel with
  | zero =>
    intro listed vs w hsz hc hw hΦ
    have hr : Region.ready .any ops listed = [] := by
      rw [List.eq_nil_iff_forall_not_mem]
      intro i hi
      obtain ⟨h1, o, ho, _⟩ := mem_ready.1 hi
      have hil : i < listed.size := by rw [hsz]; exact (Array.getElem?_eq_some_iff.1 ho).1
      have hmem : false ∈ listed.toList := by
        have : listed[i] = false := by simpa [Array.getD, hil] using h1
        rw [← this]
        exact Array.getElem_mem_toList hil
      have := List.count_pos_iff.2 hmem
      omega
    exact ⟨hr, hend listed vs w hsz hw hΦ hr⟩
  | succ fuel ih =>
    intro listed vs w hsz hc hw hΦ
    refine ⟨hend listed vs w hsz hw hΦ, fun i hi => ?_⟩
    obtain ⟨h1, o, ho, hall⟩ := mem_ready.1 hi
    have hio : i < ops.size := (Array.getElem?_eq_some_iff.1 ho).1
    have hil : i < listed.size := by omega
    have hif : listed.getD i false = false := by simp [Array.getD, hil] at h1 ⊢; exact h1
    have hgo : ∀ v w', Ext w w' → Φ i v w' → wpAny P .any ops Q fuel (listed.setIfInBounds i true) ((frm ops a vs (fun j => listed.getD j false) ops.size).put o.dst v) w' := by
      intro v w' hw' hv
      have e := frm_add hA (a := a) (vs := vs) (S := fun j => listed.getD j false) (v := v) hif ops.size hio
      have ed : dstOf ops i = o.dst := by simp [dstOf, ho]
      rw [ed] at e
      rw [← e]
      have eS : updS (fun j => listed.getD j false) i = fun j => (listed.setIfInBounds i true).getD j false := by
        funext j
        unfold updS
        by_cases hji : j = i
        · subst hji; simp [hil]
        · rw [getD_set_ne false (Ne.symm hji)]; simp [hji]
      rw [eS]
      refine ih _ _ w' (by simpa using hsz) ?_ (hw.trans hw') fun j hj => ?_
      · have hcs := count_set (l := listed.toList) (i := i) (by
          have : listed[i] = false := by simpa [Array.getD, hil] using h1
          simp [hil, this])
        rw [Array.toList_setIfInBounds]
        omega
      · unfold updV
        by_cases hji : j = i
        · subst hji; simpa using hv
        · rw [getD_set_ne false (Ne.symm hji)] at hj
          simp only [hji, if_false]
          exact (hob j _ (Array.getElem?_eq_getElem (show j < ops.size by
            rcases Nat.lt_or_ge j listed.size with h' | h'
            · omega
            · simp [Array.getD, Nat.not_lt.2 h'] at hj))).1 _ _ _ hw' (hΦ j hj)
    have hag : ∀ t, t ∈ o.looksAt ops → (frm ops a vs (fun j => listed.getD j false) ops.size).tmps[t]? = (frm ops a vs (fun _ => true) i).tmps[t]? :=
      fun t ht => frm_agree hA (hW i o ho) (Nat.le_of_lt hio) hall ht
    have hb := (hob i o ho).2 vs w hw (fun e he hb => hΦ e.on (hall e he hb))
    unfold wpOp
    simp only [ho]
    rw [wanted_agree hag]
    rcases hb with ⟨hwt, hu⟩ | ⟨hwt, hu⟩
    · rw [if_pos hwt]
      refine .inl (wp_of_upon (R := fun v w' => Ext w w' ∧ Φ i v w') ?_ fun v w' h => hgo v w' h.1 h.2)
      rw [execOp_agree (fun cs b => hsel i o cs b ho) hag]
      exact hu
    · rw [if_neg (by rw [hwt]; simp)]
      exact hgo undef w (Ext.refl w) hu

theorem wp_region_free {id : Nat} {Q : Exit → Act → World → Prop} {a : Act} {w : World} {l : List Oper} (hm : P.follows .mixedOrders = true) (hB : shapeB l.toArray = true)
    (h : Walk P l.toArray w (fun a' w' => Q .normal a' w') l 0 (fun _ _ _ => True) (fun _ => a)) : (Code.region id l.toArray true).wp P Q a w := by
  refine wp_region_any hm ?_
  obtain ⟨_, _, _, hE⟩ := shape_spec hB
  obtain ⟨Φ, _, h2, h3⟩ := walk_out (a := a) l 0 _ _ (by simp) (fun vs => rfl) hE h
  have hx : Ext w { w with drawn := w.drawn + 1 } := ⟨rfl, rfl, rfl, Nat.le_refl _, fun _ _ => rfl⟩
  have := any_of (P := P) (ops := l.toArray) (w0 := w) (Q := Q) (a := a) hB (Φ := Φ) (fun i o ho => h2 i o (Nat.zero_le _) ho)
    (fun vs w' hw' hv => by have := h3 vs w' hw' (by simpa using hv); simpa using this)
    l.toArray.size (Array.replicate l.toArray.size false) (fun _ => undef) { w with drawn := w.drawn + 1 } (by simp) (by simp) hx (fun j hj => by simp [Array.getD] at hj)
  have e : frm l.toArray a (fun _ => undef) (fun j => (Array.replicate l.toArray.size false).getD j false) l.toArray.size = a := by
    have : ∀ k, frm l.toArray a (fun _ => undef) (fun j => (Array.replicate l.toArray.size false).getD j false) k = a := by
      intro k
      induction k with
      | zero => rfl
      | succ k ih =>
        rw [frm, ih, if_neg]
        simp [Array.getD]
    exact this _
  rw [e] at this
  exact this
end

/-! ### The steps of a walk -/
section
variable {P : Program} {ops : Array Oper} {w0 : World} {Q : Act → World → Prop} {o : Oper} {l : List Oper} {k : Nat} {env : Nat → Spec} {F : (Nat → Value) → Act}

theorem stable_eq (v : Value) : Stable fun u _ => u = v := fun _ _ _ _ h => h

/-- One value, in whatever world. -/
theorem walk_q (h : ∃ v, (∀ vs w, Ext w0 w → (∀ e ∈ o.after, Region.binds .any e = true → env e.on (vs e.on) w) →
      Region.wanted o (yielded ops (F vs).tmps) = true ∧ upon P (fun u w' => Ext w w' ∧ u = v) ((execOp (F vs).eval o).run P w)) ∧
    Walk P ops w0 Q l (k + 1) (updE env k (fun u _ => u = v)) (fun vs => (F vs).put o.dst (vs k))) : Walk P ops w0 Q (o :: l) k env F := by
  obtain ⟨v, h1, h2⟩ := h
  exact ⟨_, stable_eq v, fun vs w hw hd => .inl (h1 vs w hw hd), h2⟩

/-- Passed over: its guard says no. -/
theorem walk_no (h : ∀ vs w, Ext w0 w → (∀ e ∈ o.after, Region.binds .any e = true → env e.on (vs e.on) w) → Region.wanted o (yielded ops (F vs).tmps) = false)
    (hr : Walk P ops w0 Q l (k + 1) (updE env k (fun u _ => u = undef)) (fun vs => (F vs).put o.dst (vs k))) : Walk P ops w0 Q (o :: l) k env F :=
  ⟨_, stable_eq undef, fun vs w hw hd => .inr ⟨h vs w hw hd, rfl⟩, hr⟩

/-- A value of which something is known. -/
theorem walk_r (φ : Spec) (hst : Stable φ) (h : ∀ vs w, Ext w0 w → (∀ e ∈ o.after, Region.binds .any e = true → env e.on (vs e.on) w) →
      Region.wanted o (yielded ops (F vs).tmps) = true ∧ upon P (fun u w' => Ext w w' ∧ φ u w') ((execOp (F vs).eval o).run P w))
    (hr : Walk P ops w0 Q l (k + 1) (updE env k φ) (fun vs => (F vs).put o.dst (vs k))) : Walk P ops w0 Q (o :: l) k env F :=
  ⟨φ, hst, fun vs w hw hd => .inl (h vs w hw hd), hr⟩

/-- All that is known at the end. -/
def AllE (env : Nat → Spec) (vs : Nat → Value) (w : World) : Nat → Prop
  | 0 => True
  | k + 1 => AllE env vs w k ∧ env k (vs k) w

theorem allE_of {vs : Nat → Value} {w : World} : ∀ k, (∀ j, j < k → env j (vs j) w) → AllE env vs w k
  | 0, _ => trivial
  | k + 1, h => ⟨allE_of k fun j hj => h j (by omega), h k (by omega)⟩

theorem walk_end (h : ∀ vs w, Ext w0 w → AllE env vs w k → Q (F vs) w) : Walk P ops w0 Q [] k env F :=
  fun vs w hw hv => h vs w hw (allE_of k hv)

@[go_sem] theorem upon_value (R : Value → World → Prop) (v : Value) (w : World) : upon P R (.ok (.value v) w) = R v w := rfl
@[go_sem] theorem upon_skip (R : Value → World → Prop) (w : World) : upon P R (.ok .skip w) = R undef w := rfl
@[go_sem] theorem upon_enter (R : Value → World → Prop) (f : FuncId) (args : Array Value) (w : World) :
    upon P R (.ok (.enter f args) w) = Calls P f args w (fun e w'' => ∃ v, e = .returned v ∧ R v w'') := rfl
@[go_sem] theorem ext_refl (w : World) : Ext w w = True := eq_true (Ext.refl w)
end

end Go.Proofs.Ytgclakhcddadpaa
