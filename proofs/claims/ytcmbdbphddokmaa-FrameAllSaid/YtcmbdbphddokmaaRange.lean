/-
  A LOOP OVER AN ITERATOR whose rounds lean on what the iterator says of the world in which it hands them a value ('SeqStopsG': the library's contracts speak of the value alone). After the library's own law for a boxed loop variable; what is new: the word G, from the iterator's call of yield to the loop's assignment.
-/
import Derived.Test.YtcmbdbphddokmaaFrmG
namespace Go.Proofs.Ytcmbdbphddokmaa
open Go.RowKit

section
variable {F : Fence} {n : Nat} {P : Program} {α : Type}

theorem range_given {g : Operand} {ps : Array Tmp} {assign body : Code} {Q : Exit → Act → World → Prop} {a : Act} {w : World}
    (hro : F.round = none) (h1 : 1 ≤ n) {gf : Nat} {lb : Array Value} (hg : a.eval g = .func (.func gf) #[] lb) (hFg : F.fn gf) (eg : ∀ args w, (callFunc gf args).run P w = .ok (.enter gf args) w)
    {encs : α → Array Value} {G : α → World → Prop} {Kp : World → World → Prop} {S Sp : List α → Prop} {N : Nat} {w0 : World} (hseq : SeqStopsG F (n - 1) P gf lb encs G Kp S Sp N w0)
    (hKt : ∀ {A B C : World}, Kp A B → Kp B C → Kp A C) (hKb : ∀ (W : World) (l : Nat) (o o' : Obj), w.heap.size ≤ l → W.heap[l]? = some o → o.isCells = false → o.isWalk = false → Kp W (W.putObj l o'))
    (hb0 : Below w0.heap.size w0 w) (hps : ∀ x, (encs x).size = ps.size)
    (I : List α → World → Prop) (Ix : Code → List α → World → Prop) (hI : OwnFrom w.heap.size I) (hIx : ∀ c, OwnFrom w.heap.size (Ix c)) (h0 : I [] w)
    (Ax : α → Act → World → Prop) (hAx : ∀ x a', OwnFrom w.heap.size (fun (_ : Unit) W => Ax x a' W))
    (hassign : ∀ (l : Nat) (pre : List α) (x : α) (W : World) (K : Act → World → Prop), I pre W → G x W → (∀ a' W', KeepsFrom w.heap.size W W' → Kp W W' → I pre W' → Ax x a' W' → K a' W') →
      assign.wpIn (F.inRound l) (n - 1 - 1) P (Exit.then K (fun _ _ _ => False)) { tmps := (ps.zip (encs x)).foldl (fun t (p, v) => t.setIfInBounds p v) a.tmps, defers := [] } W)
    (hbody : ∀ (l : Nat) (pre : List α) (x : α) (a' : Act) (W : World), I pre W → Ax x a' W → pre.length < N → body.wpIn (F.inRound l) (n - 1 - 1) P (ownPostG w.heap.size Kp I Ix (pre ++ [x]) W) a' W)
    (hdone : ∀ (D : Nat) (xs : List α) (W : World), w.heap.size ≤ D → S xs → I xs W → W.heap[D]? = some (.deferred (some [])) → Q .normal { a with defers := { target := .collected D, args := #[] } :: a.defers } W)
    (hstop : ∀ (D : Nat) (c : Code) (pre : List α) (W : World), w.heap.size ≤ D → Sp pre → Ix c pre W → W.heap[D]? = some (.deferred (some [])) → c.wpIn F n P Q { a with defers := { target := .collected D, args := #[] } :: a.defers } W) :
    (Code.rangeFunc g ps assign body).wpIn F n P Q a w := by
  refine wpIn_rangeFunc fun fn hfn => ?_
  rw [hro]
  -- the loop's record, and the two blocks that the loop lays: the block for deferred calls (number b), the record (number b + 1)
  obtain ⟨b, hb⟩ : ∃ b, w.heap.size = b := ⟨_, rfl⟩
  obtain ⟨R, hR⟩ : ∃ R : LoopState → Option Code → Loop, R = fun st pe => { state := st, pending := pe, fn, tmps := a.tmps, params := ps, assign, body, defers := w.heap.size } := ⟨_, rfl⟩
  obtain ⟨V, hV⟩ : ∃ V, (w.alloc (.deferred (some []))).alloc (.loop (R .ready none)) = V := ⟨_, rfl⟩
  have hVs : V.heap.size = b + 1 + 1 := by rw [← hV, ← hb]; simp
  have hVl : V.heap[b + 1]? = some (.loop (R .ready none)) := by
    have := World.alloc_heap_new (w.alloc (.deferred (some []))) (.loop (R .ready none))
    rwa [World.size_alloc, hb, hV] at this
  have hVd : V.heap[b]? = some (.deferred (some [])) := by
    rw [← hV, ← hb]
    exact (Below.heap_alloc _ _ _ (by simp)).trans (World.alloc_heap_new w _)
  have hVI : I [] V := by rw [← hV]; exact hI.alloc _ (hI.alloc _ h0)
  have hVb : Below w0.heap.size w0 V := by
    rw [← hV]; exact hb0.trans ((((Below.refl _ w).alloc (Nat.le_refl _) _).alloc (by simp) _).mono hb0.size)
  have hrun : (Instr.enterLoop fn a.tmps ps assign body none).run P w = .ok (b + 1, [{ target := .collected b, args := #[] }]) V := by
    rw [← hV, hR, ← hb]; exact run_enterLoop_outer _ _ _ _ _
  rw [hb] at hI hIx hKb hAx hassign hbody hdone hstop
  refine ⟨b + 1, [{ target := .collected b, args := #[] }], V, { target := .fn (.func gf) lb, args := #[.func (.yield (b + 1)) #[] #[]] }, V, gf, #[.func (.yield (b + 1)) #[] #[]] ++ lb, V, hrun, ?_, ?_, ?_, fun _ => h1, ?_⟩
  · simp only [resolve, hg]
    simp [go_sem]
  · intro f' hf'
    simp [Target.leads] at hf'
    subst hf'
    exact hFg
  · simp [invoke, go_sem, eg]
  -- a step of the iterator's own turns no block of cells
  have hstep : ∀ {A : World} {row : Option Nat}, (∀ r, row = some r → V.heap.size ≤ r ∧ ∃ o : Obj, A.heap[r]? = some o ∧ o.isWalk = true) → ∀ r, row = some r → b ≤ r ∧ ∃ o : Obj, A.heap[r]? = some o ∧ o.isCells = false := fun hr r e => by
    obtain ⟨h2, o, ho, hw⟩ := hr r e
    exact ⟨by omega, o, ho, Obj.not_cells_of_walk hw⟩
  have habide : AbidesFrom V.heap.size (fun pre W => I pre W ∧ W.heap[b + 1]? = some (.loop (R .ready none)) ∧ W.heap[b]? = some (.deferred (some []))) := fun s A B row hs hg' hr =>
    ⟨hI s A B row hs.1 hg' (hstep hr), (grownBy_keeps hg' (fun r e => (hr r e).2) hs.2.1 rfl).trans hs.2.1, (grownBy_keeps hg' (fun r e => (hr r e).2) hs.2.2 rfl).trans hs.2.2⟩
  have habidex : AbidesFrom V.heap.size (fun pre W => ∃ c, Ix c pre W ∧ W.heap[b + 1]? = some (.loop (R .done (some c))) ∧ W.heap[b]? = some (.deferred (some []))) := fun s A B row hs hg' hr => by
    obtain ⟨c, hc, hl, hk⟩ := hs
    exact ⟨c, hIx c s A B row hc hg' (hstep hr), (grownBy_keeps hg' (fun r e => (hr r e).2) hl rfl).trans hl, (grownBy_keeps hg' (fun r e => (hr r e).2) hk rfl).trans hk⟩
  refine (hseq (b + 1) _ _ V hVb habide habidex ?_ ⟨hVI, hVl, hVd⟩).mono ?_
  · -- one round
    rintro pre x W ⟨hi, hl, hk⟩ hG hlen
    have hy := run_yield (P := P) (args := encs x) hl (by rw [hR]; exact hps x)
    rw [hR] at hy
    refine ⟨fn, _, assign, body, hy, roundIn_of_wpIn hfn (hassign _ pre x W _ hi hG ?_)⟩
    intro a' X hka hkp hiX hax
    have hlX := hka.same _ _ (Nat.le_succ b) hl rfl
    have hkX := hka.same _ _ (Nat.le_refl b) hk rfl
    have hlt := (Array.getElem?_eq_some_iff.1 hlX).1
    refine ⟨_, run_beginRound hlX (by rw [hR]), ?_⟩
    obtain ⟨Y, hY⟩ : ∃ Y, X.putObj (b + 1) (.loop { R .ready none with state := .busy }) = Y := ⟨_, rfl⟩
    have hYl : Y.heap[b + 1]? = some (.loop { R .ready none with state := .busy }) := by rw [← hY]; exact World.putObj_heap_same hlt
    have hYk : Y.heap[b]? = some (.deferred (some [])) := by rw [← hY]; exact (World.putObj_heap_other (by omega)).trans hkX
    have hYp : Kp X Y := by rw [← hY]; exact hKb _ _ _ _ (Nat.le_succ b) hlX rfl rfl
    have hYi : I pre Y := by rw [← hY]; exact hI.putObj _ hiX (Nat.le_succ b) hlX rfl
    have hYa : Ax x a' Y := by rw [← hY]; exact (hAx x a').putObj (s := ()) _ hax (Nat.le_succ b) hlX rfl
    rw [hY]
    refine wpIn_mono (hbody _ pre x a' Y hYi hYa hlen) ?_
    have fin : ∀ (jump : Option Code) (Z : World), KeepsFrom b Y Z →
        (Instr.endRound (b + 1) jump).run P Z = .ok (.bool jump.isNone) (Z.putObj (b + 1) (.loop (R (if jump.isNone then .ready else .done) jump))) ∧
        Z.heap[b + 1]? = some (.loop { R .ready none with state := .busy }) ∧
        (Z.putObj (b + 1) (.loop (R (if jump.isNone then .ready else .done) jump))).heap[b + 1]? = some (.loop (R (if jump.isNone then .ready else .done) jump)) ∧
        (Z.putObj (b + 1) (.loop (R (if jump.isNone then .ready else .done) jump))).heap[b]? = some (.deferred (some [])) := fun jump Z hkZ => by
      have hZl := hkZ.same _ _ (Nat.le_succ b) hYl rfl
      have hZk := hkZ.same _ _ (Nat.le_refl b) hYk rfl
      have hr := run_endRound (P := P) jump hZl
      rw [hR] at hr ⊢
      exact ⟨hr, by rw [hR] at hZl; exact hZl, World.putObj_heap_same (Array.getElem?_eq_some_iff.1 hZl).1, (World.putObj_heap_other (by omega)).trans hZk⟩
    rintro e a3 Z hp
    cases e with
    | normal =>
      obtain ⟨hkZ, hpZ, hiZ⟩ := hp
      obtain ⟨hr, h2, h3, h4⟩ := fin none Z hkZ
      exact ⟨_, _, hr, .inl ⟨rfl, ⟨hI.putObj _ hiZ (Nat.le_succ b) h2 rfl, h3, h4⟩, hKt hkp (hKt (hKt hYp hpZ) (hKb _ _ _ _ (Nat.le_succ b) h2 rfl rfl))⟩⟩
    | ret =>
      obtain ⟨hkZ, hiZ⟩ := hp
      obtain ⟨hr, h2, h3, h4⟩ := fin (some .ret) Z hkZ
      exact ⟨_, _, hr, .inr ⟨rfl, .ret, (hIx _).putObj _ hiZ (Nat.le_succ b) h2 rfl, h3, h4⟩⟩
    | exit id =>
      obtain ⟨hkZ, hiZ⟩ := hp
      obtain ⟨hr, h2, h3, h4⟩ := fin (some (.exit id)) Z hkZ
      exact ⟨_, _, hr, .inr ⟨rfl, .exit id, (hIx _).putObj _ hiZ (Nat.le_succ b) h2 rfl, h3, h4⟩⟩
    | goto t =>
      obtain ⟨hkZ, hiZ⟩ := hp
      obtain ⟨hr, h2, h3, h4⟩ := fin (some (.goto t)) Z hkZ
      exact ⟨_, _, hr, .inr ⟨rfl, .goto t, (hIx _).putObj _ hiZ (Nat.le_succ b) h2 rfl, h3, h4⟩⟩
    | panic ch => exact hp.elim
    | outgrown => exact hp.elim
  · -- behind the iterator
    rintro e Z ⟨⟨v, rfl⟩, (⟨xs, hS, hi, hl, hk⟩ | ⟨pre, hSp, c, hi, hl, hk⟩)⟩
    · exact ⟨none, _, by have := run_endLoop (P := P) hl (by rw [hR]; simp); rw [hR] at this; exact this, hdone _ xs _ (Nat.le_refl _) hS (hI.putObj _ hi (Nat.le_succ b) hl rfl) ((World.putObj_heap_other (by omega)).trans hk)⟩
    · exact ⟨some c, _, by have := run_endLoop (P := P) hl (by rw [hR]; simp); rw [hR] at this; exact this, hstop _ c pre _ (Nat.le_refl _) hSp ((hIx c).putObj _ hi (Nat.le_succ b) hl rfl) ((World.putObj_heap_other (by omega)).trans hk)⟩
end
end Go.Proofs.Ytcmbdbphddokmaa
