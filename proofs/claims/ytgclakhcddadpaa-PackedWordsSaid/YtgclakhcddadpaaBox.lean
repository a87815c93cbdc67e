/-
  MEMORY WORDS for a loop over an iterator whose body collects into two slices. 'Mid lo hi W W'': the blocks from lo up to hi lie as they lay.
-/
import Derived.Test.YtgclakhcddadpaaMem
import Derived.RangeFuncNested
import Derived.RangeFuncBound
import Derived.RangeFuncCalls
import Derived.RangeFuncLeaves
import Derived.RangeFuncBox
import Derived.Shelf.Abstract
import Derived.Shelf.RegionOpen
import Derived.OwnWalkIn
import Derived.TacticsInMore
import Derived.LoopNIn
import Derived.LoopIn
import Derived.Maps.AppendAt
import Derived.Laws.OwnMore
namespace Go.Proofs.Ytgclakhcddadpaa
open Go.RowKit

/-- The blocks from lo up to hi lie as they lay. -/
structure Mid (lo hi : Nat) (W W' : World) : Prop where
  size : W.heap.size ≤ W'.heap.size
  block : ∀ k, lo ≤ k → k < hi → k < W.heap.size → W'.heap[k]? = W.heap[k]?

section
variable {lo hi : Nat} {A B C W W' : World}
theorem Mid.refl (lo hi : Nat) (W : World) : Mid lo hi W W := ⟨Nat.le_refl _, fun _ _ _ _ => rfl⟩
theorem Mid.trans (h : Mid lo hi A B) (k : Mid lo hi B C) : Mid lo hi A C :=
  ⟨Nat.le_trans h.size k.size, fun i h1 h2 h3 => (k.block i h1 h2 (Nat.lt_of_lt_of_le h3 h.size)).trans (h.block i h1 h2 h3)⟩
theorem Mid.of_below {b : Nat} (h : Below b W W') (hb : hi ≤ b) : Mid lo hi W W' := ⟨h.size, fun k _ h2 _ => h.block k (Nat.lt_of_lt_of_le h2 hb)⟩
theorem Mid.of_grown {row : Option Nat} (hg : W.grownBy W' row) (hr : ∀ g, row = some g → g < lo ∨ hi ≤ g) : Mid lo hi W W' :=
  ⟨hg.size, fun k h1 h2 h3 => hg.block k h3 (fun e => by have := hr k e.symm; omega)⟩
theorem Mid.cell (h : Mid lo hi W W') {b o : Nat} (h1 : lo ≤ b) (h2 : b < hi) (h3 : b < W.heap.size) : W'.cell? ⟨b, o, none⟩ = W.cell? ⟨b, o, none⟩ :=
  World.cell?_of_block (h.block b h1 h2 h3)
theorem midK_t {A B C : World} (h : Mid lo hi A B) (k : Mid lo hi B C) : Mid lo hi A C := h.trans k
theorem midK_b {w : World} (hn : hi ≤ w.heap.size) (W : World) (l : Nat) (o o' : Obj) (hl : w.heap.size ≤ l) (_ : W.heap[l]? = some o) (_ : o.isCells = false) (_ : o.isWalk = false) : Mid lo hi W (W.putObj l o') :=
  Mid.of_grown (grownBy_putObj' W l o') (fun g e => by cases e; omega)
end

/-- A slice that reads as a list and lies in the blocks from lo up to hi. -/
def RdM (lo hi : Nat) (w : World) (A : Option Addr) (xs : List Value) : Prop :=
  0 < xs.length → ∃ b o, A = some ⟨b, o, none⟩ ∧ lo ≤ b ∧ b < hi ∧ b < w.heap.size ∧ ∀ j u, xs[j]? = some u → w.cell? ⟨b, o + j, none⟩ = some u

theorem RdM.mid {lo hi : Nat} {w w' : World} {A : Option Addr} {xs : List Value} (h : RdM lo hi w A xs) (hb : Mid lo hi w w') : RdM lo hi w' A xs := fun hp => by
  obtain ⟨b, o, e, h1, h2, h3, hc⟩ := h hp
  exact ⟨b, o, e, h1, h2, Nat.lt_of_lt_of_le h3 hb.size, fun j u hu => (hb.cell h1 h2 h3).trans (hc j u hu)⟩
theorem RdM.rd {lo hi : Nat} {w : World} {A : Option Addr} {xs : List Value} (h : RdM lo hi w A xs) : Rd w A xs := fun hp => by
  obtain ⟨b, o, e, _, _, h3, hc⟩ := h hp
  exact ⟨b, o, e, h3, hc⟩
theorem RdM.of_own {lo hi : Nat} {w : World} {e : TypeId} {A : Option Addr} {c n : Nat} {xs : List Value} (h : w.ownsRow lo e 1 (.slice A n c) n xs) (hh : w.heap.size ≤ hi) : RdM lo hi w A xs := fun hp => by
  have hr := Rd.of_own h hp
  obtain ⟨b, o, ea, hb, hc⟩ := hr
  have hl := h.1
  obtain ⟨g, eg, hg1, hg2⟩ := own_addr h (by omega)
  rw [ea] at eg
  injection eg with eg
  injection eg with eb
  subst eb
  exact ⟨b, o, ea, hg1, Nat.lt_of_lt_of_le hb hh, hb, hc⟩

theorem owns_mono {w : World} {base base' : Nat} {e : TypeId} {size : Nat} {v : Value} {n : Nat} {xs : List Value} (h : w.ownsRow base e size v n xs) (hb : base' ≤ base) : w.ownsRow base' e size v n xs := by
  obtain ⟨h1, h2⟩ := h
  refine ⟨h1, ?_⟩
  rcases h2 with h2 | ⟨g, cap, cur, hv, hg, r⟩
  · exact .inl h2
  · exact .inr ⟨g, cap, cur, hv, Nat.le_trans hb hg, r⟩

theorem owns_base {w : World} {base : Nat} {e : TypeId} {size : Nat} {v : Value} {n : Nat} {xs : List Value} (h : w.ownsRow base e size v n xs) {g : Nat} (hg : v.ownBlock = some g) : base ≤ g := by
  rcases h.2 with ⟨rfl, _⟩ | ⟨g', cap, cur, rfl, hb, _⟩
  · simp [Value.ownBlock] at hg
  · obtain rfl : g' = g := by simpa [Value.ownBlock] using hg
    exact hb

theorem owns_shape {w : World} {base : Nat} {e : TypeId} {size : Nat} {v : Value} {n : Nat} {xs : List Value} (h : w.ownsRow base e size v n xs) : ∃ A c, v = .slice A n c := by
  rcases h.2 with ⟨rfl, rfl⟩ | ⟨g, cap, cur, rfl, _⟩
  · exact ⟨_, _, rfl⟩
  · exact ⟨_, _, rfl⟩

/-- Two rows whose elements' types differ never share a block. -/
theorem owns_ne {w : World} {b1 b2 : Nat} {e1 e2 : TypeId} {s1 s2 : Nat} {v1 v2 : Value} {n1 n2 : Nat} {xs1 xs2 : List Value} (h1 : w.ownsRow b1 e1 s1 v1 n1 xs1) (h2 : w.ownsRow b2 e2 s2 v2 n2 xs2) (hne : e1 ≠ e2) :
    v1.ownBlock = none ∨ v1.ownBlock ≠ v2.ownBlock := by
  rcases h1.2 with ⟨rfl, _⟩ | ⟨g, cap, cur, rfl, _, hg, _⟩
  · exact .inl rfl
  · refine .inr fun e => ?_
    rcases h2.2 with ⟨rfl, _⟩ | ⟨g', cap', cur', rfl, _, hg', _⟩
    · simp [Value.ownBlock] at e
    · obtain rfl : g = g' := by simpa [Value.ownBlock] using e
      rw [hg] at hg'
      injection hg' with hg'
      injection hg' with _ ht
      exact hne ht

theorem size_set1 (W : World) (b : Nat) (v : Value) : (W.setCell ⟨b, 0, none⟩ v).heap.size = W.heap.size := by simp
theorem Boxed.below {W W' : World} {B b : Nat} {t : TypeId} {v : Value} (h : Boxed W B t v) (hb : Below b W W') (hlt : B < b) : Boxed W' B t v := (hb.block B hlt).trans h
theorem Boxed.far {W : World} {B : Nat} {t : TypeId} {v : Value} (h : Boxed W B t v) {b : Nat} (hne : B ≠ b) (u : Value) : Boxed (W.setCell ⟨b, 0, none⟩ u) B t v :=
  h.kept (grownBy_setCell' W b u) (fun e => hne (by injection e))

theorem owns_far {W : World} {base : Nat} {e : TypeId} {size : Nat} {v : Value} {n : Nat} {xs : List Value} (h : W.ownsRow base e size v n xs) {b : Nat} (hb : b < base) (u : Value) : (W.setCell ⟨b, 0, none⟩ u).ownsRow base e size v n xs :=
  h.kept (grownBy_setCell' W b u) (.inr fun e => by have := owns_base h e; omega)

/-- **'out = append(out, ..)' of a boxed variable whose row lies from hi on; another box and another row beside it.** -/
theorem appendedM {W w1 : World} {n₀ lo hi B B2 : Nat} {t t2 e e2 : TypeId} {size size2 : Nat} {v v' v2 : Value} {k m k2 : Nat} {xs ys xs2 : List Value} {tmp : Obj}
    (hv : Boxed W B t v) (hte : t ≠ e) (hrow : W.ownsRow hi e size v k xs) (hhi : hi ≤ W.heap.size) (hnB : n₀ ≤ B) (hBlo : B < lo) (hlh : lo ≤ hi)
    (hv2 : Boxed W B2 t2 v2) (hB2 : B2 < hi) (hBB : B2 ≠ B) (hrow2 : W.ownsRow hi e2 size2 v2 k2 xs2) (hee : e2 ≠ e)
    (hown' : w1.ownsRow hi e size v' m ys) (hgrow : (W.alloc tmp).grownBy w1 v.ownBlock) :
    Boxed w1 B t v ∧ Boxed (w1.setCell ⟨B, 0, none⟩ v') B t v' ∧ (w1.setCell ⟨B, 0, none⟩ v').ownsRow hi e size v' m ys ∧ KeepsOthers W (w1.setCell ⟨B, 0, none⟩ v') ∧ Below n₀ W (w1.setCell ⟨B, 0, none⟩ v') ∧ Mid lo hi W (w1.setCell ⟨B, 0, none⟩ v') ∧
      Boxed w1 B2 t2 v2 ∧ Boxed (w1.setCell ⟨B, 0, none⟩ v') B2 t2 v2 ∧ (w1.setCell ⟨B, 0, none⟩ v').ownsRow hi e2 size2 v2 k2 xs2 := by
  obtain ⟨h1, h2, _, h4, h5⟩ := hv.appended hte (owns_mono hrow (show n₀ ≤ hi by omega)) (by omega) hnB (owns_mono hown' (show n₀ ≤ hi by omega)) hgrow
  have hb2 : Boxed w1 B2 t2 v2 := (hv2.alloc tmp).kept hgrow (fun e => by have := owns_base hrow e.symm; omega)
  have hr2 : w1.ownsRow hi e2 size2 v2 k2 xs2 := (hrow2.alloc tmp).kept hgrow (owns_ne hrow2 hrow hee)
  refine ⟨h1, h2, owns_far hown' (by omega) v', h4, h5, ?_, hb2, Boxed.far hb2 hBB v', owns_far hr2 (by omega) v'⟩
  refine Mid.trans (Mid.of_below ((Below.refl _ W).alloc (Nat.le_refl _) tmp) hhi) (Mid.trans (Mid.of_grown hgrow (fun g e => .inr (owns_base hrow e))) (Mid.of_grown (grownBy_setCell' w1 B v') (fun g e => by cases e; exact .inl hBlo)))

/-- A third box over such an append. -/
theorem Boxed.over {W w1 : World} {hi B B0 : Nat} {t0 e : TypeId} {size : Nat} {v v' v0 : Value} {k : Nat} {xs : List Value} {tmp : Obj}
    (h0 : Boxed W B0 t0 v0) (hB0 : B0 < hi) (hne : B0 ≠ B) (hrow : W.ownsRow hi e size v k xs) (hgrow : (W.alloc tmp).grownBy w1 v.ownBlock) : Boxed (w1.setCell ⟨B, 0, none⟩ v') B0 t0 v0 :=
  Boxed.far ((h0.alloc tmp).kept hgrow (fun e => by have := owns_base hrow e.symm; omega)) hne v'

/-- Two boxes that hold two slices of their own: it speaks of cells alone. -/
theorem holds2_own {β : Type} (base B1 B2 : Nat) (t1 t2 e1 e2 : TypeId) (s1 s2 : Nat) (k1 k2 : β → Nat) (f1 f2 : β → List Value) :
    Own (fun s W => ∃ v1 v2, (Boxed W B1 t1 v1 ∧ W.ownsRow base e1 s1 v1 (k1 s) (f1 s)) ∧ (Boxed W B2 t2 v2 ∧ W.ownsRow base e2 s2 v2 (k2 s) (f2 s))) := by
  rintro s X Y row ⟨v1, v2, ⟨hb1, hr1⟩, hb2, hr2⟩ hg hrow
  have hbox : ∀ {B t v}, Boxed X B t v → Boxed Y B t v := fun {B t v} hv => hv.kept hg (fun e' => by
    obtain ⟨o, ho, hc⟩ := hrow B e'.symm
    rw [show X.heap[B]? = _ from hv] at ho; cases ho; cases hc)
  have hown : ∀ {e size v k xs}, X.ownsRow base e size v k xs → Y.ownsRow base e size v k xs := fun {e size v k xs} hr => hr.kept hg (by
    rcases hr.2 with ⟨rfl, _⟩ | ⟨g, cap, cur, rfl, _, hgb, _⟩
    · exact .inl rfl
    · refine .inr fun e' => ?_
      obtain ⟨o, ho, hc⟩ := hrow g (by simpa [Value.ownBlock] using e'.symm)
      rw [hgb] at ho; cases ho; cases hc)
  exact ⟨v1, v2, ⟨hbox hb1, hown hr1⟩, hbox hb2, hown hr2⟩
end Go.Proofs.Ytgclakhcddadpaa
