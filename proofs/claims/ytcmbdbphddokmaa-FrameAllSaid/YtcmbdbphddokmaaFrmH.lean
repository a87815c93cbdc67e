/-
  THE WALK of the law's own told.
-/
import Derived.Test.YtcmbdbphddokmaaRange
namespace Go.Proofs.Ytcmbdbphddokmaa
open Go.RowKit Go.Shelf
attribute [local go_sem] Oper.semAt_some

theorem info_int : (Try.prog.info? 3).map (fun i => (i.zero, i.size, i.bytes)) = some (some (.int .i64 0), 1, 8) := by kernel_rfl
theorem info_rec : (Try.prog.info? 29).map (fun i => (i.zero, i.size, i.bytes)) = some (some (.agg #[.int .i64 0, .slice none 0 0]), 2, 32) := by kernel_rfl

/-- Numbers as cells. -/
def i64s (l : List Nat) : List Value := l.map fun x : Nat => .int .i64 (x : Int)
theorem i64s_snoc (l : List Nat) (x : Nat) : i64s (l ++ [x]) = i64s l ++ [.int .i64 (x : Int)] := by simp [i64s]
theorem i64s_length (l : List Nat) : (i64s l).length = l.length := by simp [i64s]
theorem i64s_get (l : List Nat) (i : Nat) (h : i < l.length) : (i64s l)[i]? = some (.int .i64 (l[i] : Int)) := by simp [i64s, h]

/-- Records as cells: two each. -/
def FR.cells (x : FR) : List Value := [.int .i64 (x.kind : Int), .slice x.addr x.body.length x.cap]
def recs (l : List FR) : List Value := l.flatMap FR.cells
theorem recs_snoc (l : List FR) (x : FR) : recs (l ++ [x]) = recs l ++ x.cells := by simp [recs]
theorem recs_length (l : List FR) : (recs l).length = l.length * 2 := by
  induction l with
  | nil => rfl
  | cons x l ih => simp only [recs, List.flatMap_cons, List.length_append, List.length_cons] at ih ⊢; rw [ih]; simp [FR.cells]; omega
theorem recs_get (l : List FR) : ∀ (i : Nat) (h : i < l.length), (recs l)[i * 2]? = some (.int .i64 (l[i].kind : Int)) ∧ (recs l)[i * 2 + 1]? = some (.slice l[i].addr l[i].body.length l[i].cap) := by
  induction l with
  | nil => intro i h; simp at h
  | cons x l ih =>
    intro i h
    cases i with
    | zero => exact ⟨rfl, rfl⟩
    | succ i =>
      have h2 := ih i (by simpa using h)
      have e : recs (x :: l) = x.cells ++ recs l := rfl
      have hl : x.cells.length = 2 := rfl
      rw [e, List.getElem?_append_right (by omega), List.getElem?_append_right (by omega), hl, show (i + 1) * 2 - 2 = i * 2 from by omega, show (i + 1) * 2 + 1 - 2 = i * 2 + 1 from by omega]
      simpa using h2

theorem Lies.mono {B B' : Nat} {x : FR} {W : World} (h : Lies B x W) (hb : B' ≤ B) : Lies B' x W := by
  obtain ⟨c', h1, h2⟩ := h
  exact ⟨c', owns_mono h1 hb, h2⟩
theorem Lies.rd {B : Nat} {x : FR} {W : World} (h : Lies B x W) : Rd W x.addr (cb x.body) := by
  obtain ⟨c', h1, _⟩ := h
  exact Rd.of_own h1
theorem Lies.alloc {B : Nat} {x : FR} {W : World} (h : Lies B x W) (o : Obj) : Lies B x (W.alloc o) := by
  obtain ⟨c', h1, h2⟩ := h
  exact ⟨c', h1.alloc o, h2⟩
theorem Lies.over {W w1 : World} {hi B : Nat} {e : TypeId} {size : Nat} {v v' : Value} {k : Nat} {xs : List Value} {tmp : Obj} {x : FR}
    (h : Lies hi x W) (hB : B < hi) (hrow : W.ownsRow hi e size v k xs) (hne : 5 ≠ e) (hgrow : (W.alloc tmp).grownBy w1 v.ownBlock) : Lies hi x (w1.setCell ⟨B, 0, none⟩ v') := by
  obtain ⟨c', h1, h2⟩ := h
  exact ⟨c', owns_far ((h1.alloc tmp).kept hgrow (owns_ne h1 hrow hne)) hB v', h2⟩
theorem Lies.turn {B : Nat} {x : FR} {W W' : World} {row : Option Nat} (h : Lies B x W) (hg : W.grownBy W' row) (hrow : ∀ r, row = some r → ∃ o : Obj, W.heap[r]? = some o ∧ o.isCells = false) : Lies B x W' := by
  obtain ⟨c', hr, h2⟩ := h
  refine ⟨c', hr.kept hg ?_, h2⟩
  rcases hr.2 with ⟨hv, _⟩ | ⟨g, cap, cur, hv, _, hgb, _⟩
  · exact .inl (by rw [hv]; rfl)
  · refine .inr fun e' => ?_
    obtain ⟨o, ho, hc⟩ := hrow g (by rw [hv] at e'; simpa [Value.ownBlock] using e'.symm)
    rw [hgb] at ho; cases ho; cases hc
theorem Lies.below {B b : Nat} {x : FR} {W W' : World} (h : Lies B x W) (hb : Below b W W') (hW : W.heap.size ≤ b) : Lies B x W' := by
  obtain ⟨c', h1, h2⟩ := h
  exact ⟨c', h1.kept (⟨hb.os, hb.tape, hb.output, hb.size, fun k hk _ => hb.block k (by omega)⟩ : W.grownBy W' none) (by rcases (Value.slice x.addr x.body.length c').ownBlock with _ | q; exact .inl rfl; exact .inr (by simp)), h2⟩

/-- What the boxes of the loop hold when ini has been collected. -/
def HeldT (h0 hi most : Nat) (ini : List FR) (W : World) : Prop :=
  Boxed W h0 3 (.int .i64 most) ∧ hi ≤ W.heap.size ∧ (∀ x ∈ ini, Lies hi x W) ∧ ∃ v1 v2, (Boxed W (h0 + 1) 40 v1 ∧ W.ownsRow hi 3 1 v1 ini.length (i64s (ini.map FR.place))) ∧ (Boxed W (h0 + 1 + 1) 41 v2 ∧ W.ownsRow hi 29 2 v2 ini.length (recs ini))

theorem heldT_own (h0 hi most : Nat) : Own (HeldT h0 hi most) := by
  rintro s X Y row ⟨hb, hs, hl, hv⟩ hg hrow
  refine ⟨hb.kept hg (fun e' => ?_), Nat.le_trans hs hg.size, fun x hx => (hl x hx).turn hg hrow, holds2_own hi (h0 + 1) (h0 + 1 + 1) 40 41 3 29 1 2 List.length List.length (fun s => i64s (s.map FR.place)) recs s X Y row hv hg hrow⟩
  obtain ⟨o, ho, hc⟩ := hrow h0 e'.symm
  rw [show X.heap[h0]? = _ from hb] at ho; cases ho; cases hc

/-- A block of cells whose type is not a row's is no such row. -/
theorem block_not_row {W : World} {g : Nat} {cs : Array Value} {t e : TypeId} {f : Nat × Nat} (h : W.heap[g]? = some (.cells cs t f)) (hte : t ≠ e) {base size k : Nat} {v : Value} {xs : List Value} (hr : W.ownsRow base e size v k xs) : some g ≠ v.ownBlock := by
  rcases hr.2 with ⟨rfl, _⟩ | ⟨g', cap, cur, rfl, _, hgb, _⟩
  · simp [Value.ownBlock]
  · intro e'
    obtain rfl : g = g' := by simpa [Value.ownBlock] using e'
    rw [h] at hgb
    injection hgb with hgb
    injection hgb with _ ht
    exact hte ht

/-- Such a block over an append to a boxed variable's row. -/
theorem block_over {W w1 : World} {B g : Nat} {cs : Array Value} {t e : TypeId} {f : Nat × Nat} {base size k : Nat} {v v' : Value} {xs : List Value} {tmp : Obj}
    (h : W.heap[g]? = some (.cells cs t f)) (hte : t ≠ e) (hgB : g ≠ B) (hrow : W.ownsRow base e size v k xs) (hgrow : (W.alloc tmp).grownBy w1 v.ownBlock) : (w1.setCell ⟨B, 0, none⟩ v').heap[g]? = some (.cells cs t f) := by
  have hlt := (Array.getElem?_eq_some_iff.1 h).1
  have h1 : (W.alloc tmp).heap[g]? = some (.cells cs t f) := (Below.heap_alloc W tmp g hlt).trans h
  have h2 : w1.heap[g]? = some (.cells cs t f) := (hgrow.block g (by simp; omega) (block_not_row h1 hte (hrow.alloc tmp))).trans h1
  exact ((grownBy_setCell' w1 B v').block g (Array.getElem?_eq_some_iff.1 h2).1 (fun e => hgB (by injection e))).trans h2

theorem cell_two_new (W : World) (u v : Value) (t : TypeId) : ∀ j x, [u, v][j]? = some x → (W.alloc (.cells #[u, v] t)).cell? ((⟨W.heap.size, 0, none⟩ : Addr).add j) = some x := by
  intro j x hx
  match j, hx with
  | 0, hx => simp at hx; subst hx; simp [Addr.add]
  | 1, hx => simp at hx; subst hx; simp [Addr.add]

/-- What told hands back: two slices of its own: the places, the records; each record's body in memory of its own. -/
def ToldP (T : List (Nat × Nat × List UInt8)) (w : World) (e : Ending) (w' : World) : Prop :=
  ∃ (xs : List FR) (A1 : Option Addr) (c1 : Nat) (A2 : Option Addr) (c2 : Nat), xs.map FR.row = T ∧ e = .returned (.tuple #[.slice A1 xs.length c1, .slice A2 xs.length c2]) ∧ w'.ownsRow w.heap.size 3 1 (.slice A1 xs.length c1) xs.length (i64s (xs.map FR.place)) ∧
    w'.ownsRow w.heap.size 29 2 (.slice A2 xs.length c2) xs.length (recs xs) ∧ (∀ x ∈ xs, Lies w.heap.size x w') ∧ Below w.heap.size w w'

set_option maxRecDepth 100000 in
set_option maxHeartbeats 4000000 in
theorem told_any (A : Option Addr) (n : Nat) (l : List UInt8) (c : Nat) (most : Nat) (w : World) (hn : l.length = n) (hr : Rd w A (cb l)) (hA : A = none → l = []) (hl : n ≤ 1000000) (hm : most ≤ 1000000) :
    Calls Try.prog 17 #[.slice A n c, .int .i64 most] w (ToldP ((rowsF l).take most) w) := by
  obtain ⟨i0, hi0, hz0, hz1, hz2⟩ := info_parts info_int
  obtain ⟨i1, hi1, hy0, hy1, hy2⟩ := info_parts info_rec
  have hrl := rowsF_length l
  refine (callsIn_wide (n := 5)).1 ?_
  refine callsIn_of_wp_marks Try.func17 rfl trivial ?_ rfl
  simp only [Try.ntmps17, List.size_toArray, List.length_cons, List.length_nil, Nat.reduceAdd, Nat.reduceSub, Array.replicate_succ, Array.replicate_zero, List.push_toArray, List.append_toArray, List.nil_append, List.cons_append]
  have b0 := Boxed.new w 3 (.int .i64 most)
  have b1 := Boxed.new (w.alloc (.cells #[.int .i64 most] 3)) 40 (.slice none 0 0)
  have b2 := Boxed.new ((w.alloc (.cells #[.int .i64 most] 3)).alloc (.cells #[.slice none 0 0] 40)) 41 (.slice none 0 0)
  have heq : ∀ (fn : Fn) (p q : Array Value) (w' : World), Sem.run Try.prog (binOp BinOp.eql 64 (Value.func fn p q) Value.nilFunc) w' = .ok (.bool false) w' := fun _ _ _ _ => by kernel_rfl
  have hB0 : Below w.heap.size w (((w.alloc (.cells #[.int .i64 most] 3)).alloc (.cells #[.slice none 0 0] 40)).alloc (.cells #[.slice none 0 0] 41)) := (((Below.refl _ w).alloc (Nat.le_refl _) _).alloc (by simp) _).alloc (by simp; omega) _
  gi_wp2_with (refine ⟨trivial, ?_⟩; gi_at_call 28; refine (callsIn_wide.2 (all_any A n l c _ hn (((hr.alloc _).alloc _).alloc _) hA (by omega))).mono ?_; rintro e w1 ⟨A1, c1, rfl, hcell1, hlc1, hc1, hs1, hrd1, hb1⟩)
  simp only [World.size_alloc] at b1 b2
  have b0' : Boxed w1 w.heap.size 3 (.int .i64 most) := Boxed.below ((b0.alloc _).alloc _) hb1 (by simp; omega)
  have b1' : Boxed w1 (w.heap.size + 1) 40 (.slice none 0 0) := Boxed.below (b1.alloc _) hb1 (by simp)
  have b2' : Boxed w1 (w.heap.size + 1 + 1) 41 (.slice none 0 0) := Boxed.below b2 hb1 (by simp)
  have hB1 : Below w.heap.size w w1 := hB0.trans (hb1.mono (by simp; omega))
  simp only [World.size_alloc] at hcell1 hs1 hrd1
  refine range_given rfl (by omega) (gf := 37) (lb := #[.pointer (some ⟨w.heap.size + 1 + 1 + 1, 0, none⟩)]) rfl trivial (enters_of Try.func37 (by kernel_rfl) rfl)
    (all_stops (w.heap.size + 1 + 1 + 1) w1.heap.size (w.heap.size + 1 + 1 + 1) A1 c1 l w1 hlc1 hc1 (Nat.le_refl _) hs1 (Nat.le_refl _) hcell1 hrd1) midK_t (midK_b (Nat.le_refl _)) (Below.refl _ _) (fun _ => rfl)
    (fun pre W => (pre.length ≤ most ∧ HeldT w.heap.size w1.heap.size most pre W) ∧ Below w.heap.size w W)
    (fun c pre W => (c = .exit 0 ∧ ∃ ini x, pre = ini ++ [x] ∧ ini.length = most ∧ HeldT w.heap.size w1.heap.size most ini W) ∧ Below w.heap.size w W)
    (OwnFrom.and (Own.from (fun s A B row hs hg hr => ⟨hs.1, heldT_own _ _ _ s A B row hs.2 hg hr⟩) _) (ownFrom_below (Nat.le_refl _) (by omega)))
    (fun c => OwnFrom.and (Own.from (fun s A B row hs hg hr => by obtain ⟨hc, ini, x, e1, e2, e3⟩ := hs; exact ⟨hc, ini, x, e1, e2, heldT_own _ _ _ ini A B row e3 hg hr⟩) _) (ownFrom_below (Nat.le_refl _) (by omega)))
    ⟨⟨Nat.zero_le _, b0', Nat.le_refl _, fun x hx => by simp at hx, _, _, ⟨b1', World.ownsRow_nil _ _ _ _⟩, b2', World.ownsRow_nil _ _ _ _⟩, hB1⟩
    (fun x a' W => ∃ g, w1.heap.size ≤ g ∧ W.heap[g]? = some (.cells #[.int .i64 (x.kind : Int), .slice x.addr x.body.length x.cap] 29 (0, 0)) ∧ Lies w1.heap.size x W ∧ a' = { tmps := #[.slice A n c, .int .i64 most, undef, .pointer (some ⟨w.heap.size, 0, none⟩), .slice none 0 0, .slice none 0 0, .pointer (some ⟨w.heap.size + 1, 0, none⟩), .pointer (some ⟨w.heap.size + 1 + 1, 0, none⟩),
      .func (.func 37) #[] #[.pointer (some ⟨w.heap.size + 1 + 1 + 1, 0, none⟩)], .int .i64 (x.place : Int), .pointer (some ⟨g, 0, none⟩), .slice A n c, .func (.func 37) #[] #[.pointer (some ⟨w.heap.size + 1 + 1 + 1, 0, none⟩)],
      .func (.func 37) #[] #[.pointer (some ⟨w.heap.size + 1 + 1 + 1, 0, none⟩)], .bool false, .func (.func 37) #[] #[.pointer (some ⟨w.heap.size + 1 + 1 + 1, 0, none⟩)],
      .int .i64 (x.place : Int), .agg #[.int .i64 (x.kind : Int), .slice x.addr x.body.length x.cap], undef, undef, undef, undef, undef, undef, undef, undef, undef, undef, undef, undef, undef, undef], defers := [] })
    ?hAx ?assign ?body ?done ?stop
  case hAx =>
    intro x a'
    refine Own.from ?_ _
    rintro _ X Y row ⟨g, h1, h2, h3, h4⟩ hg hrow
    refine ⟨g, h1, ?_, h3.turn hg hrow, h4⟩
    refine (hg.block g (Array.getElem?_eq_some_iff.1 h2).1 (fun e => ?_)).trans h2
    obtain ⟨o, ho, hc⟩ := hrow g e.symm
    rw [h2] at ho; cases ho; cases hc
  case assign =>
    rintro lp pre x W K ⟨⟨hle, hx0, hsz, hli, v1, v2, ⟨hx1, hr1⟩, hx2, hr2⟩, hB⟩ hG hK
    unfold FR.args
    gi_wp2
    exact hK _ _ ((KeepsOthers.alloc _ _).from _) (Mid.of_below ((Below.refl _ W).alloc (Nat.le_refl _) _) hsz)
      ⟨⟨hle, hx0.alloc _, Nat.le_trans hsz (by simp), fun y hy => (hli y hy).alloc _, v1, v2, ⟨hx1.alloc _, hr1.alloc _⟩, hx2.alloc _, hr2.alloc _⟩, hB.alloc hB.size _⟩ ⟨W.heap.size, hsz, heap_alloc_new W _, hG.1.alloc _, rfl⟩
  case body =>
    rintro lp pre x a' W ⟨⟨hle, hx0, hsz, hli, v1, v2, ⟨hx1, hr1⟩, hx2, hr2⟩, hB⟩ ⟨g, hg1, hg2, hgl, rfl⟩ hlt
    obtain ⟨A2, c2, rfl⟩ := owns_shape hr1
    obtain ⟨A3, c3, rfl⟩ := owns_shape hr2
    have hc0 := hx0.cell
    have hc1 := hx1.cell
    have hc2 := hx2.cell
    by_cases hmo : pre.length < most
    · have hlen : pre.length ≤ 1000000 := by omega
      gi_wp2_with (first
        | (gi_at_builtin; refine wpListIn_append_own _ rfl (.tmp 22) (.tmp 24) 40 rfl w1.heap.size 3 i0 (.int .i64 0) 1 8 Try.underlying40 hi0 hz0 hz1 hz2 rfl (by decide) _ _ _ rfl (hr1.alloc _) ⟨W.heap.size, 0, none⟩ 1 1 [.int .i64 (x.place : Int)] rfl rfl (cell_one_new _ _ _) (by simp [Value.oneCell']) (by unfold maxLen; omega) (by omega) (by simp; omega) ?_; intro v' W2 hown2 hgrow2 _; obtain ⟨g2, cap2, rfl⟩ := ownsRow_succ hown2; obtain ⟨k1, k2, k3, k4, k5, k6, k7, k8, k9⟩ := appendedM (n₀ := w.heap.size) (lo := w.heap.size + 1 + 1 + 1) hx1 (by decide) hr1 hsz (by omega) (by omega) (by omega) hx2 (by omega) (by omega) hr2 (by decide) hown2 hgrow2; have hk1 := k1.cell; have hf1 := k1.frozen; have hk8 := k8.cell; have hsw := size_set1 W2 (w.heap.size + 1) (.slice (some ⟨g2, 0, none⟩) (pre.length + 1) cap2); have hg3 := block_over (v' := .slice (some ⟨g2, 0, none⟩) (pre.length + 1) cap2) (B := w.heap.size + 1) hg2 (by decide) (by omega) hr1 hgrow2; obtain ⟨hgc0, hgc1⟩ := rec_cells hg3)
        | (gi_at_builtin; refine wpListIn_append_own _ rfl (.tmp 26) (.tmp 28) 41 rfl w1.heap.size 29 i1 (.agg #[.int .i64 0, .slice none 0 0]) 2 32 Try.underlying41 hi1 hy0 hy1 hy2 rfl (by decide) _ _ _ rfl (k9.alloc _) ⟨W2.heap.size, 0, none⟩ 1 1 x.cells rfl rfl (by rw [← hsw]; exact cell_two_new _ _ _ _) (by simp [FR.cells, Value.oneCell']) (by unfold maxLen; omega) (by omega) (by rw [World.size_alloc, hsw]; have := k6.size; omega) ?_; intro v' W3 hown3 hgrow3 _; obtain ⟨g3, cap3, rfl⟩ := ownsRow_succ hown3; obtain ⟨q1, q2, q3, q4, q5, q6, q7, q8, q9⟩ := appendedM (n₀ := w.heap.size) (lo := w.heap.size + 1 + 1 + 1) k8 (by decide) k9 (Nat.le_trans hsz k6.size) (by omega) (by omega) (by omega) k2 (by omega) (by omega) k3 (by decide) hown3 hgrow3; have hq1 := q1.cell; have hgf1 := q1.frozen))
      have z1 := Boxed.over (v' := .slice (some ⟨g2, 0, none⟩) (pre.length + 1) cap2) (B := w.heap.size + 1) hx0 (by omega) (by omega) hr1 hgrow2
      have z2 := Boxed.over (v' := .slice (some ⟨g3, 0, none⟩) (pre.length + 1) cap3) (B := w.heap.size + 1 + 1) z1 (by omega) (by omega) k9 hgrow3
      have hly : ∀ y, Lies w1.heap.size y W → Lies w1.heap.size y (W3.setCell ⟨w.heap.size + 1 + 1, 0, none⟩ (.slice (some ⟨g3, 0, none⟩) (pre.length + 1) cap3)) := fun y hy =>
        Lies.over (Lies.over (v' := .slice (some ⟨g2, 0, none⟩) (pre.length + 1) cap2) (B := w.heap.size + 1) hy (by omega) hr1 (by decide) hgrow2) (by omega) k9 (by decide) hgrow3
      have hlx : (pre ++ [x]).length = pre.length + 1 := by simp
      refine ⟨(k4.from _).trans (q4.from _), k6.trans q6, ⟨by rw [hlx]; exact hmo, z2, Nat.le_trans hsz (Nat.le_trans k6.size q6.size), ?_, _, _, ⟨q8, ?_⟩, q2, ?_⟩, (hB.trans k5).trans q5⟩
      · intro y hy
        rcases List.mem_append.1 hy with h | h
        · exact hly y (hli y h)
        · simp at h
          subst h
          exact hly _ hgl
      · rw [hlx, List.map_append, List.map_singleton, i64s_snoc]; exact q9
      · rw [hlx, recs_snoc]; exact q3
    · obtain rfl : pre.length = most := by omega
      gi_wp2
      exact ⟨KeepsFrom.refl _ _, ⟨rfl, pre, x, rfl, rfl, hx0, hsz, hli, _, _, ⟨hx1, hr1⟩, hx2, hr2⟩, hB⟩
  case done =>
    rintro D ys W hD hys ⟨⟨hle, hx0, hsz, hli, v1, v2, ⟨hx1, hr1⟩, hx2, hr2⟩, hB⟩ hK
    obtain ⟨A2, c2, rfl⟩ := owns_shape hr1
    obtain ⟨A3, c3, rfl⟩ := owns_shape hr2
    have hc1 := hx1.cell
    have hc2 := hx2.cell
    gi_wp2
    gi_region
    all_goals gi_wp2
    have hT : ys.map FR.row = (rowsF l).take most := by rw [← hys, List.take_of_length_le (by rw [List.length_map]; exact hle)]
    have hls := hB1.size
    refine ⟨by simp, .inl ⟨_, _, rfl, run_takeDeferred (w := W.drew) hK, ?_⟩⟩
    refine ⟨_, results_tmp2 rfl _ _ _, ?_⟩
    exact ⟨ys, A2, c2, A3, c3, hT, rfl, owns_mono (ownsRow_putObj (World.ownsRow.drew hr1) _ hK rfl) hls, owns_mono (ownsRow_putObj (World.ownsRow.drew hr2) _ hK rfl) hls,
      fun y hy => Lies.mono (Lies.turn (W := W.drew) (hli y hy) (grownBy_putObj' _ D (.deferred none)) (fun r e => by cases e; exact ⟨_, hK, rfl⟩)) hls, hB.drew.trans (belowK_b (w := w) (Nat.le_refl _) W.drew D _ _ (by omega) hK rfl rfl)⟩
  case stop =>
    rintro D c pre W hD hpre ⟨⟨rfl, ini, x, rfl, hin, hx0, hsz, hli, v1, v2, ⟨hx1, hr1⟩, hx2, hr2⟩, hB⟩ hK
    obtain ⟨A2, c2, rfl⟩ := owns_shape hr1
    obtain ⟨A3, c3, rfl⟩ := owns_shape hr2
    have hc1 := hx1.cell
    have hc2 := hx2.cell
    subst hin
    gi_wp2
    gi_region
    all_goals gi_wp2
    have hT : ini.map FR.row = (rowsF l).take ini.length := by
      obtain ⟨q, hq⟩ := hpre
      rw [← hq, List.map_append, List.append_assoc, List.take_append_of_le_length (by rw [List.length_map]; exact Nat.le_refl _), List.take_of_length_le (by rw [List.length_map]; exact Nat.le_refl _)]
    have hls := hB1.size
    refine ⟨by simp, .inl ⟨_, _, rfl, run_takeDeferred (w := W.drew) hK, ?_⟩⟩
    refine ⟨_, results_tmp2 rfl _ _ _, ?_⟩
    exact ⟨ini, A2, c2, A3, c3, hT, rfl, owns_mono (ownsRow_putObj (World.ownsRow.drew hr1) _ hK rfl) hls, owns_mono (ownsRow_putObj (World.ownsRow.drew hr2) _ hK rfl) hls,
      fun y hy => Lies.mono (Lies.turn (W := W.drew) (hli y hy) (grownBy_putObj' _ D (.deferred none)) (fun r e => by cases e; exact ⟨_, hK, rfl⟩)) hls, hB.drew.trans (belowK_b (w := w) (Nat.le_refl _) W.drew D _ _ (by omega) hK rfl rfl)⟩
end Go.Proofs.Ytcmbdbphddokmaa
