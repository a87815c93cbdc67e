/-
  THE WALK of the law's own all at uint32.
-/
import Derived.Test.YtgclakhcddadpaaPkE32
namespace Go.Proofs.Ytgclakhcddadpaa
open Go.RowKit Go.Shelf
attribute [local go_sem] Oper.semAt_some

/-- A number as the body collects it. -/
def vl32 (x : Nat × Nat) : Nat :=
  x.2 % 18446744073709551616
theorem idxL32_vl (l : List Nat) (h : ∀ x ∈ l, x < 4294967296) : (idxL32 l).map vl32 = l := by
  apply List.ext_getElem
  · simp [idxL32]
  · intro i h1 h2
    have hx := h _ (List.getElem_mem h2)
    simp [idxL32, vl32, h2]
    omega

theorem idxL32_pre (l : List Nat) (ini : List (Nat × Nat)) (x : Nat × Nat) (h : ini ++ [x] <+: idxL32 l) : x.1 = ini.length := by
  obtain ⟨q, hq⟩ := h
  have h1 : (idxL32 l)[ini.length]? = some x := by
    rw [← hq, List.append_assoc, List.getElem?_append_right (Nat.le_refl _), Nat.sub_self]
    rfl
  unfold idxL32 at h1
  rw [List.getElem?_map] at h1
  rcases Nat.lt_or_ge ini.length l.length with h2 | h2
  · rw [List.getElem?_range h2] at h1
    simp at h1
    rw [← h1]
  · rw [List.getElem?_eq_none (by simpa using h2)] at h1
    simp at h1

/-- What all hands back. -/
def AllP32 (l : List Nat) (w : World) (e : Ending) (w' : World) : Prop :=
  ∃ A c, e = .returned (.tuple #[.slice A l.length c, .bool true]) ∧ w'.ownsRow w.heap.size 30 1 (.slice A l.length c) l.length (uk .u64 l) ∧ Below w.heap.size w w'

/-- What the boxes hold when ini has been collected. -/
def HeldA32 (h0 hi most : Nat) (ini : List (Nat × Nat)) (W : World) : Prop :=
  Boxed W h0 3 (.int .i64 most) ∧ Boxed W (h0 + 1) 28 (.slice none 0 0) ∧ Boxed W (h0 + 1 + 1) 4 (.bool false) ∧ hi ≤ W.heap.size ∧
    ∃ v, Boxed W (h0 + 1 + 1 + 1) 28 v ∧ W.ownsRow hi 30 1 v ini.length (uk .u64 (ini.map vl32))

theorem boxed_turn32 {X Y : World} {B : Nat} {t : TypeId} {v : Value} {row : Option Nat} (hv : Boxed X B t v) (hg : X.grownBy Y row) (hrow : ∀ r, row = some r → ∃ o : Obj, X.heap[r]? = some o ∧ o.isCells = false) : Boxed Y B t v :=
  hv.kept hg (fun e' => by
    obtain ⟨o, ho, hc⟩ := hrow B e'.symm
    rw [show X.heap[B]? = _ from hv] at ho; cases ho; cases hc)

theorem heldA32_own (h0 hi most : Nat) : Own (HeldA32 h0 hi most) := by
  rintro s X Y row ⟨b0, b1, b2, hs, v, b3, hr⟩ hg hrow
  refine ⟨boxed_turn32 b0 hg hrow, boxed_turn32 b1 hg hrow, boxed_turn32 b2 hg hrow, Nat.le_trans hs hg.size, v, boxed_turn32 b3 hg hrow, hr.kept hg ?_⟩
  rcases hr.2 with ⟨rfl, _⟩ | ⟨g, cap, cur, rfl, _, hgb, _⟩
  · exact .inl rfl
  · refine .inr fun e' => ?_
    obtain ⟨o, ho, hc⟩ := hrow g (by simpa [Value.ownBlock] using e'.symm)
    rw [hgb] at ho; cases ho; cases hc

theorem mid2_t32 {a b c : Nat} {A B C : World} (h : Mid232 a b c A B) (k : Mid232 a b c B C) : Mid232 a b c A C := ⟨h.1.trans k.1, h.2.trans k.2⟩

set_option maxRecDepth 100000 in
set_option maxHeartbeats 8000000 in
theorem all32 (g z : Nat) (l : List Nat) (most : Nat) (w : World) (hv : VecAt 94 .u32 g z l w) (hl : l.length ≤ 100000) (hm : most ≤ 1000000) (hlt : Hid (∀ x ∈ l, x < 4294967296)) :
    Calls Try.prog 37 #[.pointer (some ⟨g, 0, none⟩), .int .i64 most] w (AllP32 (l.take most) w) := by
  obtain ⟨i0, hi0, hz0, hz1, hz2⟩ := info_parts info64w32
  have hgl := hv.lt
  refine (callsIn_wide (n := 5)).1 ?_
  refine callsIn_of_wp_marks Try.func37 rfl trivial ?_ rfl
  simp only [Try.ntmps37, List.size_toArray, List.length_cons, List.length_nil, Nat.reduceAdd, Nat.reduceSub, Array.replicate_succ, Array.replicate_zero, List.push_toArray, List.append_toArray, List.nil_append, List.cons_append]
  have b0 := Boxed.new w 3 (.int .i64 most)
  have b1 := Boxed.new (w.alloc (.cells #[.int .i64 most] 3)) 28 (.slice none 0 0)
  have b2 := Boxed.new ((w.alloc (.cells #[.int .i64 most] 3)).alloc (.cells #[.slice none 0 0] 28)) 4 (.bool false)
  have b3 := Boxed.new (((w.alloc (.cells #[.int .i64 most] 3)).alloc (.cells #[.slice none 0 0] 28)).alloc (.cells #[.bool false] 4)) 28 (.slice none 0 0)
  have hB0 : Below w.heap.size w ((((w.alloc (.cells #[.int .i64 most] 3)).alloc (.cells #[.slice none 0 0] 28)).alloc (.cells #[.bool false] 4)).alloc (.cells #[.slice none 0 0] 28)) :=
    ((((Below.refl _ w).alloc (Nat.le_refl _) _).alloc (by simp) _).alloc (by simp; omega) _).alloc (by simp; omega) _
  have heq : ∀ (fn : Fn) (p q : Array Value) (w' : World), Sem.run Try.prog (binOp BinOp.eql 102 (Value.func fn p q) Value.nilFunc) w' = .ok (.bool false) w' := fun _ _ _ _ => by kernel_rfl
  gi_wp2_with (refine ⟨trivial, ?_⟩; gi_at_call 60; refine (callsIn_wide.2 (vall32 g _)).mono ?_; rintro e w1 ⟨rfl, hcell1, hs1, hb1⟩)
  simp only [World.size_alloc] at b1 b2 b3 hcell1 hs1
  have b0' : Boxed w1 w.heap.size 3 (.int .i64 most) := Boxed.below (((b0.alloc _).alloc _).alloc _) hb1 (by simp <;> omega)
  have b1' : Boxed w1 (w.heap.size + 1) 28 (.slice none 0 0) := Boxed.below ((b1.alloc _).alloc _) hb1 (by simp <;> omega)
  have b2' : Boxed w1 (w.heap.size + 1 + 1) 4 (.bool false) := Boxed.below (b2.alloc _) hb1 (by simp)
  have b3' : Boxed w1 (w.heap.size + 1 + 1 + 1) 28 (.slice none 0 0) := Boxed.below b3 hb1 (by simp)
  have hB1 : Below w.heap.size w w1 := hB0.trans (hb1.mono (by simp; omega))
  have hil := idxL32_length l
  have htkv : ∀ k, ((idxL32 l).take k).map vl32 = l.take k := fun k => by rw [List.map_take, idxL32_vl l hlt.out]
  refine wpIn_rangeFunc_ownG rfl (by omega) (gf := 68) (lb := #[.pointer (some ⟨w.heap.size + 1 + 1 + 1 + 1, 0, none⟩)]) rfl trivial (enters_of Try.func68 (by kernel_rfl) rfl)
    (vall_stops32 w.heap.size (w.heap.size + 1 + 1 + 1 + 1) w1.heap.size (w.heap.size + 1 + 1 + 1 + 1) g z l w1 w (by omega) (Nat.le_refl _) (by omega) (Nat.le_refl _) hcell1 (Nat.le_refl _) (by omega) hB1 hv) mid2_t32 (fun W k o o' hk h1 h2 h3 => ⟨midK_b (lo := 0) (hi := w.heap.size) (w := w1) (by omega) W k o o' hk h1 h2 h3, midK_b (Nat.le_refl _) W k o o' hk h1 h2 h3⟩) (Below.refl _ _) (fun _ => rfl)
    (fun pre W => (pre.length ≤ most ∧ HeldA32 w.heap.size w1.heap.size most pre W) ∧ Below w.heap.size w W)
    (fun c pre W => ((c = .exit 0 ∧ ∃ ini x, pre = ini ++ [x] ∧ ini.length = most ∧ HeldA32 w.heap.size w1.heap.size most ini W) ∨ (c = .ret ∧ ∃ ini x, pre = ini ++ [x] ∧ x.1 ≠ ini.length)) ∧ Below w.heap.size w W)
    (OwnFrom.and (Own.from (fun s A B row hs hg hr => ⟨hs.1, heldA32_own _ _ _ s A B row hs.2 hg hr⟩) _) (ownFrom_below (Nat.le_refl _) (by omega)))
    (fun c => OwnFrom.and (Own.from (fun s A B row hs hg hr => by
      rcases hs with ⟨hc, ini, x, e1, e2, e3⟩ | hs
      · exact .inl ⟨hc, ini, x, e1, e2, heldA32_own _ _ _ ini A B row e3 hg hr⟩
      · exact .inr hs) _) (ownFrom_below (Nat.le_refl _) (by omega)))
    ⟨⟨Nat.zero_le _, b0', b1', b2', Nat.le_refl _, _, b3', World.ownsRow_nil _ _ _ _⟩, hB1⟩
    (fun x => { tmps := #[.pointer (some ⟨g, 0, none⟩), .int .i64 most, undef, .pointer (some ⟨w.heap.size, 0, none⟩), .pointer (some ⟨w.heap.size + 1, 0, none⟩), .pointer (some ⟨w.heap.size + 1 + 1, 0, none⟩), .pointer (some ⟨w.heap.size + 1 + 1 + 1, 0, none⟩),
      .func (.func 68) #[] #[.pointer (some ⟨w.heap.size + 1 + 1 + 1 + 1, 0, none⟩)], .int .i64 (x.1 : Int), .int .u32 (x.2 : Int), .pointer (some ⟨g, 0, none⟩), .func (.func 68) #[] #[.pointer (some ⟨w.heap.size + 1 + 1 + 1 + 1, 0, none⟩)],
      .func (.func 68) #[] #[.pointer (some ⟨w.heap.size + 1 + 1 + 1 + 1, 0, none⟩)], .bool false, .func (.func 68) #[] #[.pointer (some ⟨w.heap.size + 1 + 1 + 1 + 1, 0, none⟩)],
      .int .i64 (x.1 : Int), .int .u32 (x.2 : Int), undef, undef, undef, undef, undef, undef, undef, undef, undef, undef, undef, undef, undef, undef], defers := [] }) ?assign ?body ?done ?stop
  case assign =>
    intro lp x W K hK
    gi_wp2
    exact hK
  case body =>
    rintro lp pre x W ⟨⟨hle, hx0, hx1, hx2, hsz, v, hx3, hr3⟩, hB⟩ hlt2
    obtain ⟨A3, c3, rfl⟩ := owns_shape hr3
    have hc0 := hx0.cell
    have hc1 := hx1.cell
    have hc2 := hx2.cell
    have hc3 := hx3.cell
    have hf1 := hx1.frozen
    have hf2 := hx2.frozen
    have hf3 := hx3.frozen
    by_cases hmo : pre.length < most
    · have hlen : pre.length ≤ 1000000 := by omega
      by_cases hxi : x.1 = pre.length
      · have hxb : ((x.1 : Int) != (pre.length : Int)) = false := by rw [hxi]; simp
        have hwx : IntKind.u64.wrap (x.2 : Int) = (vl32 x : Int) := by unfold vl32; rw [IntKind.wrap_u64]; omega
        replace hxi := hid hxi
        gi_wp2_with (gi_at_builtin; refine wpListIn_append_own _ rfl (.tmp 25) (.tmp 28) 28 rfl w1.heap.size 30 i0 (.int .u64 0) 1 8 Try.underlying28 hi0 hz0 hz1 hz2 rfl (by decide) _ _ _ rfl (hr3.alloc _) ⟨W.heap.size, 0, none⟩ 1 1 [.int .u64 (vl32 x : Int)] rfl rfl (cell_one_new _ _ _) (by simp [Value.oneCell']) (by unfold maxLen; omega) (by omega) (by simp; omega) ?_; intro v' W2 hown2 hgrow2 _; obtain ⟨g2, cap2, rfl⟩ := ownsRow_succ hown2; obtain ⟨k1, k2, k3, k4, k5, k6, k7, k8, k9⟩ := appendedM (n₀ := w.heap.size) (lo := w.heap.size + 1 + 1 + 1 + 1) hx3 (by decide) hr3 hsz (by omega) (by omega) (by omega) hx1 (by omega) (by omega) (World.ownsRow_nil W w1.heap.size 3 1) (by decide) hown2 hgrow2; have hk1 := k1.cell; have hk1f := k1.frozen)
        have z1 := Boxed.over (v' := .slice (some ⟨g2, 0, none⟩) (pre.length + 1) cap2) (B := w.heap.size + 1 + 1 + 1) hx0 (by omega) (by omega) hr3 hgrow2
        have z2 := Boxed.over (v' := .slice (some ⟨g2, 0, none⟩) (pre.length + 1) cap2) (B := w.heap.size + 1 + 1 + 1) hx2 (by omega) (by omega) hr3 hgrow2
        have hlx : (pre ++ [x]).length = pre.length + 1 := by simp
        have hms : W.heap.size ≤ (W2.setCell ⟨w.heap.size + 1 + 1 + 1, 0, none⟩ (.slice (some ⟨g2, 0, none⟩) (pre.length + 1) cap2)).heap.size := k6.size
        refine ⟨k4.from _, ⟨Mid.of_below k5 (Nat.le_refl _), k6⟩, ⟨by rw [hlx]; exact hmo, z1, k8, z2, Nat.le_trans hsz hms, _, k2, ?_⟩, hB.trans k5⟩
        rw [hlx, List.map_append, List.map_singleton, uk_snoc]; exact k3
      · have hxb : ((x.1 : Int) != (pre.length : Int)) = true := by simp; omega
        have hxi := hid hxi
        gi_wp2
        exact ⟨KeepsFrom.trans ((KeepsOthers.setCell _ _ _).from _) ((KeepsOthers.setCell _ _ _).from _), .inr ⟨rfl, pre, x, rfl, hxi.out⟩, (hB.setCell (p := ⟨w.heap.size + 1, 0, none⟩) (by show w.heap.size ≤ w.heap.size + 1; omega) _).setCell (p := ⟨w.heap.size + 1 + 1, 0, none⟩) (by show w.heap.size ≤ w.heap.size + 1 + 1; omega) _⟩
    · obtain rfl : pre.length = most := by omega
      gi_wp2
      exact ⟨KeepsFrom.refl _ _, .inl ⟨rfl, pre, x, rfl, rfl, hx0, hx1, hx2, hsz, _, hx3, hr3⟩, hB⟩
  case done =>
    rintro D ys W hD rfl ⟨⟨hle, hx0, hx1, hx2, hsz, v, hx3, hr3⟩, hB⟩ hK
    obtain ⟨A3, c3, rfl⟩ := owns_shape hr3
    have hc1 := hx1.cell
    have hc2 := hx2.cell
    have hc3 := hx3.cell
    have hf1 := hx1.frozen
    have hf2 := hx2.frozen
    rw [hil] at hr3 hle
    have hlv : (idxL32 l).map vl32 = l := idxL32_vl l hlt.out
    rw [hlv] at hr3
    have hlt2 : l.take most = l := List.take_of_length_le hle
    gi_wp2
    try rw [hil]
    have hls := hB1.size
    have y1 := Boxed.far (hx1.set (.slice A3 l.length c3)) (b := w.heap.size + 1 + 1) (by omega) (.bool true)
    have y2 := (Boxed.far hx2 (b := w.heap.size + 1) (by omega) (.slice A3 l.length c3)).set (.bool true)
    have yD : ((W.setCell ⟨w.heap.size + 1, 0, none⟩ (.slice A3 l.length c3)).setCell ⟨w.heap.size + 1 + 1, 0, none⟩ (.bool true)).heap[D]? = some (.deferred (some [])) :=
      (Below.heap_setCell _ _ _ D (by show D ≠ w.heap.size + 1 + 1; omega)).trans ((Below.heap_setCell _ _ _ D (by show D ≠ w.heap.size + 1; omega)).trans hK)
    have yr := owns_far (owns_far hr3 (b := w.heap.size + 1) (by omega) (.slice A3 l.length c3)) (b := w.heap.size + 1 + 1) (by omega) (.bool true)
    have yB := (hB.setCell (p := ⟨w.heap.size + 1, 0, none⟩) (by show w.heap.size ≤ w.heap.size + 1; omega) (.slice A3 l.length c3)).setCell (p := ⟨w.heap.size + 1 + 1, 0, none⟩) (by show w.heap.size ≤ w.heap.size + 1 + 1; omega) (.bool true)
    have yc1 : ∀ o' : Obj, (((W.setCell ⟨w.heap.size + 1, 0, none⟩ (.slice A3 l.length c3)).setCell ⟨w.heap.size + 1 + 1, 0, none⟩ (.bool true)).putObj D o').cell? ⟨w.heap.size + 1, 0, none⟩ = some (.slice A3 l.length c3) := fun o' => (y1.kept (grownBy_putObj' _ D o') (fun e => by injection e with e; omega)).cell
    have yc2 : ∀ o' : Obj, (((W.setCell ⟨w.heap.size + 1, 0, none⟩ (.slice A3 l.length c3)).setCell ⟨w.heap.size + 1 + 1, 0, none⟩ (.bool true)).putObj D o').cell? ⟨w.heap.size + 1 + 1, 0, none⟩ = some (.bool true) := fun o' => (y2.kept (grownBy_putObj' _ D o') (fun e => by injection e with e; omega)).cell
    generalize (W.setCell ⟨w.heap.size + 1, 0, none⟩ (.slice A3 l.length c3)).setCell ⟨w.heap.size + 1 + 1, 0, none⟩ (.bool true) = X at *
    refine ⟨by simp, .inl ⟨_, _, rfl, run_takeDeferred (w := X) yD, ?_⟩⟩
    refine ⟨.tuple #[(.slice A3 l.length c3), .bool true], by simp [results, Try.results37, go_sem, yc1, yc2], ?_⟩
    rw [hlt2]
    exact ⟨A3, c3, rfl, owns_mono (ownsRow_putObj yr _ yD rfl) hls, yB.trans (belowK_b (w := w) (Nat.le_refl _) X D _ _ (by omega) yD rfl rfl)⟩
  case stop =>
    rintro D c pre W hD hpre ⟨hcc, hB⟩ hK
    rcases hcc with ⟨rfl, ini, x, rfl, hin, hx0, hx1, hx2, hsz, v, hx3, hr3⟩ | ⟨rfl, ini, x, rfl, hne⟩
    · obtain ⟨A3, c3, rfl⟩ := owns_shape hr3
      subst hin
      have hT : (idxL32 l).take ini.length = ini := by obtain ⟨q, hq⟩ := hpre; rw [← hq, List.append_assoc, List.take_append_of_le_length (Nat.le_refl _), List.take_length]
      have hlv := htkv ini.length
      rw [hT] at hlv
      have hlen : (l.take ini.length).length = ini.length := by rw [← hlv, List.length_map]
      rw [hlv] at hr3
      obtain ⟨I, hI⟩ : ∃ I, ini.length = I := ⟨_, rfl⟩
      rw [hI] at hr3 hlen hx3 ⊢
      have hc1 := hx1.cell
      have hc2 := hx2.cell
      have hc3 := hx3.cell
      have hf1 := hx1.frozen
      have hf2 := hx2.frozen
      replace hlen := hid hlen
      replace hI := hid hI
      gi_wp2
      have hls := hB1.size
      have y1 := Boxed.far (hx1.set (.slice A3 I c3)) (b := w.heap.size + 1 + 1) (by omega) (.bool true)
      have y2 := (Boxed.far hx2 (b := w.heap.size + 1) (by omega) (.slice A3 I c3)).set (.bool true)
      have yD : ((W.setCell ⟨w.heap.size + 1, 0, none⟩ (.slice A3 I c3)).setCell ⟨w.heap.size + 1 + 1, 0, none⟩ (.bool true)).heap[D]? = some (.deferred (some [])) :=
        (Below.heap_setCell _ _ _ D (by show D ≠ w.heap.size + 1 + 1; omega)).trans ((Below.heap_setCell _ _ _ D (by show D ≠ w.heap.size + 1; omega)).trans hK)
      have yr := owns_far (owns_far hr3 (b := w.heap.size + 1) (by omega) (.slice A3 I c3)) (b := w.heap.size + 1 + 1) (by omega) (.bool true)
      have yB := (hB.setCell (p := ⟨w.heap.size + 1, 0, none⟩) (by show w.heap.size ≤ w.heap.size + 1; omega) (.slice A3 I c3)).setCell (p := ⟨w.heap.size + 1 + 1, 0, none⟩) (by show w.heap.size ≤ w.heap.size + 1 + 1; omega) (.bool true)
      have yc1 : ∀ o' : Obj, (((W.setCell ⟨w.heap.size + 1, 0, none⟩ (.slice A3 I c3)).setCell ⟨w.heap.size + 1 + 1, 0, none⟩ (.bool true)).putObj D o').cell? ⟨w.heap.size + 1, 0, none⟩ = some (.slice A3 I c3) := fun o' => (y1.kept (grownBy_putObj' _ D o') (fun e => by injection e with e; omega)).cell
      have yc2 : ∀ o' : Obj, (((W.setCell ⟨w.heap.size + 1, 0, none⟩ (.slice A3 I c3)).setCell ⟨w.heap.size + 1 + 1, 0, none⟩ (.bool true)).putObj D o').cell? ⟨w.heap.size + 1 + 1, 0, none⟩ = some (.bool true) := fun o' => (y2.kept (grownBy_putObj' _ D o') (fun e => by injection e with e; omega)).cell
      generalize (W.setCell ⟨w.heap.size + 1, 0, none⟩ (.slice A3 I c3)).setCell ⟨w.heap.size + 1 + 1, 0, none⟩ (.bool true) = X at *
      refine ⟨by simp, .inl ⟨_, _, rfl, run_takeDeferred (w := X) yD, ?_⟩⟩
      refine ⟨.tuple #[(.slice A3 I c3), .bool true], by simp [results, Try.results37, go_sem, yc1, yc2], ?_⟩
      try rw [hI.out]
      refine ⟨A3, c3, by rw [hlen.out], ?_, yB.trans (belowK_b (w := w) (Nat.le_refl _) X D _ _ (by omega) yD rfl rfl)⟩
      rw [hlen.out]
      exact owns_mono (ownsRow_putObj yr _ yD rfl) hls
    · exact absurd (idxL32_pre l ini x hpre) hne
end Go.Proofs.Ytgclakhcddadpaa
