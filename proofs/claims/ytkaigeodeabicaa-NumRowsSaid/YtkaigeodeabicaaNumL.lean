/-
  THE WALK of the law's own told.
-/
import Derived.Test.YtkaigeodeabicaaNumK
namespace Go.Proofs.Ytkaigeodeabicaa
open Go.RowKit Go.Shelf
attribute [local go_sem] Oper.semAt_some

theorem info_int : (Try.prog.info? 3).map (fun i => (i.zero, i.size, i.bytes)) = some (some (.int .i64 0), 1, 8) := by kernel_rfl
theorem info_u64 : (Try.prog.info? 22).map (fun i => (i.zero, i.size, i.bytes)) = some (some (.int .u64 0), 1, 8) := by kernel_rfl

/-- Numbers as cells. -/
def i64s (l : List Nat) : List Value := l.map fun x : Nat => .int .i64 (x : Int)
def u64s (l : List Nat) : List Value := l.map fun x : Nat => .int .u64 (x : Int)

/-- What told hands back: two slices of its own: the places, the numbers. -/
def ToldP (T : List (Nat × Nat)) (w : World) (e : Ending) (w' : World) : Prop :=
  ∃ A1 c1 A2 c2, e = .returned (.tuple #[.slice A1 T.length c1, .slice A2 T.length c2]) ∧ w'.ownsRow w.heap.size 3 1 (.slice A1 T.length c1) T.length (i64s (T.map (·.1))) ∧
    w'.ownsRow w.heap.size 22 1 (.slice A2 T.length c2) T.length (u64s (T.map (·.2))) ∧ Below w.heap.size w w'

/-- What the boxes of the loop hold when ini has been collected. -/
def HeldT (h0 hi most : Nat) (ini : List (Nat × Nat)) (W : World) : Prop :=
  Boxed W h0 3 (.int .i64 most) ∧ hi ≤ W.heap.size ∧ ∃ v1 v2, (Boxed W (h0 + 1) 39 v1 ∧ W.ownsRow hi 3 1 v1 ini.length (i64s (ini.map (·.1)))) ∧ (Boxed W (h0 + 1 + 1) 40 v2 ∧ W.ownsRow hi 22 1 v2 ini.length (u64s (ini.map (·.2))))

theorem heldT_own (h0 hi most : Nat) : Own (HeldT h0 hi most) := by
  rintro s X Y row ⟨hb, hs, hv⟩ hg hrow
  refine ⟨hb.kept hg (fun e' => ?_), Nat.le_trans hs hg.size, holds2_own hi (h0 + 1) (h0 + 1 + 1) 39 40 3 22 1 1 List.length List.length (fun s => i64s (s.map (·.1))) (fun s => u64s (s.map (·.2))) s X Y row hv hg hrow⟩
  obtain ⟨o, ho, hc⟩ := hrow h0 e'.symm
  rw [show X.heap[h0]? = _ from hb] at ho; cases ho; cases hc

theorem i64s_snoc (l : List Nat) (x : Nat) : i64s (l ++ [x]) = i64s l ++ [.int .i64 (x : Int)] := by simp [i64s]
theorem u64s_snoc (l : List Nat) (x : Nat) : u64s (l ++ [x]) = u64s l ++ [.int .u64 (x : Int)] := by simp [u64s]

set_option maxRecDepth 100000 in
set_option maxHeartbeats 4000000 in
theorem told_any (A : Option Addr) (n : Nat) (l : List UInt8) (c : Nat) (most : Nat) (w : World) (hn : l.length = n) (hr : Rd w A (cb l)) (hA : A = none → l = []) (hl : n ≤ 1000000) (hm : most ≤ 1000000) :
    Calls Try.prog 21 #[.slice A n c, .int .i64 most] w (ToldP ((rows l).take most) w) := by
  obtain ⟨i0, hi0, hz0, hz1, hz2⟩ := info_parts info_int
  obtain ⟨i1, hi1, hy0, hy1, hy2⟩ := info_parts info_u64
  have hrl := rows_length l
  refine (callsIn_wide (n := 5)).1 ?_
  refine callsIn_of_wp_marks Try.func21 rfl trivial ?_ rfl
  simp only [Try.ntmps21, List.size_toArray, List.length_cons, List.length_nil, Nat.reduceAdd, Nat.reduceSub, Array.replicate_succ, Array.replicate_zero, List.push_toArray, List.append_toArray, List.nil_append, List.cons_append]
  have b0 := Boxed.new w 3 (.int .i64 most)
  have b1 := Boxed.new (w.alloc (.cells #[.int .i64 most] 3)) 39 (.slice none 0 0)
  have b2 := Boxed.new ((w.alloc (.cells #[.int .i64 most] 3)).alloc (.cells #[.slice none 0 0] 39)) 40 (.slice none 0 0)
  have heq : ∀ (fn : Fn) (p q : Array Value) (w' : World), Sem.run Try.prog (binOp BinOp.eql 54 (Value.func fn p q) Value.nilFunc) w' = .ok (.bool false) w' := fun _ _ _ _ => by kernel_rfl
  have hB0 : Below w.heap.size w (((w.alloc (.cells #[.int .i64 most] 3)).alloc (.cells #[.slice none 0 0] 39)).alloc (.cells #[.slice none 0 0] 40)) := (((Below.refl _ w).alloc (Nat.le_refl _) _).alloc (by simp) _).alloc (by simp; omega) _
  gi_wp2_with (refine ⟨trivial, ?_⟩; gi_at_call 26; refine (callsIn_wide.2 (all_any A n l c _ hn (((hr.alloc _).alloc _).alloc _) hA (by omega))).mono ?_; rintro e w1 ⟨A1, c1, rfl, hcell1, hlc1, hc1, hs1, hrd1, hb1⟩)
  simp only [World.size_alloc] at b1 b2
  have b0' : Boxed w1 w.heap.size 3 (.int .i64 most) := Boxed.below ((b0.alloc _).alloc _) hb1 (by simp; omega)
  have b1' : Boxed w1 (w.heap.size + 1) 39 (.slice none 0 0) := Boxed.below (b1.alloc _) hb1 (by simp)
  have b2' : Boxed w1 (w.heap.size + 1 + 1) 40 (.slice none 0 0) := Boxed.below b2 hb1 (by simp)
  have hB1 : Below w.heap.size w w1 := hB0.trans (hb1.mono (by simp; omega))
  simp only [World.size_alloc] at hcell1 hs1 hrd1
  refine wpIn_rangeFunc_ownG rfl (by omega) (gf := 27) (lb := #[.pointer (some ⟨w.heap.size + 1 + 1 + 1, 0, none⟩)]) rfl trivial (enters_of Try.func27 (by kernel_rfl) rfl)
    (all_stops (w.heap.size + 1 + 1 + 1) w1.heap.size (w.heap.size + 1 + 1 + 1) A1 c1 l w1 hlc1 hc1 (by omega) (Nat.le_refl _) hs1 (Nat.le_refl _) hcell1 hrd1) midK_t (midK_b (Nat.le_refl _)) (Below.refl _ _) (fun _ => rfl)
    (fun pre W => (pre.length ≤ most ∧ HeldT w.heap.size w1.heap.size most pre W) ∧ Below w.heap.size w W)
    (fun c pre W => (c = .exit 0 ∧ ∃ ini x, pre = ini ++ [x] ∧ ini.length = most ∧ HeldT w.heap.size w1.heap.size most ini W) ∧ Below w.heap.size w W)
    (OwnFrom.and (Own.from (fun s A B row hs hg hr => ⟨hs.1, heldT_own _ _ _ s A B row hs.2 hg hr⟩) _) (ownFrom_below (Nat.le_refl _) (by omega)))
    (fun c => OwnFrom.and (Own.from (fun s A B row hs hg hr => by obtain ⟨hc, ini, x, e1, e2, e3⟩ := hs; exact ⟨hc, ini, x, e1, e2, heldT_own _ _ _ ini A B row e3 hg hr⟩) _) (ownFrom_below (Nat.le_refl _) (by omega)))
    ⟨⟨Nat.zero_le _, b0', Nat.le_refl _, _, _, ⟨b1', World.ownsRow_nil _ _ _ _⟩, b2', World.ownsRow_nil _ _ _ _⟩, hB1⟩
    (fun x => { tmps := #[.slice A n c, .int .i64 most, undef, .pointer (some ⟨w.heap.size, 0, none⟩), .slice none 0 0, .slice none 0 0, .pointer (some ⟨w.heap.size + 1, 0, none⟩), .pointer (some ⟨w.heap.size + 1 + 1, 0, none⟩),
      .func (.func 27) #[] #[.pointer (some ⟨w.heap.size + 1 + 1 + 1, 0, none⟩)], .int .i64 (x.1 : Int), .int .u64 (x.2 : Int), .slice A n c, .func (.func 27) #[] #[.pointer (some ⟨w.heap.size + 1 + 1 + 1, 0, none⟩)],
      .func (.func 27) #[] #[.pointer (some ⟨w.heap.size + 1 + 1 + 1, 0, none⟩)], .bool false, .func (.func 27) #[] #[.pointer (some ⟨w.heap.size + 1 + 1 + 1, 0, none⟩)],
      .int .i64 (x.1 : Int), .int .u64 (x.2 : Int), undef, undef, undef, undef, undef, undef, undef, undef, undef, undef, undef, undef, undef, undef], defers := [] }) ?assign ?body ?done ?stop
  case assign =>
    intro lp x W K hK
    gi_wp2
    exact hK
  case body =>
    rintro lp pre x W ⟨⟨hle, hx0, hsz, v1, v2, ⟨hx1, hr1⟩, hx2, hr2⟩, hB⟩ hlt
    obtain ⟨A2, c2, rfl⟩ := owns_shape hr1
    obtain ⟨A3, c3, rfl⟩ := owns_shape hr2
    have hc0 := hx0.cell
    have hc1 := hx1.cell
    have hc2 := hx2.cell
    by_cases hmo : pre.length < most
    · have hlen : pre.length ≤ 1000000 := by omega
      gi_wp2_with (first
        | (gi_at_builtin; refine wpListIn_append_own _ rfl (.tmp 22) (.tmp 24) 39 rfl w1.heap.size 3 i0 (.int .i64 0) 1 8 Try.underlying39 hi0 hz0 hz1 hz2 rfl (by decide) _ _ _ rfl (hr1.alloc _) ⟨W.heap.size, 0, none⟩ 1 1 [.int .i64 (x.1 : Int)] rfl rfl (cell_one_new _ _ _) (by simp [Value.oneCell']) (by unfold maxLen; omega) (by omega) (by simp; omega) ?_; intro v' W2 hown2 hgrow2 _; obtain ⟨g2, cap2, rfl⟩ := ownsRow_succ hown2; obtain ⟨k1, k2, k3, k4, k5, k6, k7, k8, k9⟩ := appendedM (n₀ := w.heap.size) (lo := w.heap.size + 1 + 1 + 1) hx1 (by decide) hr1 hsz (by omega) (by omega) (by omega) hx2 (by omega) (by omega) hr2 (by decide) hown2 hgrow2; have hk1 := k1.cell; have hf1 := k1.frozen; have hk8 := k8.cell; have hsw := size_set1 W2 (w.heap.size + 1) (.slice (some ⟨g2, 0, none⟩) (pre.length + 1) cap2))
        | (gi_at_builtin; go_must (refine wpListIn_append_own _ rfl (.tmp 26) (.tmp 28) 40 rfl w1.heap.size 22 i1 (.int .u64 0) 1 8 Try.underlying40 hi1 hy0 hy1 hy2 rfl (by decide) _ _ _ rfl (k9.alloc _) ⟨W2.heap.size, 0, none⟩ 1 1 [.int .u64 (x.2 : Int)] rfl rfl (by rw [← hsw]; exact cell_one_new _ _ _) (by simp [Value.oneCell']) (by unfold maxLen; omega) (by omega) (by rw [World.size_alloc, hsw]; have := k6.size; omega) ?_); intro v' W3 hown3 hgrow3 _; go_must (obtain ⟨g3, cap3, rfl⟩ := ownsRow_succ hown3; obtain ⟨q1, q2, q3, q4, q5, q6, q7, q8, q9⟩ := appendedM (n₀ := w.heap.size) (lo := w.heap.size + 1 + 1 + 1) k8 (by decide) k9 (Nat.le_trans hsz k6.size) (by omega) (by omega) (by omega) k2 (by omega) (by omega) k3 (by decide) hown3 hgrow3; have hq1 := q1.cell; have hgf1 := q1.frozen)))
      have z1 := Boxed.over (v' := .slice (some ⟨g2, 0, none⟩) (pre.length + 1) cap2) (B := w.heap.size + 1) hx0 (by omega) (by omega) hr1 hgrow2
      have z2 := Boxed.over (v' := .slice (some ⟨g3, 0, none⟩) (pre.length + 1) cap3) (B := w.heap.size + 1 + 1) z1 (by omega) (by omega) k9 hgrow3
      have hlx : (pre ++ [x]).length = pre.length + 1 := by simp
      refine ⟨(k4.from _).trans (q4.from _), k6.trans q6, ⟨by rw [hlx]; exact hmo, z2, Nat.le_trans hsz (Nat.le_trans k6.size q6.size), _, _, ⟨q8, ?_⟩, q2, ?_⟩, (hB.trans k5).trans q5⟩
      · rw [hlx, List.map_append, List.map_singleton, i64s_snoc]; exact q9
      · rw [hlx, List.map_append, List.map_singleton, u64s_snoc]; exact q3
    · obtain rfl : pre.length = most := by omega
      gi_wp2
      exact ⟨KeepsFrom.refl _ _, ⟨rfl, pre, x, rfl, rfl, hx0, hsz, _, _, ⟨hx1, hr1⟩, hx2, hr2⟩, hB⟩
  case done =>
    rintro D ys W hD rfl ⟨⟨hle, hx0, hsz, v1, v2, ⟨hx1, hr1⟩, hx2, hr2⟩, hB⟩ hK
    obtain ⟨A2, c2, rfl⟩ := owns_shape hr1
    obtain ⟨A3, c3, rfl⟩ := owns_shape hr2
    have hc1 := hx1.cell
    have hc2 := hx2.cell
    gi_wp2
    gi_region
    all_goals gi_wp2
    have hT : (rows l).take most = rows l := List.take_of_length_le hle
    have hls := hB1.size
    refine ⟨by simp, .inl ⟨_, _, rfl, run_takeDeferred (w := W.drew) hK, ?_⟩⟩
    refine ⟨_, results_tmp2 rfl _ _ _, ?_⟩
    rw [hT]
    exact ⟨A2, c2, A3, c3, rfl, owns_mono (ownsRow_putObj (World.ownsRow.drew hr1) _ hK rfl) hls, owns_mono (ownsRow_putObj (World.ownsRow.drew hr2) _ hK rfl) hls, hB.drew.trans (belowK_b (w := w) (Nat.le_refl _) W.drew D _ _ (by omega) hK rfl rfl)⟩
  case stop =>
    rintro D c pre W hD hpre ⟨⟨rfl, ini, x, rfl, hin, hx0, hsz, v1, v2, ⟨hx1, hr1⟩, hx2, hr2⟩, hB⟩ hK
    obtain ⟨A2, c2, rfl⟩ := owns_shape hr1
    obtain ⟨A3, c3, rfl⟩ := owns_shape hr2
    have hc1 := hx1.cell
    have hc2 := hx2.cell
    subst hin
    gi_wp2
    gi_region
    all_goals gi_wp2
    have hT : (rows l).take ini.length = ini := by obtain ⟨q, hq⟩ := hpre; rw [← hq, List.append_assoc, List.take_append_of_le_length (Nat.le_refl _), List.take_length]
    have hls := hB1.size
    refine ⟨by simp, .inl ⟨_, _, rfl, run_takeDeferred (w := W.drew) hK, ?_⟩⟩
    refine ⟨_, results_tmp2 rfl _ _ _, ?_⟩
    rw [hT]
    exact ⟨A2, c2, A3, c3, rfl, owns_mono (ownsRow_putObj (World.ownsRow.drew hr1) _ hK rfl) hls, owns_mono (ownsRow_putObj (World.ownsRow.drew hr2) _ hK rfl) hls, hB.drew.trans (belowK_b (w := w) (Nat.le_refl _) W.drew D _ _ (by omega) hK rfl rfl)⟩
end Go.Proofs.Ytkaigeodeabicaa
