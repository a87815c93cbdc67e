/-
  THE WALK of frame.End.
-/
import Derived.Test.YtcmbdbphddokmaaFrmH
namespace Go.Proofs.Ytcmbdbphddokmaa
open Go.RowKit Go.Shelf
attribute [local go_sem] Oper.semAt_some

/-- What is wrong where the records end. -/
def whyF (l : List UInt8) : Nat := if endF l = l.length then 0 else (takeR (l.drop (endF l))).2.2.2

def EndP (l : List UInt8) (w : World) (e : Ending) (w' : World) : Prop := e = .returned (.tuple #[.int .i64 (endF l : Int), .int .i64 (whyF l : Int)]) ∧ Below w.heap.size w w'

set_option maxRecDepth 100000 in
set_option maxHeartbeats 4000000 in
theorem end_any (A : Option Addr) (n : Nat) (l : List UInt8) (c : Nat) (w : World) (hn : l.length = n) (hr : Rd w A (cb l)) (hA : A = none → l = []) (hnc : n ≤ c) (hcm : c ≤ maxLen) (hl : n ≤ 1000000) :
    Calls Try.prog 18 #[.slice A n c] w (EndP l w) := by
  have hle := endF_le l
  have herr := endF_err l
  rw [hn] at hle
  refine (callsIn_wide (n := 5)).1 ?_
  refine callsIn_of_wp_marks Try.func18 rfl trivial ?_ rfl
  simp only [Try.ntmps18, List.size_toArray, List.length_cons, List.length_nil, Nat.reduceAdd, Nat.reduceSub, Array.replicate_succ, Array.replicate_zero, List.push_toArray, List.append_toArray, List.nil_append, List.cons_append]
  have b0 := Boxed.new w 3 (.int .i64 0)
  gi_wp2_with (refine ⟨trivial, ?_⟩; gi_at_call 28; refine (callsIn_wide.2 (all_any A n l c _ hn (hr.alloc _) hA (by omega))).mono ?_; rintro e w1 ⟨A1, c1, rfl, hcell1, hlc1, hc1, hs1, hrd1, hb1⟩)
  have b0' : Boxed w1 w.heap.size 3 (.int .i64 0) := Boxed.below b0 hb1 (by simp)
  have hB1 : Below w.heap.size w w1 := ((Below.refl _ w).alloc (Nat.le_refl _) _).trans (hb1.mono (by simp))
  simp only [World.size_alloc] at hcell1 hs1 hrd1
  refine range_given rfl (by omega) (gf := 37) (lb := #[.pointer (some ⟨w.heap.size + 1, 0, none⟩)]) rfl trivial (enters_of Try.func37 (by kernel_rfl) rfl)
    (all_stops (w.heap.size + 1) w1.heap.size (w.heap.size + 1) A1 c1 l w1 hlc1 hc1 (Nat.le_refl _) hs1 (Nat.le_refl _) hcell1 hrd1) midK_t (midK_b (Nat.le_refl _)) (Below.refl _ _) (fun _ => rfl)
    (fun pre W => (Boxed W w.heap.size 3 (.int .i64 (lastEnd (pre.map FR.row) 0 : Int)) ∧ w1.heap.size ≤ W.heap.size ∧ lastEnd (pre.map FR.row) 0 ≤ 4611686018427387904) ∧ Below w.heap.size w W)
    (fun _ _ _ => False)
    (OwnFrom.and (Own.from (fun s X Y row hs hg hrow => ⟨hs.1.kept hg (fun e' => by obtain ⟨o, ho, hc⟩ := hrow _ e'.symm; rw [show X.heap[_]? = _ from hs.1] at ho; cases ho; cases hc), Nat.le_trans hs.2.1 hg.size, hs.2.2⟩) _) (ownFrom_below (Nat.le_refl _) (by omega)))
    (fun _ _ _ _ _ hs _ _ => hs)
    ⟨⟨b0', Nat.le_refl _, Nat.zero_le _⟩, hB1⟩
    (fun x a' W => ∃ g, w1.heap.size ≤ g ∧ W.heap[g]? = some (.cells #[.int .i64 (x.kind : Int), .slice x.addr x.body.length x.cap] 29 (0, 0)) ∧ (x.place ≤ l.length ∧ x.body.length ≤ 70000) ∧ a' = { tmps := #[.slice A n c, undef, .int .i64 0, .int .i64 0, .pointer (some ⟨w.heap.size, 0, none⟩), .int .i64 (x.place : Int), .pointer (some ⟨g, 0, none⟩), undef, undef, undef, .slice A n c,
      .func (.func 37) #[] #[.pointer (some ⟨w.heap.size + 1, 0, none⟩)], .int .i64 (x.place : Int), .agg #[.int .i64 (x.kind : Int), .slice x.addr x.body.length x.cap], undef, undef, undef, undef, undef, undef, undef, undef, undef, undef, undef, undef, undef, undef, undef, undef, undef, undef, undef, undef], defers := [] })
    ?hAx ?assign ?body ?done ?stop
  case hAx =>
    intro x a'
    refine Own.from ?_ _
    rintro _ X Y row ⟨g, h1, h2, h4⟩ hg hrow
    refine ⟨g, h1, ?_, h4⟩
    refine (hg.block g (Array.getElem?_eq_some_iff.1 h2).1 (fun e => ?_)).trans h2
    obtain ⟨o, ho, hc⟩ := hrow g e.symm
    rw [h2] at ho; cases ho; cases hc
  case assign =>
    rintro lp pre x W K ⟨⟨hx0, hsz, hlb⟩, hB⟩ hG hK
    unfold FR.args
    gi_wp2
    exact hK _ _ ((KeepsOthers.alloc _ _).from _) (Mid.of_below ((Below.refl _ W).alloc (Nat.le_refl _) _) hsz) ⟨⟨hx0.alloc _, Nat.le_trans hsz (by simp), hlb⟩, hB.alloc hB.size _⟩ ⟨W.heap.size, hsz, heap_alloc_new W _, hG.2, rfl⟩
  case body =>
    rintro lp pre x a' W ⟨⟨hx0, hsz, hlb⟩, hB⟩ ⟨g, hg1, hg2, ⟨hp1, hp2⟩, rfl⟩ hlt
    have hc0 := hx0.cell
    have hf0 := hx0.frozen
    obtain ⟨hgc0, hgc1⟩ := rec_cells hg2
    have hen : (x.place : Int) + ((x.body.length + 12 : Nat) : Int) = ((x.place + x.body.length + 12 : Nat) : Int) := by omega
    have hlx : lastEnd ((pre ++ [x]).map FR.row) 0 = x.place + x.body.length + 12 := by rw [List.map_append, List.map_singleton, lastEnd_snoc]; rfl
    obtain ⟨E, hE⟩ : ∃ E, x.place + x.body.length + 12 = E := ⟨_, rfl⟩
    rw [hE] at hen hlx
    have hen2 : (x.place : Int) + ((x.body.length : Int) + 12) = (E : Int) := by omega
    have hEb : E ≤ 4611686018427387904 := by omega
    replace hlx := hid hlx
    clear hE
    gi_wp2_with (refine ⟨trivial, ?_⟩; gi_at_call 15; refine (CallsIn.inRound lp (callsIn_wide.2 (size_any x.body.length _ (by omega)))).mono ?_; rintro e w2 ⟨rfl, rfl⟩)
    refine ⟨(KeepsOthers.setCell _ _ _).from _, Mid.of_grown (grownBy_setCell' W w.heap.size _) (fun q e => by cases e; exact .inl (by omega)), ⟨?_, by simpa using hsz, by rw [hlx.out]; exact hEb⟩, hB.setCell (p := ⟨w.heap.size, 0, none⟩) (Nat.le_refl _) _⟩
    rw [hlx.out]
    exact hx0.set _
  case done =>
    rintro D ys W hD hys ⟨⟨hx0, hsz, _⟩, hB⟩ hK
    rw [hys, lastEnd_rowsF] at hx0
    have hc0 := hx0.cell
    have hls := hB1.size
    by_cases hq : endF l = n
    · have hw : Hid (whyF l = 0) := hid (by unfold whyF; rw [if_pos (by rw [hn]; exact hq)])
      have hqb : ((endF l : Int) == (n : Int)) = true := by rw [hq]; simp
      gi_wp2
      refine ⟨by simp, .inl ⟨_, _, rfl, run_takeDeferred hK, ?_⟩⟩
      refine ⟨_, results_tmp2 rfl _ _ _, ?_, hB.trans (belowK_b (w := w) (Nat.le_refl _) W D _ _ (by omega) hK rfl rfl)⟩
      rw [hw.out, hq]
      rfl
    · have hqb : ((endF l : Int) == (n : Int)) = false := by rw [beq_eq_false_iff_ne]; omega
      have htF := takeF_of l (endF l) (by omega)
      rw [if_neg herr] at htF
      have hw : Hid (whyF l = (takeR (l.drop (endF l))).2.2.2) := hid (by unfold whyF; rw [if_neg (by rw [hn]; exact hq)])
      have htk := takeF_in A n c l (endF l) W hn (hr.below hB) hnc hcm hle
      rw [htF] at htk
      generalize (takeR (l.drop (endF l))).2.2.2 = er at htk hw
      obtain ⟨en, hen⟩ : ∃ en, endF l = en := ⟨_, rfl⟩
      rw [hen] at htk hqb hle hx0 hc0
      clear hq htF herr
      replace hen := hid hen
      have hDl := (Array.getElem?_eq_some_iff.1 hK).1
      gi_wp2_with (refine ⟨trivial, ?_⟩; gi_at_call 13; refine (callsIn_wide.2 htk).mono ?_; rintro e w2 ⟨A2, c2, c2', rfl, hown2, hlc2, hcm2, hb2⟩; unfold recV; simp only [List.length_nil] at hlc2 ⊢; have hx2 := Boxed.below hx0 hb2 hx0.lt; have hc2 := (hx2.alloc (.cells #[.int .i64 0, .slice A2 0 c2] 29)).cell; have hK2 : (w2.alloc (.cells #[.int .i64 0, .slice A2 0 c2] 29)).heap[D]? = some (.deferred (some [])) := (Below.heap_alloc w2 _ D (Nat.lt_of_lt_of_le hDl hb2.size)).trans ((hb2.block D hDl).trans hK); have hBw := (hB.trans (hb2.mono hB.size)).alloc (Nat.le_trans hB.size hb2.size) (.cells #[.int .i64 0, .slice A2 0 c2] 29))
      refine ⟨by simp, .inl ⟨_, _, rfl, run_takeDeferred hK2, ?_⟩⟩
      refine ⟨_, results_tmp2 rfl _ _ _, ?_, hBw.trans (belowK_b (w := w) (Nat.le_refl _) _ D _ _ (by omega) hK2 rfl rfl)⟩
      rw [hw.out, hen.out]
      rfl
  case stop =>
    rintro D c pre W _ _ h _
    exact h.elim
end Go.Proofs.Ytcmbdbphddokmaa
