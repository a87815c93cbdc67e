/-
  THE WALKS of num.All and of what it hands back.
-/
import Derived.Test.YtkaigeodeabicaaNumD
import Derived.Test.YtkaigeodeabicaaPlainRows
import Derived.Test.YtkaigeodeabicaaBox
namespace Go.Proofs.Ytkaigeodeabicaa
open Go.RowKit Go.Shelf
attribute [local go_sem] Oper.semAt_some

/-- What All hands back: a function value over a box that holds a slice that reads as l, all of it in the blocks from w's size on. -/
def AllP (l : List UInt8) (w : World) (e : Ending) (w' : World) : Prop :=
  ∃ A c, e = .returned (.func (.func 27) #[] #[.pointer (some ⟨w.heap.size, 0, none⟩)]) ∧ w'.cell? ⟨w.heap.size, 0, none⟩ = some (.slice A l.length c) ∧ l.length ≤ c ∧ c ≤ maxLen ∧ w.heap.size < w'.heap.size ∧
    RdM w.heap.size w'.heap.size w' A (cb l) ∧ Below w.heap.size w w'

set_option maxHeartbeats 1000000 in
theorem all_any (A : Option Addr) (n : Nat) (l : List UInt8) (c : Nat) (w : World) (hn : l.length = n) (hr : Rd w A (cb l)) (hA : A = none → l = []) (hl : n ≤ 140737488355328) :
    Calls Try.prog 26 #[.slice A n c] w (AllP l w) := by
  subst hn
  have hbx := Boxed.new w 23 (.slice A l.length c)
  go_enter Try.func26, Try.ntmps26
  have hcx := hbx.cell
  go_wp2_with fail
  refine (clone_any A l c _ (hr.alloc _) hA hl).mono ?_
  rintro e w1 ⟨A1, c1, rfl, hown1, hb1⟩
  have hbx1 : Boxed w1 w.heap.size 23 (.slice A l.length c) := (hb1.block w.heap.size (by simp)).trans hbx
  have hc1 := hbx1.cell
  have hf1 := hbx1.frozen
  have hcap := own_cap hown1
  have hs1 := hb1.size
  have hb0 : Below w.heap.size w w1 := ((Below.refl _ w).alloc (Nat.le_refl _) _).trans (hb1.mono (by simp))
  simp at hs1
  have hown2 := owns_far hown1 (b := w.heap.size) (by simp) (.slice A1 l.length c1)
  have hbx2 := hbx1.set (.slice A1 l.length c1)
  have hb2 := hb0.setCell (p := ⟨w.heap.size, 0, none⟩) (Nat.le_refl _) (.slice A1 l.length c1)
  go_wp2
  go_ret
  exact ⟨A1, c1, rfl, hbx2.cell, hcap.1, hcap.2, by simp; omega, RdM.of_own (owns_mono hown2 (by simp)) (Nat.le_refl _), hb2⟩

set_option maxRecDepth 100000 in
set_option maxHeartbeats 2000000 in
/-- **What All hands back tells the numbers one by one.** -/
theorem all_stops (lo hi Bb : Nat) (A : Option Addr) (c : Nat) (l : List UInt8) (w : World) (hlc : l.length ≤ c) (hc : c ≤ maxLen) (hl : l.length ≤ 140737488355328) (hB1 : lo ≤ Bb) (hB2 : Bb < hi) (hhi : hi ≤ w.heap.size)
    (hcell : w.cell? ⟨Bb, 0, none⟩ = some (.slice A l.length c)) (hr : RdM lo hi w A (cb l)) :
    SeqStopsK Fence.wide 4 Try.prog 27 #[.pointer (some ⟨Bb, 0, none⟩)] (fun x : Nat × Nat => #[Value.int .i64 (x.1 : Int), Value.int .u64 (x.2 : Int)]) (Mid lo hi) (fun ys => ys = rows l) (fun pre => pre <+: rows l) (rows l).length w := by
  intro lp J Jx W hW _ _ hY h0
  have hrl := rows_length l
  refine callsIn_of_wp Try.func27 rfl trivial ?_ rfl
  simp only [Try.ntmps27, List.size_toArray, List.length_cons, List.length_nil, Nat.reduceAdd, Nat.reduceSub, Array.replicate_succ, Array.replicate_zero, List.push_toArray, List.append_toArray, List.nil_append, List.cons_append]
  gi_wp2
  gi_loopw [3] (fun i wr => ∃ (k : Nat) (pre : List (Nat × Nat)), k ≤ l.length ∧ i = .int .i64 k ∧ Hid (rows l = pre ++ restR l k) ∧ J pre wr ∧ Mid lo hi W wr)
    (fun i _ => l.length - (intOf i).toNat)
  case atStart => exact ⟨0, [], Nat.zero_le _, rfl, hid rfl, h0, Mid.refl _ _ _⟩
  case round =>
    obtain ⟨k, pre, hk, rfl, hpre, hJs, hmid⟩ := hrel
    have hmw : Mid lo hi w wr := (Mid.of_below hW hhi).trans hmid
    have hcx : wr.cell? ⟨Bb, 0, none⟩ = some (.slice A l.length c) := (hmw.cell hB1 hB2 (by omega)).trans hcell
    have hrx := hr.mid hmw
    unfold maxLen at hc
    by_cases hlt : k < l.length
    · obtain ⟨t, ht⟩ : ∃ t, take (l.drop k) = t := ⟨_, rfl⟩
      obtain ⟨n1, sz, er⟩ := t
      have hrd : Rd wr (Option.map (fun x => x.add k) A) (cb (l.drop k)) := by have h := hrx.rd.drop k; rwa [cb_drop] at h
      have hdl : Hid ((l.drop k).length = l.length - k) := hid List.length_drop
      have hck : ¬ c = k := by omega
      by_cases he : er = 0
      · subst he
        have hst := restR_step l k hlt (by rw [ht])
        rw [ht] at hst
        have hsz := take_size (l := l.drop k) (by rw [ht])
        rw [ht, hdl.out] at hsz
        simp only at hsz
        have hpl : pre.length < (rows l).length := by rw [hpre.out, hst]; simp
        obtain ⟨fn, tmps, assign, body, hy, hR⟩ := hY pre (k, n1) wr hJs hpl
        dsimp only at hy
        replace ht := hid ht
        replace hst := hid hst
        gi_wp2_with (refine ⟨trivial, ?_⟩; gi_at_call 11; refine (callsIn_wide.2 (take_n _ (l.length - k) (l.drop k) (c - k) _ hdl.out hrd (by omega))).mono ?_; rintro e w1 ⟨rfl, rfl⟩; rw [ht.out]; unfold tup3)
        refine hR.mono ?_
        rintro e W3 (⟨rfl, hJ3, hk3⟩ | ⟨rfl, hJx3⟩)
        · gi_wp2
          go_roundw
          case rel => exact ⟨k + sz, pre ++ [(k, n1)], by omega, by go_num, hid (by rw [hpre.out, hst.out]; simp), hJ3, hmid.trans hk3⟩
          case measure => simp [intOf]; omega
        · gi_wp2
          refine bodyPost_ret (results_none rfl _ _ _) rfl ?_
          exact ⟨⟨_, rfl⟩, .inr ⟨pre ++ [(k, n1)], ⟨restR l (k + sz), by rw [hpre.out, hst.out]; simp⟩, hJx3⟩⟩
      · have hst := hid (restR_bad l k (by rw [ht]; exact he))
        have heb : ((er : Int) != 0) = true := by simp; omega
        replace ht := hid ht
        gi_wp2_with (refine ⟨trivial, ?_⟩; gi_at_call 11; refine (callsIn_wide.2 (take_n _ (l.length - k) (l.drop k) (c - k) _ hdl.out hrd (by omega))).mono ?_; rintro e w1 ⟨rfl, rfl⟩; rw [ht.out]; unfold tup3)
        refine ⟨fun _ h => (by cases h), ?_⟩
        gi_wp2
        refine bodyPost_ret (results_none rfl _ _ _) rfl ?_
        exact ⟨⟨_, rfl⟩, .inl ⟨_, rfl, by rw [hpre.out, hst.out, List.append_nil]; exact hJs⟩⟩
    · obtain rfl : k = l.length := by omega
      have hst := hid (restR_end l l.length (Nat.le_refl _))
      gi_wp2
      go_end0
      exact ⟨⟨_, rfl⟩, .inl ⟨_, rfl, by rw [hpre.out, hst.out, List.append_nil]; exact hJs⟩⟩
end Go.Proofs.Ytkaigeodeabicaa
