/-
  THE WALKS of frame.All and of what it hands back.
-/
import Derived.Test.YtcmbdbphddokmaaFrmD
import Derived.Test.YtcmbdbphddokmaaPlainFrmR
import Derived.Test.YtcmbdbphddokmaaBox
namespace Go.Proofs.Ytcmbdbphddokmaa
open Go.RowKit Go.Shelf
attribute [local go_sem] Oper.semAt_some

/-- What All hands back: a function value over a box that holds a slice that reads as l, all of it in the blocks from w's size on. -/
def AllP (l : List UInt8) (w : World) (e : Ending) (w' : World) : Prop :=
  ∃ A c, e = .returned (.func (.func 37) #[] #[.pointer (some ⟨w.heap.size, 0, none⟩)]) ∧ w'.cell? ⟨w.heap.size, 0, none⟩ = some (.slice A l.length c) ∧ l.length ≤ c ∧ c ≤ maxLen ∧ w.heap.size < w'.heap.size ∧
    RdM w.heap.size w'.heap.size w' A (cb l) ∧ Below w.heap.size w w'

set_option maxHeartbeats 1000000 in
theorem all_any (A : Option Addr) (n : Nat) (l : List UInt8) (c : Nat) (w : World) (hn : l.length = n) (hr : Rd w A (cb l)) (hA : A = none → l = []) (hl : n ≤ 140737488355328) :
    Calls Try.prog 28 #[.slice A n c] w (AllP l w) := by
  subst hn
  have hbx := Boxed.new w 22 (.slice A l.length c)
  go_enter Try.func28, Try.ntmps28
  have hcx := hbx.cell
  go_wp2_with fail
  refine (clone_any A l c _ (hr.alloc _) hA hl).mono ?_
  rintro e w1 ⟨A1, c1, rfl, hown1, hb1⟩
  have hbx1 : Boxed w1 w.heap.size 22 (.slice A l.length c) := (hb1.block w.heap.size (by simp)).trans hbx
  have hc1 := hbx1.cell
  have hf1 := hbx1.frozen
  have hcap := own_cap hown1
  have hs1 := hb1.size
  have hb0 : Below w.heap.size w w1 := ((Below.refl _ w).alloc (Nat.le_refl _) _).trans (hb1.mono (by simp))
  simp at hs1
  have hown2 := owns_far hown1 (b := w.heap.size) (by simp) (.slice A1 l.length c1)
  have hbx2 := hbx1.set (.slice A1 l.length c1)
  have hb2 := hb0.setCell (p := ⟨w.heap.size, 0, none⟩) (Nat.le_refl _) (.slice A1 l.length c1)
  go_wp2
  go_ret
  exact ⟨A1, c1, rfl, hbx2.cell, hcap.1, hcap.2, by simp; omega, RdM.of_own (owns_mono hown2 (by simp)) (Nat.le_refl _), hb2⟩

/-- A record that a loop over All is handed: its place, its kind, its body as a slice, what the body reads as. -/
structure FR where
  place : Nat
  kind : Nat
  addr : Option Addr
  cap : Nat
  body : List UInt8

def FR.row (x : FR) : Nat × Nat × List UInt8 := (x.place, x.kind, x.body)
def FR.args (x : FR) : Array Value := #[.int .i64 (x.place : Int), .agg #[.int .i64 (x.kind : Int), .slice x.addr x.body.length x.cap]]

/-- Its body lies in memory of its own from block B on. -/
def Lies (B : Nat) (x : FR) (W : World) : Prop := ∃ c', W.ownsRow B 5 1 (.slice x.addr x.body.length c') x.body.length (cb x.body) ∧ x.body.length ≤ x.cap ∧ x.cap ≤ maxLen

/-- WHAT AN ITERATOR GIVES whose rounds may lean on what G says of what they are handed, in the world in which they are handed it. -/
def SeqStopsG {α : Type} (F : Fence) (n : Nat) (P : Program) (g : Nat) (lb : Array Value) (encs : α → Array Value) (G : α → World → Prop) (Kp : World → World → Prop) (S Sp : List α → Prop) (N : Nat) (w : World) : Prop :=
  ∀ (l : Nat) (J Jx : List α → World → Prop) (W : World), Below w.heap.size w W → AbidesFrom W.heap.size J → AbidesFrom W.heap.size Jx →
    (∀ pre x W1, J pre W1 → G x W1 → pre.length < N → YieldAt F (n - 1) P l (encs x) W1 fun e W' =>
      (e = .returned (.bool true) ∧ J (pre ++ [x]) W' ∧ Kp W1 W') ∨ (e = .returned (.bool false) ∧ Jx (pre ++ [x]) W')) →
    J [] W →
    CallsIn F n P g (#[.func (.yield l) #[] #[]] ++ lb) W fun e W' => (∃ v, e = .returned v) ∧ ((∃ xs, S xs ∧ J xs W') ∨ (∃ pre, Sp pre ∧ Jx pre W'))

set_option maxRecDepth 100000 in
set_option maxHeartbeats 4000000 in
/-- **What All hands back tells the records one by one.** -/
theorem all_stops (lo hi Bb : Nat) (A : Option Addr) (c : Nat) (l : List UInt8) (w : World) (hlc : l.length ≤ c) (hc : c ≤ maxLen) (hB1 : lo ≤ Bb) (hB2 : Bb < hi) (hhi : hi ≤ w.heap.size)
    (hcell : w.cell? ⟨Bb, 0, none⟩ = some (.slice A l.length c)) (hr : RdM lo hi w A (cb l)) :
    SeqStopsG Fence.wide 4 Try.prog 37 #[.pointer (some ⟨Bb, 0, none⟩)] FR.args (fun x W => Lies hi x W ∧ x.place ≤ l.length ∧ x.body.length ≤ 70000) (Mid lo hi) (fun ys => ys.map FR.row = rowsF l) (fun pre => pre.map FR.row <+: rowsF l) (rowsF l).length w := by
  intro lp J Jx W hW hJ _ hY h0
  refine callsIn_of_wp Try.func37 rfl trivial ?_ rfl
  simp only [Try.ntmps37, List.size_toArray, List.length_cons, List.length_nil, Nat.reduceAdd, Nat.reduceSub, Array.replicate_succ, Array.replicate_zero, List.push_toArray, List.append_toArray, List.nil_append, List.cons_append]
  have hc' := hc
  unfold maxLen at hc'
  gi_wp2
  gi_loopw [3] (fun i wr => ∃ (k : Nat) (pre : List FR), k ≤ l.length ∧ i = .int .i64 k ∧ Hid (rowsF l = pre.map FR.row ++ restF l k) ∧ J pre wr ∧ Mid lo hi W wr)
    (fun i _ => l.length - (intOf i).toNat)
  case atStart => exact ⟨0, [], Nat.zero_le _, rfl, hid rfl, h0, Mid.refl _ _ _⟩
  case round =>
    obtain ⟨k, pre, hk, rfl, hpre, hJs, hmid⟩ := hrel
    have hmw : Mid lo hi w wr := (Mid.of_below hW hhi).trans hmid
    have hcx : wr.cell? ⟨Bb, 0, none⟩ = some (.slice A l.length c) := (hmw.cell hB1 hB2 (by omega)).trans hcell
    have hrx := (hr.mid hmw).rd
    have hsw := hmw.size
    have hJg : ∀ (X : World), J pre wr → Below wr.heap.size wr X → J pre X := fun X hj hx => hJ pre wr X none hj ⟨hx.os, hx.tape, hx.output, hx.size, fun k hk _ => hx.block k hk⟩ (fun r e => by cases e)
    by_cases hlt : k < l.length
    · obtain ⟨t, ht⟩ : ∃ t, takeR (l.drop k) = t := ⟨_, rfl⟩
      have htF := takeF_of l k (by omega)
      rw [ht] at htF
      obtain ⟨kd, q, sz, er⟩ := t
      simp only [] at htF
      by_cases he : er = 0
      · subst he
        rw [if_pos rfl] at htF
        have hst := restF_step l k hlt (by rw [ht])
        rw [ht] at hst
        have hsz := takeR_ok (l.drop k) (by rw [ht])
        rw [ht, List.length_drop] at hsz
        simp only at hsz
        have hpl : pre.length < (rowsF l).length := by rw [hpre.out, hst]; simp
        have htk := takeF_in A l.length c l k wr rfl hrx hlc hc (by omega)
        rw [htF] at htk
        replace ht := hid ht
        replace hst := hid hst
        replace htF := hid htF
        gi_wp2_with (refine ⟨trivial, ?_⟩; gi_at_call 13; refine (callsIn_wide.2 htk).mono ?_; rintro e w1 ⟨A1, c1, c1', rfl, hown1, hlc1, hcm1, hb1⟩; unfold recV; simp only [] at hown1 hlc1 ⊢; obtain ⟨fn, tmps, assign, body, hy, hR⟩ := hY pre ⟨k, kd, A1, c1, q⟩ (w1.alloc (.cells #[.int .i64 (kd : Int), .slice A1 q.length c1] 29)) (hJg _ hJs (hb1.alloc hb1.size _)) ⟨⟨c1', owns_mono (hown1.alloc _) (by omega), hlc1, hcm1⟩, by show k ≤ l.length; omega, by show q.length ≤ 70000; omega⟩ hpl; dsimp only [FR.args] at hy)
        refine hR.mono ?_
        rintro e W3 (⟨rfl, hJ3, hk3⟩ | ⟨rfl, hJx3⟩)
        · gi_wp2
          go_roundw
          case rel => exact ⟨k + sz, pre ++ [⟨k, kd, A1, c1, q⟩], by omega, by go_num, hid (by rw [hpre.out, hst.out]; simp [FR.row]), hJ3, (hmid.trans (Mid.of_below (hb1.alloc hb1.size _) (by omega))).trans hk3⟩
          case measure => simp [intOf]; omega
        · gi_wp2
          refine bodyPost_ret (results_none rfl _ _ _) rfl ?_
          exact ⟨⟨_, rfl⟩, .inr ⟨pre ++ [⟨k, kd, A1, c1, q⟩], ⟨restF l (k + sz), by rw [hpre.out, hst.out]; simp [FR.row]⟩, hJx3⟩⟩
      · rw [if_neg he] at htF
        have hst := hid (restF_bad l k (by rw [ht]; exact he))
        have heb : ((er : Int) != 0) = true := by simp; omega
        have htk := takeF_in A l.length c l k wr rfl hrx hlc hc (by omega)
        rw [htF] at htk
        replace ht := hid ht
        replace htF := hid htF
        gi_wp2_with (refine ⟨trivial, ?_⟩; gi_at_call 13; refine (callsIn_wide.2 htk).mono ?_; rintro e w1 ⟨A1, c1, c1', rfl, hown1, hlc1, hcm1, hb1⟩; unfold recV; simp only [List.length_nil] at hown1 hlc1 ⊢; have hJ1 := hJg _ hJs (hb1.alloc hb1.size (.cells #[.int .i64 0, .slice A1 0 c1] 29)))
        refine ⟨fun _ h => (by cases h), ?_⟩
        gi_wp2
        refine bodyPost_ret (results_none rfl _ _ _) rfl ?_
        exact ⟨⟨_, rfl⟩, .inl ⟨_, by rw [hpre.out, hst.out, List.append_nil], hJ1⟩⟩
    · obtain rfl : k = l.length := by omega
      have hst := hid (restF_end l l.length (Nat.le_refl _))
      gi_wp2
      go_end0
      exact ⟨⟨_, rfl⟩, .inl ⟨_, by rw [hpre.out, hst.out, List.append_nil], hJs⟩⟩
end Go.Proofs.Ytcmbdbphddokmaa
