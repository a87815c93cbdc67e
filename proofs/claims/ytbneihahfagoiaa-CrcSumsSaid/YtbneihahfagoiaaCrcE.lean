/-
  THE WALK of the law's own awake.
-/
import Derived.Test.YtbneihahfagoiaaCrcD
import Derived.Lib.SlBytesConst
namespace Go.Proofs.Ytbneihahfagoiaa
open Go.RowKit

/-- A law's answer: true; nothing that was there has turned. -/
def Yes (w : World) (e : Ending) (w' : World) : Prop := e = .returned (.bool true) ∧ Below w.heap.size w w'

/-- A new block, marked or not, read as a list. -/
theorem Rd.marked (w : World) (cs : List Value) (t : TypeId) (f : Nat × Nat) : Rd (w.alloc (.cells cs.toArray t f)) (some ⟨w.heap.size, 0, none⟩) cs := fun _ =>
  ⟨w.heap.size, 0, rfl, by simp, fun j u hu => by
    simp only [World.cell?, World.alloc, Array.getElem?_push]
    simpa using hu⟩

theorem sum_digits : ((sum [49, 50, 51, 52, 53, 54, 55, 56, 57]).toNat : Int) = 3808858755 := by decide +kernel
theorem sum_nil : ((sum []).toNat : Int) = 0 := by decide +kernel

set_option maxHeartbeats 1000000 in
set_option maxRecDepth 100000 in
theorem awake_any (w : World) : Calls Try.prog 9 #[] w (Yes w) := by
  have kc := fun (w : World) (C : Array Value) (n c : Nat) => Lib.run_convert_bytes_const (P := Try.prog) w 22 5 C n c Try.underlying22 Try.underlying5
  go_enter Try.func9, Try.ntmps9
  go_wp2_with fail
  refine (seal_any _ 1 [120] 1 _ rfl (Rd.marked w (cb [120]) _ _) (by omega)).mono ?_
  rintro e w1 ⟨A1, c1, rfl, hown1, hb1⟩
  have hcap := own_cap hown1
  have hb1' := ((Below.refl _ w).alloc (Nat.le_refl _) (.cells (cb [120]).toArray 5 ((cb [120]).toArray.size, (cb [120]).toArray.size + 1))).trans (hb1.mono (by simp))
  go_wp2_with fail
  refine (open_any _ 5 (seal_ [120]) c1 _ rfl (Rd.of_own hown1) (fun h => by obtain ⟨g, hg, _⟩ := own_addr hown1 (by omega); rw [h] at hg; cases hg) hcap.1 hcap.2 (by omega)).mono ?_
  rintro e w2 ⟨A2, c2, rfl, hown2, hb2⟩
  have hw2 : Below w.heap.size w w2 := hb1'.trans (hb2.mono hb1'.size)
  rw [open_seal] at hown2 ⊢
  go_wp2_with fail
  refine (sum_any _ 9 [49, 50, 51, 52, 53, 54, 55, 56, 57] 9 _ rfl (Rd.marked w2 (cb [49, 50, 51, 52, 53, 54, 55, 56, 57]) _ _) (by omega)).mono ?_
  rintro e w3 ⟨rfl, hb3⟩
  rw [sum_digits]
  go_wp2_with fail
  refine (sum_any none 0 [] 0 _ rfl (Rd.nil _ _) (by omega)).mono ?_
  rintro e w4 ⟨rfl, hb4⟩
  rw [sum_nil]
  have hw4 : Below w.heap.size w w4 := ((hw2.alloc hw2.size _).trans (hb3.mono (by simp; exact Nat.le_succ_of_le hw2.size))).trans (hb4.mono (by have := hb3.size; simp at this; have := hw2.size; omega))
  have hr2 : Rd w4 A2 (cb [120]) := ((((Rd.of_own hown2).alloc _).below hb3).below hb4)
  go_wp2_with (first | (simp only [run_strn w4 22 9 5 Try.underlying22 Try.underlying5 Try.underlying9 A2 1 [120] 1 rfl hr2]) | fail)
  go_ret
  exact ⟨rfl, hw4⟩
end Go.Proofs.Ytbneihahfagoiaa
