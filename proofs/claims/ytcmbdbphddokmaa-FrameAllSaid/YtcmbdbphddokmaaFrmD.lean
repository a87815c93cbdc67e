/-
  THE WALKS: the law's own awake; FrameTakes.
-/
import Derived.Test.YtcmbdbphddokmaaRefH
namespace Go.Proofs.Ytcmbdbphddokmaa
open Go.RowKit

/-- A law's answer: true; nothing that was there has turned. -/
def Yes (w : World) (e : Ending) (w' : World) : Prop := e = .returned (.bool true) ∧ Below w.heap.size w w'

theorem takeF_frame (l : List UInt8) (k : Nat) (b rest : List UInt8) (h1 : 1 ≤ k) (h2 : k ≤ 250) (h3 : b.length ≤ 70000) : takeF (l ++ (frameB k b ++ rest)) l.length = (k, b, l.length + (b.length + 12), 0) := by
  unfold takeF
  rw [if_neg (by rw [List.length_append]; omega), List.drop_left, takeR_frame k b rest h1 h2 h3, if_pos rfl]

theorem take_one : takeF (frameB 1 []) 0 = (1, [], 12, 0) := by
  have h := takeF_frame [] 1 [] [] (by omega) (by omega) (by simp)
  simpa using h

set_option maxHeartbeats 1000000 in
set_option maxRecDepth 100000 in
theorem awake_any (w : World) : Calls Try.prog 10 #[] w (Yes w) := by
  go_enter Try.func10, Try.ntmps10
  go_wp2_with fail
  refine (putF_any none 0 0 [] 1 none 0 0 [] w rfl (Rd.nil _ _) (by omega) (by omega) (by omega) rfl (Rd.nil _ _) (by omega)).mono ?_
  rintro e w1 ⟨A1, c1, rfl, hown1, hb1⟩
  have hcap := own_cap hown1
  go_wp2_with fail
  refine (takeF_in A1 12 c1 (frameB 1 []) 0 w1 (frameB_length 1 []) (Rd.of_own hown1) hcap.1 hcap.2 (by omega)).mono ?_
  rintro e w2 ⟨A2, c2, c2', rfl, hrd2, hlc2, hcm2, hb2⟩
  rw [take_one] at hrd2 hlc2 ⊢
  have hb2' := hb1.trans (hb2.mono hb1.size)
  unfold recV
  simp only [List.length_nil] at hlc2 ⊢
  go_wp2_with (go_at_call 15; refine (size_any 5 _ (by omega)).mono ?_; rintro e w3 ⟨rfl, rfl⟩)
  go_ret
  exact ⟨rfl, hb2'.alloc hb2'.size _⟩

set_option maxHeartbeats 2000000 in
set_option maxRecDepth 100000 in
theorem takes_core (t : Nat × List UInt8 × Nat × Nat) (A : Option Addr) (n c : Nat) (l : List UInt8) (p : Int) (w : World) (hn : l.length = n) (hr : Rd w A (cb l))
    (h1 : Calls Try.prog 13 #[.slice A n c, .int .i64 p] w (TakeP t w)) (h2 : ∀ w, Calls Try.prog 16 #[.string ⟨l.toArray⟩, .int .i64 p] w (UnP t w)) :
    Calls Try.prog 4 #[.slice A n c, .int .i64 p] w (Yes w) := by
  obtain ⟨k, q, x, er⟩ := t
  unfold TakeP UnP recV at *
  simp only [] at h1 h2
  replace hn := hid hn
  go_enter Try.func4, Try.ntmps4
  go_wp2_with fail
  refine h1.mono ?_
  rintro e w1 ⟨A1, c1, c1', rfl, hown1, hlc1, hcm1, hb1⟩
  have hrd1 := Rd.of_own hown1
  clear hown1
  have hcv := fun o => run_strn (P := Try.prog) (w1.alloc o) 22 9 5 Try.underlying22 Try.underlying5 Try.underlying9 A n l c hn.out ((hr.below hb1).alloc o)
  have hb1' : Below w.heap.size w (w1.alloc (.cells #[.int .i64 (k : Int), .slice A1 q.length c1] 29)) := hb1.alloc hb1.size _
  have hbx : (w1.alloc (.cells #[.int .i64 (k : Int), .slice A1 q.length c1] 29)).heap[w1.heap.size]? = some (.cells #[.int .i64 (k : Int), .slice A1 q.length c1] 29 (0, 0)) := heap_alloc_new w1 _
  have hrd1' := hrd1.alloc (.cells #[.int .i64 (k : Int), .slice A1 q.length c1] 29)
  go_wp2_with fail
  refine (h2 _).mono ?_
  rintro e w2 ⟨rfl, hb2⟩
  have hbx2 := (hb2.block w1.heap.size (by simp)).trans hbx
  obtain ⟨hk0, hk1⟩ := rec_cells hbx2
  have hcv2 := run_strn (P := Try.prog) w2 22 9 5 Try.underlying22 Try.underlying5 Try.underlying9 A1 q.length q c1 rfl (hrd1'.below hb2)
  have hbw2 := hb1'.trans (hb2.mono hb1'.size)
  clear hcv h1 h2
  go_wp2_with (go_at_call 10; refine (awake_any _).mono ?_; rintro e w3 ⟨rfl, hb3⟩)
  go_ret
  exact ⟨rfl, hbw2.trans (hb3.mono hbw2.size)⟩

theorem takes_walk (A : Option Addr) (n c : Nat) (l : List UInt8) (p : Int) (w : World) (hn : l.length = n) (hr : Rd w A (cb l)) (hnc : n ≤ c) (hcm : c ≤ maxLen) :
    Calls Try.prog 4 #[.slice A n c, .int .i64 p] w (Yes w) := by
  have hcm' := hcm
  unfold maxLen at hcm'
  by_cases hp : p < 0 ∨ (n : Int) < p
  · exact takes_core _ A n c l p w hn hr (takeF_out A n c p w hp) (fun w => unF_out l p w (by omega) (by rw [hn]; exact hp))
  · obtain ⟨k, rfl⟩ := Int.eq_ofNat_of_zero_le (show 0 ≤ p by omega)
    exact takes_core _ A n c l k w hn hr (takeF_in A n c l k w hn hr hnc hcm (by omega)) (fun w => unF_in n l k w hn (by omega) (by omega))
end Go.Proofs.Ytcmbdbphddokmaa
