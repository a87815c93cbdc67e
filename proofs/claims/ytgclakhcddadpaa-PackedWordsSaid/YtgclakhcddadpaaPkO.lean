/-
  THE WALK of the law's own awake.
-/
import Derived.Test.YtgclakhcddadpaaPkB16
import Derived.Test.YtgclakhcddadpaaPkG16
import Derived.Test.YtgclakhcddadpaaPkV8
namespace Go.Proofs.Ytgclakhcddadpaa
open Go.RowKit

/-- A law's answer: true; nothing that was there has turned. -/
def Yes (w : World) (e : Ending) (w' : World) : Prop := e = .returned (.bool true) ∧ Below w.heap.size w w'

theorem pack_123 : packAll 3 [1, 2, 3] = [3, 3, 209, 0] := by
  unfold packAll
  rw [put_small (by decide)]
  decide +kernel
theorem widthL_123 : widthL [1, 2, 3] = 2 := by decide +kernel
theorem widthL_5 : widthL [5] = 3 := by decide +kernel

set_option maxHeartbeats 2000000 in
set_option maxRecDepth 100000 in
theorem awake_any (w : World) : Calls Try.prog 11 #[] w (Yes w) := by
  have hm3 : Hid (∀ x ∈ [1, 2, 3], x < 65536) := hid (by decide)
  have hm5 : Hid (∀ x ∈ [5], x < 256) := hid (by decide)
  go_enter Try.func11, Try.ntmps11
  go_wp2_with fail
  refine (newOk16 3 (some ⟨w.heap.size, 0, none⟩) 3 [1, 2, 3] 3 _ rfl (Rd.block w [.int .u16 1, .int .u16 2, .int .u16 3] _) (fun h => by cases h) (by omega) hm3 (by omega) (by rw [widthL_123]; omega)).mono ?_
  rintro e w1 ⟨g, rfl, hg, hv1, hb1⟩
  have hb1' : Below w.heap.size w w1 := ((Below.refl _ w).alloc (Nat.le_refl _) _).trans (hb1.mono (by simp))
  have hpp : ∀ wx, (binOp BinOp.neq 43 (.pointer (some ⟨g, 0, none⟩)) (.pointer none)).run Try.prog wx = .ok (.bool true) wx := fun wx => by rfl
  go_wp2_with fail
  refine (bytes16 g 3 3 [1, 2, 3] _ hv1 (by omega) rfl (by omega) hm3).mono ?_
  rintro e w2 ⟨A2, c2, rfl, hown2, hb2⟩
  rw [pack_123] at hown2 ⊢
  have hv2 := hv1.below hb2
  have hb2' := hb1'.trans (hb2.mono hb1'.size)
  have hcs := run_strn w2 23 9 5 Try.underlying23 Try.underlying5 Try.underlying9 A2 4 [3, 3, 209, 0] c2 rfl (Rd.of_own hown2)
  have hgg : getN16 [1, 2, 3] 1 = 2 := rfl
  go_wp2_with fail
  refine (get16 g 3 3 [1, 2, 3] 1 _ hv2 rfl (by omega)).mono ?_
  rintro e w3 ⟨rfl, rfl⟩
  rw [hgg]
  go_wp2_with fail
  refine (width8 (some ⟨w2.heap.size, 0, none⟩) 1 [5] 1 _ rfl (Rd.block w2 [.int .u8 5] _) (by omega) hm5).mono ?_
  rintro e w3 ⟨rfl, rfl⟩
  rw [widthL_5]
  go_wp2_with fail
  go_ret
  exact ⟨rfl, hb2'.alloc hb2'.size _⟩
end Go.Proofs.Ytgclakhcddadpaa
