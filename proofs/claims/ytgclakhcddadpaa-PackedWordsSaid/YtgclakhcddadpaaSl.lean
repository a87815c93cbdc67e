/-
  THE WALKS: slices.Clone and slices.Clip at []byte.
-/
import Derived.Test.YtgclakhcddadpaaRows
import Derived.Test.YtgclakhcddadpaaMem
namespace Go.Proofs.Ytgclakhcddadpaa
open Go.RowKit

theorem info_u8 : (Try.prog.info? 5).map (fun i => (i.zero, i.size, i.bytes)) = some (some (.int .u8 0), 1, 1) := by kernel_rfl

set_option maxHeartbeats 400000 in
theorem clone_any (A : Option Addr) (l : List UInt8) (c : Nat) (w : World) (hr : Rd w A (cb l)) (hA : A = none → l = []) (hl : l.length ≤ 140737488355328) :
    Calls Try.prog 63 #[.slice A l.length c] w (Res 5 l.length (cb l) w) := by
  obtain ⟨i0, hi, hz0, hz1, hz2⟩ := info_parts info_u8
  have heq := fun (w : World) (a : Option Addr) (n c : Nat) => Lib.run_eql_slice_nil (P := Try.prog) w 23 5 a n c 0 0 Try.underlying23
  rcases A with _ | a
  · obtain rfl := hA rfl
    go_enter Try.func63, Try.ntmps63
    go_wp2
    go_ret
    exact ⟨none, 0, rfl, World.ownsRow_nil _ _ _ _, Below.refl _ _⟩
  · have h0 := own_empty w 5
    go_enter Try.func63, Try.ntmps63
    go_wp2_with (at_builtin; refine wpList_app _ rfl (.tmp 5) (.tmp 6) 23 rfl w.heap.size 5 i0 (.int .u8 0) 1 Try.underlying23 hi hz0 hz1 hz2 rfl _ _ _ _ rfl h0 _ _ _ _ rfl (hr.alloc _) (cb_length l) (cb_one l) ?c1 ?c2 ?c3 ?_)
    case c1 => unfold maxLen; omega
    case c2 => omega
    case c3 => simp
    intro A' c' w' hown hg hb _
    go_wp2
    go_ret
    exact ⟨A', c', rfl, hown, (((Below.refl _ w).alloc (Nat.le_refl _) _)).trans hb⟩

theorem clip_any (A : Option Addr) (n c : Nat) (w : World) (hn : n ≤ c) (hc : c ≤ maxLen) :
    Calls Try.prog 64 #[.slice A n c] w fun e w' => e = .returned (.slice A n n) ∧ w = w' := by
  unfold maxLen at hc
  go_enter Try.func64, Try.ntmps64
  go_wp2
  go_ret
  exact ⟨rfl, rfl⟩

end Go.Proofs.Ytgclakhcddadpaa
