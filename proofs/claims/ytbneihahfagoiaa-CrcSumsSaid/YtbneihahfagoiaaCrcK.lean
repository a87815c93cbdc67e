/-
  THE WALK of crc.Parts.
-/
import Derived.Test.YtbneihahfagoiaaCrcH
namespace Go.Proofs.Ytbneihahfagoiaa
open Go.RowKit

/-- A row of rows of bytes. -/
def PartsAt (w : World) (A : Option Addr) (n : Nat) (ls : List (List UInt8)) : Prop :=
  ls.length = n ∧ ∃ vs : List Value, Rd w A vs ∧ vs.length = n ∧ ∀ (j : Nat) (l : List UInt8), ls[j]? = some l → ∃ (Aj : Option Addr) (cj : Nat), vs[j]? = some (Value.slice Aj l.length cj) ∧ Rd w Aj (cb l) ∧ l.length ≤ 140737488355328

set_option maxHeartbeats 1000000 in
set_option maxRecDepth 100000 in
theorem parts_any (A : Option Addr) (n : Nat) (c : Nat) (ls : List (List UInt8)) (w : World) (h : PartsAt w A n ls) (hn : n ≤ 140737488355328) :
    Calls Try.prog 15 #[.slice A n c] w fun e w' => e = .returned (.int .u32 ((ls.foldl more 0#32).toNat : Int)) ∧ Below w.heap.size w w' := by
  obtain ⟨hls, vs, hvs, hvn, hall⟩ := h
  replace hls := hid hls
  replace hvn := hid hvn
  go_enter Try.func15, Try.ntmps15
  go_wp2
  go_loopw [3, 8] (fun s i wr => ∃ (j : Nat) (r : Reg), i = .int .i64 j ∧ j ≤ n ∧ s = .int .u32 (r.toNat : Int) ∧ Hid (r = (ls.take j).foldl more 0#32) ∧ Below w.heap.size w wr) (fun _ i _ => n - (intOf i).toNat)
  case atStart => exact ⟨0, 0#32, rfl, by omega, rfl, hid rfl, Below.refl _ _⟩
  case round =>
    obtain ⟨j, r, rfl, hj, rfl, hreg, hb⟩ := hrel
    by_cases hlt : j < n
    · have hjl : j < ls.length := by rw [hls.out]; exact hlt
      obtain ⟨Aj, cj, hv, hd, hlen⟩ := hall j ls[j] (List.getElem?_eq_getElem hjl)
      obtain ⟨b, o, rfl, hbo, hc⟩ := (hvs.below hb) (by rw [hvn.out]; omega)
      have hck := hc j _ hv
      have hstep : Hid (more r ls[j] = (ls.take (j + 1)).foldl more 0#32) := hid (by rw [List.take_succ_eq_append_getElem hjl, List.foldl_append, ← hreg.out]; rfl)
      generalize ls[j] = l at hv hd hlen hck hstep
      clear hall hc hvs
      go_wp2_with fail
      refine (more_any r Aj l.length l cj _ rfl (hd.below hb) hlen).mono ?_
      rintro e w2 ⟨rfl, hb2⟩
      go_wp2_with fail
      go_roundw
      case rel => exact ⟨j + 1, more r l, by go_num, by omega, rfl, hstep, hb.trans (hb2.mono hb.size)⟩
      case measure => simp [intOf]; omega
    · clear hall hvs
      go_wp2
      go_ret
      have : ls.take j = ls := List.take_of_length_le (by rw [hls.out]; omega)
      refine ⟨?_, hb⟩
      rw [hreg.out, this]
      rfl
end Go.Proofs.Ytbneihahfagoiaa
