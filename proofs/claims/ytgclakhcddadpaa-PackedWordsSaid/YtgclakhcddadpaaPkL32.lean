/-
  THE WALK of PackedWords.
-/
import Derived.Test.YtgclakhcddadpaaPkF32
import Derived.Test.YtgclakhcddadpaaPkI
namespace Go.Proofs.Ytgclakhcddadpaa
open Go.RowKit

set_option maxRecDepth 100000 in
set_option maxHeartbeats 2000000 in
theorem packedWords (z : Int) (A : Option Addr) (n c : Nat) (l : List Nat) (B : Option Addr) (m d : Nat) (s : List UInt8) (i : Int) (w : World) (hn : l.length = n) (hr : Rd w A (uk .u32 l)) (hA : A = none → l = []) (hnm : n ≤ 9223372036854775807) (hm : Hid (∀ x ∈ l, x < 4294967296))
    (hs : s.length = m) (hrs : Rd w B (cb s)) (hmd : m ≤ d) (hdm : d ≤ maxLen) :
    Calls Try.prog 3 #[.int .i64 z, .slice A n c, .slice B m d, .int .i64 i] w (Yes w) := by
  have hmm : m ≤ 9223372036854775807 := by unfold maxLen at hdm; omega
  replace hm := hid hm
  by_cases h1 : 2000 < n
  · go_enter Try.func3, Try.ntmps3
    go_wp2
    go_ret
    exact ⟨rfl, Below.refl _ _⟩
  · by_cases h2 : 3000 < m
    · go_enter Try.func3, Try.ntmps3
      go_wp2
      go_ret
      exact ⟨rfl, Below.refl _ _⟩
    · replace hn := hid hn
      replace hs := hid hs
      replace hA := hid hA
      go_enter Try.func3, Try.ntmps3
      go_wp2_with fail
      refine (plays32 z A n c l B m d s i _ hn.out hr hA.out (by omega) hm.out hs.out hrs (by omega) hmd hdm).mono ?_
      rintro e w1 ⟨rfl, hb1⟩
      go_wp2_with (go_at_call 11; refine (awake_any _).mono ?_; rintro e w3 ⟨rfl, hb3⟩)
      go_ret
      exact ⟨rfl, hb1.trans (hb3.mono hb1.size)⟩
end Go.Proofs.Ytgclakhcddadpaa
