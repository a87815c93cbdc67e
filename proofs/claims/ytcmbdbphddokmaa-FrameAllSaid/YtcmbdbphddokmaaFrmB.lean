/-
  THE WALKS: frame.Size, frame.Put.
-/
import Derived.Test.YtcmbdbphddokmaaFrmA
import Derived.Test.YtcmbdbphddokmaaCrcD
import Derived.Test.YtcmbdbphddokmaaFixed
import Derived.Test.YtcmbdbphddokmaaPlainFrm
namespace Go.Proofs.Ytcmbdbphddokmaa
open Go.RowKit

theorem fixSize_le (k : Nat) (h : k ≤ 8) : fixSize (k : Int) = k := by unfold fixSize; omega

theorem fix_n (A : Option Addr) (L : Nat) (l : List UInt8) (c : Nat) (n : Nat) (size : Int) (k : Nat) (w : World) (hL : l.length = L) (hr : Rd w A (cb l)) (hA : A = none → l = []) (hl : L ≤ 140737488355000) (hn : Hid (n < 18446744073709551616)) (hk : fixSize size = k) :
    Calls Try.prog 19 #[.slice A L c, .int .u64 n, .int .i64 size] w (ResC 5 (L + k) (cb (l ++ fix n k)) w) := by
  subst hL
  exact fix_any A l c n size k w hr hA hl hn hk

theorem size_any (n : Nat) (w : World) (h : n ≤ 4611686018427387904) :
    Calls Try.prog 15 #[.int .i64 n] w fun e w' => e = .returned (.int .i64 ((n + 12 : Nat) : Int)) ∧ w = w' := by
  go_enter Try.func15, Try.ntmps15
  go_wp2
  go_ret
  exact ⟨congrArg (fun x => Ending.returned (.int .i64 x)) (show (12 : Int) + (n : Int) = ((n + 12 : Nat) : Int) by omega), rfl⟩

theorem size_neg (n : Int) (w : World) (h : n < 0) :
    Calls Try.prog 15 #[.int .i64 n] w fun e w' => e = .returned (.int .i64 12) ∧ w = w' := by
  go_enter Try.func15, Try.ntmps15
  go_wp2
  go_ret
  exact ⟨rfl, rfl⟩

/-- What Put hands back where it does. -/
def PutP (n : Nat) (l : List UInt8) (w : World) (e : Ending) (w' : World) : Prop :=
  ∃ A c, e = .returned (.tuple #[.slice A n c, .int .i64 0]) ∧ w'.ownsRow w.heap.size 5 1 (.slice A n c) n (cb l) ∧ Below w.heap.size w w'

theorem putF_arg (A : Option Addr) (n c : Nat) (kind : Int) (B : Option Addr) (m d : Nat) (w : World) (hk : kind < 1 ∨ 250 < kind) :
    Calls Try.prog 11 #[.slice A n c, .int .i64 kind, .slice B m d] w fun e w' => e = .returned (.tuple #[.slice none 0 0, .int .i64 1]) ∧ w = w' := by
  rcases hk with h | h
  · go_enter Try.func11, Try.ntmps11
    go_wp2
    go_ret2
    exact ⟨rfl, rfl⟩
  · have h1 : ¬ kind < 1 := by omega
    go_enter Try.func11, Try.ntmps11
    go_wp2
    go_ret2
    exact ⟨rfl, rfl⟩

theorem putF_long (A : Option Addr) (n c : Nat) (kind : Int) (B : Option Addr) (m d : Nat) (w : World) (h1 : 1 ≤ kind) (h2 : kind ≤ 250) (hm : 70000 < m) :
    Calls Try.prog 11 #[.slice A n c, .int .i64 kind, .slice B m d] w fun e w' => e = .returned (.tuple #[.slice none 0 0, .int .i64 2]) ∧ w = w' := by
  go_enter Try.func11, Try.ntmps11
  go_wp2
  go_ret2
  exact ⟨rfl, rfl⟩

set_option maxHeartbeats 2000000 in
set_option maxRecDepth 100000 in
theorem putF_any (A : Option Addr) (n c : Nat) (l : List UInt8) (k : Nat) (B : Option Addr) (m d : Nat) (body : List UInt8) (w : World) (hn : l.length = n) (hr : Rd w A (cb l)) (hnl : n ≤ 1099511627776)
    (h1 : 1 ≤ k) (h2 : k ≤ 250) (hm : body.length = m) (hb : Rd w B (cb body)) (h3 : m ≤ 70000) :
    Calls Try.prog 11 #[.slice A n c, .int .i64 k, .slice B m d] w (PutP (n + m + 12) (l ++ frameB k body) w) := by
  replace hn := hid hn
  replace hm := hid hm
  have e8 : Hid (Value.int .u8 (k : Int) = u8c (UInt8.ofNat k)) := by refine hid ?_; unfold u8c; simp; omega
  go_enter Try.func11, Try.ntmps11
  go_wp2_with fail
  refine (fix_n (some ⟨w.heap.size, 0, none⟩) 1 [UInt8.ofNat k] 1 m 3 3 _ rfl ?_ (fun h => by cases h) (by omega) (hid (by omega)) (fixSize_le 3 (by omega))).mono ?_
  · have h := Rd.one w (.int .u8 (k : Int)) 5
    rw [e8.out] at h
    rw [e8.out]
    exact h
  rintro e w1 ⟨A1, c1, rfl, hown1, hb1⟩
  have hb1' : Below w.heap.size w w1 := ((Below.refl _ w).alloc (Nat.le_refl _) _).trans (hb1.mono (by simp))
  go_wp2_with fail
  refine (seal_any A1 4 (headB k m) 4 _ (headB_length k m) (Rd.of_own hown1) (by omega)).mono ?_
  rintro e w2 ⟨A2, c2, rfl, hown2, hb2⟩
  have hb2' := hb1'.trans (hb2.mono hb1'.size)
  go_wp2_with fail
  refine (seal_any B m body d _ hm.out (hb.below hb2') (by omega)).mono ?_
  rintro e w3 ⟨A3, c3, rfl, hown3, hb3⟩
  have hb3' := hb2'.trans (hb3.mono hb2'.size)
  have rd0 := hr.below hb3'
  have rd2 := (Rd.of_own hown2).below hb3
  have rd3 := Rd.of_own hown3
  have hP : PartsAt (w3.alloc (.cells #[.slice A n c, .slice A2 (4 + 4) c2, .slice A3 (m + 4) c3] 22)) (some ⟨w3.heap.size, 0, none⟩) 3 [l, seal_ (headB k m), seal_ body] := by
    refine ⟨rfl, [.slice A n c, .slice A2 (4 + 4) c2, .slice A3 (m + 4) c3], Rd.block w3 [_, _, _] _, rfl, fun j t hj => ?_⟩
    have hj3 : j < 3 := by
      rcases Nat.lt_or_ge j 3 with h | h
      · exact h
      · rw [List.getElem?_eq_none (by simpa using h)] at hj; cases hj
    rcases (show j = 0 ∨ j = 1 ∨ j = 2 from by omega) with rfl | rfl | rfl
    · simp at hj
      subst hj
      exact ⟨A, c, by rw [hn.out]; rfl, rd0.alloc _⟩
    · simp at hj
      subst hj
      exact ⟨A2, c2, by rw [seal_length, headB_length]; rfl, rd2.alloc _⟩
    · simp at hj
      subst hj
      exact ⟨A3, c3, by rw [seal_length, hm.out]; rfl, rd3.alloc _⟩
  have hfl : ([l, seal_ (headB k m), seal_ body].flatten) = l ++ frameB k body := by simp [frameB, hm.out]
  have hlen : (l ++ frameB k body).length = n + m + 12 := by rw [List.length_append, frameB_length, hn.out, hm.out]; omega
  go_wp2_with fail
  refine (concat_any _ 3 3 _ _ hP (by omega) (by rw [hfl, hlen]; omega)).mono ?_
  rintro e w4 ⟨A4, c4, rfl, hown4, hb4⟩
  rw [hfl, hlen] at hown4 ⊢
  go_wp2_with fail
  go_ret2
  exact ⟨A4, c4, rfl, own_mono hown4 (by simp; exact Nat.le_succ_of_le hb3'.size), (hb3'.alloc hb3'.size _).trans (hb4.mono (by simp; exact Nat.le_succ_of_le hb3'.size))⟩
end Go.Proofs.Ytcmbdbphddokmaa
