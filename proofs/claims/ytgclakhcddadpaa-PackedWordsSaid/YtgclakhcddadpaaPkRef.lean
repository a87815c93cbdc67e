/-
  THE WALKS of the document's own Num, Take.
-/
import Derived.Test.YtgclakhcddadpaaNumA
import Derived.Test.YtgclakhcddadpaaNumB
namespace Go.Proofs.Ytgclakhcddadpaa
open Go.RowKit

/-- A string handed back. -/
def ResS (l : List UInt8) (w : World) (e : Ending) (w' : World) : Prop := e = .returned (.string ⟨l.toArray⟩) ∧ Below w.heap.size w w'

set_option maxHeartbeats 1000000 in
set_option maxRecDepth 100000 in
theorem refNum_any (n : Nat) (w : World) (hn : Hid (n < 18446744073709551616)) :
    Calls Try.prog 59 #[.int .u64 n] w (ResS (put n) w) := by
  obtain ⟨i0, hi, hz0, hz1, hz2⟩ := info_parts info_u8
  go_enter Try.func59, Try.ntmps59
  go_wp2
  go_loopw [0, 3] (fun m out wr => ∃ (k : Nat) (dn : List UInt8) (A2 : Option Addr) (c2 : Nat), m = .int .u64 k ∧ Hid (put n = dn ++ put k) ∧ dn.length + (put k).length ≤ 10 ∧
      out = .slice A2 dn.length c2 ∧ wr.ownsRow w.heap.size 5 1 (.slice A2 dn.length c2) dn.length (cb dn) ∧ Below w.heap.size w wr)
    (fun m _ _ => (intOf m).toNat)
  case atStart => exact ⟨n, [], none, 0, rfl, hid rfl, by have := put_le10 n hn.out; simpa using this, rfl, World.ownsRow_nil _ _ _ _, Below.refl _ _⟩
  case round =>
    obtain ⟨k, dn, A2, c2, rfl, hp, hlen, rfl, hown, hb⟩ := hrel
    have hsz := hb.size
    by_cases hlt : k < 128
    · have e8 : Hid (Value.int .u8 (k : Int) = u8c (UInt8.ofNat k)) := by refine hid ?_; unfold u8c; simp; omega
      go_wp2_with (at_builtin; refine wpList_app _ rfl (.tmp 14) (.tmp 17) 23 rfl w.heap.size 5 i0 (.int .u8 0) 1 Try.underlying23 hi hz0 hz1 hz2 rfl _ _ _ _ rfl (hown.alloc _) _ _ _ [.int .u8 k] rfl (Rd.one _ _ _) rfl (one_int _ _) (by unfold maxLen; omega) (by omega) (by simp; omega) ?_; intro A' c' w' hown' hg' hb' hn')
      have hq := hp.out
      rw [put_small hlt] at hq
      rw [show (Value.int .u8 (k : Int)) = u8c (UInt8.ofNat k) from e8.out] at hown'
      rw [run_strn _ 23 9 5 Try.underlying23 Try.underlying5 Try.underlying9 A' (dn.length + 1) (put n) c' (by rw [hq]; simp) (by rw [hq, cb_append]; exact Rd.of_own hown')]
      clear hq
      go_wp2
      go_ret
      exact ⟨rfl, (hb.alloc hsz _).trans hb'⟩
    · have e8 := u8_or128 k
      go_wp2_with (at_builtin; refine wpList_app _ rfl (.tmp 6) (.tmp 10) 23 rfl w.heap.size 5 i0 (.int .u8 0) 1 Try.underlying23 hi hz0 hz1 hz2 rfl _ _ _ _ rfl (hown.alloc _) _ _ _ [.int .u8 ((k % 128 + 128 : Nat) : Int)] rfl (Rd.one _ _ _) rfl (one_int _ _) (by unfold maxLen; omega) (by omega) (by simp; omega) ?_; intro A' c' w' hown' hg' hb' hn')
      go_roundw
      case rel =>
        have hq := hp.out
        rw [put_big hlt] at hq
        refine ⟨k / 128, dn ++ [UInt8.ofNat (k % 128 + 128)], A', c', by rw [Int.natCast_ediv]; rfl, hid (by rw [hq]; simp), ?_, by simp, ?_, (hb.alloc hsz _).trans hb'⟩
        · rw [put_big hlt] at hlen; simp at hlen ⊢; omega
        · have e9 : Value.int .u8 ((k % 128 + 128 : Nat) : Int) = u8c (UInt8.ofNat (k % 128 + 128)) := by
            unfold u8c
            rw [show (UInt8.ofNat (k % 128 + 128)).toNat = k % 128 + 128 from by simp; omega]
          rw [e9] at hown'
          simpa [cb] using hown'
      case measure => simp [intOf]; omega

set_option maxHeartbeats 1000000 in
set_option maxRecDepth 100000 in
theorem refTake_any (s : ByteArray) (w : World) (hl : s.size ≤ 140737488355328) :
    Calls Try.prog 61 #[.string s] w fun e w' => e = .returned (tup3 (take s.data.toList)) ∧ w = w' := by
  obtain ⟨l, hsl⟩ : ∃ l, s.data.toList = l := ⟨_, rfl⟩
  have hll : l.length = s.size := by rw [← hsl]; simp
  rw [hsl]
  have hget : ∀ k (h1 : k < s.size) (h2 : k < l.length), l[k] = s[k] := by intro k h1 h2; subst hsl; simp; rfl
  replace hsl := hid hsl
  replace hll := hid hll
  replace hget := hid hget
  have hl2 := hid hl
  clear hl
  go_enter Try.func61, Try.ntmps61
  go_wp2
  go_loop [5, 6] (fun n i => ∃ (k acc : Nat), k ≤ 10 ∧ k ≤ s.size ∧ i = .int .i64 k ∧ n = .int .u64 acc ∧ Hid (acc < 2 ^ (7 * k)) ∧ Hid (takeG (10 - k) k acc (l.drop k) = take l)) (fun _ i => 10 - (intOf i).toNat)
  case atStart => exact ⟨0, 0, by omega, by omega, rfl, rfl, hid (by simp), hid rfl⟩
  case round =>
    obtain ⟨k, acc, hk10, hkl, rfl, rfl, hacc, ht⟩ := hrel
    by_cases h10 : k < 10
    · by_cases his : k < s.size
      · have hi : k < l.length := by rw [hll.out]; exact his
        obtain ⟨u, hu⟩ : ∃ u, l[k] = u := ⟨_, rfl⟩
        have hsu : s[k] = u := by rw [← hu]; exact (hget.out k his hi).symm
        replace hu := hid hu
        replace hi := hid hi
        have hult := u.toNat_lt
        have hst := hid (takeG_at l k acc h10 hi.out)
        rw [ht.out, hu.out] at hst
        by_cases h9 : k = 9
        · subst h9
          simp only [Nat.reduceMul, Nat.reducePow] at hst
          by_cases h1 : 1 < u.toNat
          · go_wp2
            go_ret3
            exact ⟨ret3 ⟨0, 0, 3, by rw [hst.out, if_pos ⟨trivial, h1⟩], rfl, rfl, rfl⟩, rfl⟩
          · have h128 : u.toNat < 128 := by omega
            by_cases h0 : u.toNat = 0
            · obtain rfl : u = 0 := UInt8.toNat_inj.1 (by rw [h0]; rfl)
              clear h0 h1 h128 hult
              go_wp2
              go_ret3
              exact ⟨ret3 ⟨0, 0, 3, by rw [hst.out]; rfl, rfl, rfl, rfl⟩, rfl⟩
            · have h0b : ((u.toNat : Int) == 0) = false := by simp; omega
              have h127 := u64_and127 u
              go_wp2
              go_ret3
              exact ⟨ret3 ⟨_, _, _, by rw [hst.out, if_neg (fun h => h1 h.2), if_pos h128, if_neg (fun h => h0 h.1)], or_shift9 acc u.toNat hacc.out (by omega), rfl, rfl⟩, rfl⟩
        · have h9b : ((k : Int) == 9) = false := by simp; omega
          by_cases h128 : u.toNat < 128
          · by_cases h0 : u.toNat = 0
            · obtain rfl : u = 0 := UInt8.toNat_inj.1 (by rw [h0]; rfl)
              clear h0 h128 hult
              by_cases hk0 : 0 < k
              · go_wp2
                go_ret3
                exact ⟨ret3 ⟨0, 0, 3, by rw [hst.out, if_neg (fun h => h9 h.1)]; simp [hk0], rfl, rfl, rfl⟩, rfl⟩
              · obtain rfl : k = 0 := by omega
                obtain rfl : acc = 0 := by have := hacc.out; simpa using this
                have hz : bits BinOp.and IntKind.u64 0 127 = 0 := by kernel_rfl
                have hz2 : bits BinOp.or IntKind.u64 0 0 = 0 := by kernel_rfl
                have hne : ¬ s = ByteArray.empty := by rintro rfl; simp at his
                go_wp2
                go_ret3
                exact ⟨ret3 ⟨0, 1, 0, by rw [hst.out]; rfl, rfl, rfl, rfl⟩, rfl⟩
            · have h0b : ((u.toNat : Int) == 0) = false := by simp; omega
              have h127 := u64_and127 u
              go_wp2
              all_goals go_ret3
              all_goals exact ⟨ret3 ⟨_, _, _, by rw [hst.out, if_neg (fun h => h9 h.1), if_pos h128, if_neg (fun h => h0 h.1)], or_shift acc k u.toNat hacc.out h10 (by omega), rfl, rfl⟩, rfl⟩
          · have h127 := u64_and127 u
            go_wp2
            go_round
            case rel => exact ⟨k + 1, _, by omega, by omega, by go_num, by rw [or_shift acc k u.toNat hacc.out h10 (by omega)], hid (acc_lt acc k _ hacc.out), hid (by rw [hst.out, if_neg (fun h => h9 h.1), if_neg h128])⟩
            case measure => simp [intOf]; omega
      · go_wp2
        go_ret3
        exact ⟨ret3 ⟨0, 0, 4, by rw [← ht.out, takeG_end l k acc h10 (by have := hll.out; omega)], rfl, rfl, rfl⟩, rfl⟩
    · go_wp2
      go_ret3
      exact ⟨ret3 ⟨0, 0, 3, by rw [← ht.out, show 10 - k = 0 from by omega]; rfl, rfl, rfl, rfl⟩, rfl⟩

end Go.Proofs.Ytgclakhcddadpaa
