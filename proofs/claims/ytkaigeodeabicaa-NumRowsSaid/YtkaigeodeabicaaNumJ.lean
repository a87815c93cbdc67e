/-
  THE WALK of NumPuts.
-/
import Derived.Test.YtkaigeodeabicaaNumI
import Derived.Test.YtkaigeodeabicaaFree
namespace Go.Proofs.Ytkaigeodeabicaa
open Go.RowKit

theorem put_n (A : Option Addr) (L : Nat) (l : List UInt8) (c : Nat) (n pl : Nat) (w : World) (hL : l.length = L) (hpl : (put n).length = pl) (hr : Rd w A (cb l)) (hA : A = none → l = []) (hl : L ≤ 140737488355000) (hn : Hid (n < 18446744073709551616)) :
    Calls Try.prog 10 #[.slice A L c, .int .u64 n] w (ResC 5 (L + pl) (cb (l ++ put n)) w) := by
  subst hL hpl
  have h := put_any A l c n w hr hA hl hn
  rw [List.length_append] at h
  exact h

theorem fix_n (A : Option Addr) (L : Nat) (l : List UInt8) (c : Nat) (n : Nat) (size : Int) (k : Nat) (w : World) (hL : l.length = L) (hr : Rd w A (cb l)) (hA : A = none → l = []) (hl : L ≤ 140737488355000) (hn : Hid (n < 18446744073709551616)) (hk : fixSize size = k) :
    Calls Try.prog 16 #[.slice A L c, .int .u64 n, .int .i64 size] w (ResC 5 (L + k) (cb (l ++ fix n k)) w) := by
  subst hL
  exact fix_any A l c n size k w hr hA hl hn hk

theorem run_add_lists {P : Program} (x y : List UInt8) (h : x.length + y.length ≤ 9223372036854775807) (w : World) :
    (Op.stringOp .add ⟨x.toArray⟩ ⟨y.toArray⟩).run P w = .ok (.string ⟨(x ++ y).toArray⟩) w := by
  rw [run_string_add_sum w _ _ (by simpa [ByteArray.size] using h), ByteArray.mk_append_mk]

theorem fixSize_8 (size : Int) : fixSize size ≤ 8 := by unfold fixSize; omega

set_option maxHeartbeats 4000000 in
set_option maxRecDepth 100000 in
theorem puts_walk (A : Option Addr) (L : Nat) (c : Nat) (l : List UInt8) (n : Nat) (i : Int) (size : Int) (w : World) (hn : Hid (n < 18446744073709551616)) (hi1 : -9223372036854775808 ≤ i) (hi2 : i ≤ 9223372036854775807) (hL : l.length = L) (hr : Rd w A (cb l)) (hA : A = none → l = []) :
    Calls Try.prog 6 #[.slice A L c, .int .u64 n, .int .i64 i, .int .i64 size] w (Yes w) := by
  replace hL := hid hL
  by_cases hbig : 1000 < L
  · go_enter Try.func6, Try.ntmps6
    go_wp2_with (go_at_call 12; refine (awake_any _).mono ?_; rintro e w3 ⟨rfl, hb3⟩)
    go_ret
    exact ⟨rfl, hb3⟩
  · obtain ⟨k, hk⟩ : ∃ k, fixSize size = k := ⟨_, rfl⟩
    have hk8 : k ≤ 8 := by rw [← hk]; exact fixSize_8 size
    replace hk := hid hk
    obtain ⟨pl, hpl⟩ : ∃ pl, (put n).length = pl := ⟨_, rfl⟩
    have hp1 : 1 ≤ pl := by have := put_pos n; omega
    have hp2 : pl ≤ 10 := by have := put_le10 n hn.out; omega
    replace hpl := hid hpl
    have hz := zig_range i ⟨hi1, hi2⟩
    have hzz := zag_zig i
    have hza := zag_range n ⟨by omega, by have := hn.out; omega⟩
    have hzb := zig_zag n (by omega)
    have hadd1 := run_add_lists (P := Try.prog) l (put n) (by rw [hL.out, hpl.out]; omega)
    have hadd2 := run_add_lists (P := Try.prog) l (fix n k) (by rw [hL.out, fix_length]; omega)
    obtain ⟨hz1, hz2⟩ := hz
    obtain ⟨hza1, hza2⟩ := hza
    go_enter Try.func6, Try.ntmps6
    go_wp2_with fail
    refine (put_n A L l c n pl w hL.out hpl.out hr hA (by omega) hn).mono ?_
    rintro e w1 ⟨A1, c1, rfl, hown1, hb1⟩
    go_wp2_with fail
    refine (fix_n A L l c n size k w1 hL.out (hr.below hb1) hA (by omega) hn hk.out).mono ?_
    rintro e w2 ⟨A2, c2, rfl, hown2, hb2⟩
    have hd1 : Rd w2 A1 (cb (l ++ put n)) := (Rd.of_own hown1).below hb2
    have hd0 : Rd w2 A (cb l) := (hr.below hb1).below hb2
    have hd2 : Rd w2 A2 (cb (l ++ fix n k)) := Rd.of_own hown2
    have hb02 : Below w.heap.size w w2 := hb1.trans (hb2.mono hb1.size)
    obtain ⟨g, rfl, _, _⟩ := own_addr hown1 (by omega)
    have hcv0 : ∀ wx, Ext w2 wx → (convert 23 9 (.slice A L c)).run Try.prog wx = .ok (.string ⟨l.toArray⟩) wx :=
      fun wx hx => run_strn wx 23 9 5 Try.underlying23 Try.underlying5 Try.underlying9 A L l c hL.out (hd0.below hx)
    have hcv1 : ∀ wx, Ext w2 wx → (convert 23 9 (.slice (some ⟨g, 0, none⟩) (L + pl) (L + pl))).run Try.prog wx = .ok (.string ⟨(l ++ put n).toArray⟩) wx :=
      fun wx hx => run_strn wx 23 9 5 Try.underlying23 Try.underlying5 Try.underlying9 _ (L + pl) (l ++ put n) _ (by rw [List.length_append, hL.out, hpl.out]) (hd1.below hx)
    have hcv2 : ∀ wx, Ext w2 wx → (convert 23 9 (.slice A2 (L + k) (L + k))).run Try.prog wx = .ok (.string ⟨(l ++ fix n k).toArray⟩) wx :=
      fun wx hx => run_strn wx 23 9 5 Try.underlying23 Try.underlying5 Try.underlying9 _ (L + k) (l ++ fix n k) _ (by rw [List.length_append, hL.out, fix_length]) (hd2.below hx)
    have hd : Below w2.heap.size w2 w2.drew := (Below.refl _ _).drew
    have hbr : Below w2.heap.size w2 w2 := Below.refl _ _
    clear hr hown1 hown2 hb1 hb2 hd0 hd2
    go_wp2_with fail
    have hLp : ((L : Int) + (pl : Int) - (L : Int)) = (pl : Int) := by omega
    refine wp_region_free (by kernel_rfl) (by kernel_rfl) ?_
    repeat
      (refine walk_q ?_
       apply Exists.intro
       refine ⟨fun vs wx hw hd => ?_, ?_⟩
       rotate_left
       simp only [Act.put, Nat.reduceAdd, List.setIfInBounds_toArray, List.set_cons_succ, List.set_cons_zero]
       rotate_right
       focus
         (try simp [updE, Region.binds] at hd)
         go_simp
         try go_bits
         first
           | rfl
           | (go_at_call 17; refine (refNum_any _ _ (by assumption)).mono ?_; rintro e w3 ⟨rfl, hb3⟩; exact ⟨rfl, hb3⟩)
           | (go_at_call 18; refine (refFix_any _ _ k _ hk.out).mono ?_; rintro e w3 ⟨rfl, hb3⟩; exact ⟨rfl, hb3⟩)
           | (go_at_call 15; refine (size_any _ _ (by assumption)).mono ?_; rintro e w3 ⟨rfl, rfl⟩; rw [hpl.out]; exact ⟨rfl, Ext.refl _⟩)
           | (trace_state; fail))
    refine walk_end ?_
    intro vs wx hw hv
    simp [AllE, updE] at hv
    simp only [hv]
    clear hv
    have hd3 : Rd wx (some ⟨g, L, none⟩) (cb (put n)) := by
      have h := (hd1.below hw).drop L
      rw [cb_drop, List.drop_append_of_le_length (by rw [hL.out]; omega), List.drop_eq_nil_of_le (by rw [hL.out]; omega), List.nil_append] at h
      have e : (some (⟨g, 0, none⟩ : Addr)).map (·.add L) = some ⟨g, L, none⟩ := by
        simp only [Option.map, Addr.add]
        by_cases h0 : L = 0 <;> simp [h0]
      rw [e] at h
      exact h
    go_wp2_with fail
    refine (take_n (some ⟨g, L, none⟩) pl (put n) pl wx hpl.out hd3 (by omega)).mono ?_
    rintro e w4 ⟨rfl, rfl⟩
    have ht := take_put n hn.out []
    rw [List.append_nil, hpl.out] at ht
    rw [ht]
    unfold tup3
    clear ht
    go_wp2_with (first
      | (go_at_call 15; refine (size_any n _ hn).mono ?_; rintro e w5 ⟨rfl, rfl⟩; rw [hpl.out])
      | (go_at_call 13; refine (zig_any _ _ (by omega)).mono ?_; rintro e w5 ⟨rfl, rfl⟩)
      | (go_at_call 19; refine (refZig_any _ _ (by omega)).mono ?_; rintro e w5 ⟨rfl, rfl⟩)
      | (go_at_call 14; refine (zag_any _ _ (by have := hn.out; omega)).mono ?_; rintro e w5 ⟨rfl, rfl⟩)
      | (go_at_call 12; refine (awake_any _).mono ?_; rintro e w5 ⟨rfl, hb5⟩))
    go_ret
    exact ⟨rfl, (hb02.trans (Below.mono hw hb02.size)).trans (hb5.mono (Nat.le_trans hb02.size hw.size))⟩
end Go.Proofs.Ytkaigeodeabicaa
