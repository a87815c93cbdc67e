/-
  THE WALK of PackedOwn.
-/
import Derived.Test.YtgclakhcddadpaaPkO
import Derived.Test.YtgclakhcddadpaaPkBown
import Derived.Test.YtgclakhcddadpaaPkI
namespace Go.Proofs.Ytgclakhcddadpaa
open Go.RowKit

set_option maxHeartbeats 4000000 in
set_option maxRecDepth 100000 in
theorem own_walk (A : Option Addr) (n c : Nat) (l : List Nat) (w : World) (hn : l.length = n) (hr : Rd w A (uk .u16 l)) (hA : A = none → l = []) (hnm : n ≤ 9223372036854775807) (hm : Hid (∀ x ∈ l, x < 65536)) :
    Calls Try.prog 6 #[.slice A n c] w (Yes w) := by
  by_cases hbig : 2000 < n
  · go_enter Try.func6, Try.ntmps6
    go_wp2_with (go_at_call 11; refine (awake_any _).mono ?_; rintro e w3 ⟨rfl, hb3⟩)
    go_ret
    exact ⟨rfl, hb3⟩
  · clear hnm
    obtain ⟨i0, hi, hz0, hz1, hz2⟩ := info_parts infoown
    obtain ⟨q, hq⟩ : ∃ q, widthL l = q := ⟨_, rfl⟩
    have hq64 : q ≤ 64 := by rw [← hq]; exact widthL_64 l (fun x hx => by have := hm.out x hx; omega)
    have hqq := hid (Nat.le_refl q)
    replace hn := hid hn
    replace hq := hid hq
    replace hA := hid hA
    go_enter Try.func6, Try.ntmps6
    go_wp2
    go_loopw [3, 4] (fun m i wr => ∃ (j : Nat) (A2 : Option Addr) (c2 : Nat), i = .int .i64 j ∧ j ≤ n ∧ m = .slice A2 j c2 ∧ wr.ownsRow w.heap.size 41 1 (.slice A2 j c2) j (uk .u16 (l.take j)) ∧ Below w.heap.size w wr) (fun _ i _ => n - (intOf i).toNat)
    case atStart => exact ⟨0, none, 0, rfl, Nat.zero_le _, rfl, World.ownsRow_nil _ _ _ _, Below.refl _ _⟩
    case round =>
      obtain ⟨j, A2, c2, rfl, hj, rfl, hown, hb⟩ := hrel
      have hsz := hb.size
      by_cases hlt : j < n
      · have hjl : j < l.length := by rw [hn.out]; exact hlt
        have hjI : (j : Int) < (n : Int) := by omega
        have htk := hid (List.take_succ_eq_append_getElem hjl)
        obtain ⟨b, o, rfl, hbo, hc⟩ := (hr.below hb) (by rw [uk_length]; omega)
        have hce := hc j _ (uk_get .u16 l j hjl)
        obtain ⟨x, hx⟩ : ∃ x, l[j] = x := ⟨_, rfl⟩
        rw [hx] at hce htk
        replace hx := hid hx
        clear hc
        go_wp2_with (at_builtin; refine wpList_app _ rfl (.tmp 20) (.tmp 25) 39 rfl w.heap.size 41 i0 (.int .u16 0) 2 Try.underlying39 hi hz0 hz1 hz2 rfl _ _ _ _ rfl (hown.alloc _) _ _ _ [.int .u16 (x : Int)] rfl (Rd.one _ _ _) rfl (one_int _ _) (by unfold maxLen; omega) (by omega) (by simp; omega) ?_; intro A' c' w' hown' hg' hb' hn')
        go_roundw
        case rel => exact ⟨j + 1, A', c', by go_num, by omega, rfl, by rw [htk.out, uk_snoc]; exact hown', (hb.alloc hb.size _).trans hb'⟩
        case measure => simp [intOf]; omega
      · obtain rfl : j = n := by omega
        have htl : l.take j = l := List.take_of_length_le (by rw [hn.out]; exact Nat.le_refl _)
        rw [htl] at hown
        have hr2 := Rd.of_own hown
        have hA2 : Hid (A2 = none → l = []) := hid (fun h => by
          rcases Nat.eq_zero_or_pos j with h0 | h0
          · exact List.eq_nil_of_length_eq_zero (by rw [hn.out]; exact h0)
          · obtain ⟨g, hg, _⟩ := own_addr hown h0
            rw [h] at hg; cases hg)
        have hqb : ((q : Int) != (q : Int)) = false := by simp
        have hp1 : ∀ g wx, (binOp BinOp.eql 43 (.pointer (some ⟨g, 0, none⟩)) (.pointer none)).run Try.prog wx = .ok (.bool false) wx := fun g wx => by rfl
        have hp2 : ∀ g wx, (binOp BinOp.eql 46 (.pointer (some ⟨g, 0, none⟩)) (.pointer none)).run Try.prog wx = .ok (.bool false) wx := fun g wx => by rfl
        clear hown
        go_wp2_with fail
        refine (width16 A j l c _ hn.out (hr.below hb) (by omega) hm).mono ?_
        rintro e w1 ⟨rfl, rfl⟩
        rw [hq.out]
        go_wp2_with fail
        refine (newOk16 q A j l c _ hn.out (hr.below hb) hA.out (by omega) hm hq64 (by rw [hq.out]; exact hqq.out)).mono ?_
        rintro e w1 ⟨g1, rfl, hg1, hv1, hb1⟩
        go_wp2_with fail
        refine (newOkown q A2 j l c2 _ hn.out (hr2.below hb1) hA2.out (by omega) hm hq64 (by rw [hq.out]; exact hqq.out)).mono ?_
        rintro e w2 ⟨g2, rfl, hg2, hv2, hb2⟩
        go_wp2_with fail
        refine (widthown A2 j l c2 _ hn.out ((hr2.below hb1).below hb2) (by omega) hm).mono ?_
        rintro e w3 ⟨rfl, rfl⟩
        rw [hq.out]
        have hv1' := hv1.below hb2
        have hbw := (hb.trans (hb1.mono hb.size)).trans (hb2.mono (hb.trans (hb1.mono hb.size)).size)
        have c1 : ∀ wx, Ext w2 wx → Calls Try.prog 19 #[.pointer (some ⟨g1, 0, none⟩)] wx (Res 5 (packAll q l).length (cb (packAll q l)) wx) := fun wx hx => bytes16 g1 q j l wx (hv1'.below hx) hq64 hn.out (by omega) hm
        have c2' : ∀ wx, Ext w2 wx → Calls Try.prog 20 #[.pointer (some ⟨g2, 0, none⟩)] wx (Res 5 (packAll q l).length (cb (packAll q l)) wx) := fun wx hx => bytesown g2 q j l wx (hv2.below hx) hq64 hn.out (by omega) hm
        clear hqb
        go_wp2_with fail
        refine wp_region_free (by kernel_rfl) (by kernel_rfl) ?_
        (refine walk_q ?_
         apply Exists.intro
         refine ⟨fun vs wx hw hd => ?_, ?_⟩
         rotate_left
         simp only [Act.put, Nat.reduceAdd, List.setIfInBounds_toArray, List.set_cons_succ, List.set_cons_zero]
         rotate_right
         focus
           (try simp [updE, Region.binds] at hd)
           go_simp
           try go_bits
           try (rw [if_pos (by omega)]; try go_simp; try go_bits)
           try (rw [if_neg (by omega)]; try go_simp; try go_bits)
           first
             | rfl
             | (fail))
        refine walk_r (SlS (packAll q l).length (packAll q l)) (slS_stable _ _) (fun vs wx hw hd => ?_) ?_
        · (try simp [updE, Region.binds] at hd)
          go_simp
          refine (c1 wx hw).mono ?_
          rintro e w4 ⟨A4, c4, rfl, hown4, hb4⟩
          exact ⟨_, rfl, hb4, A4, c4, rfl, Rd.of_own hown4⟩
        simp only [Act.put, Nat.reduceAdd, List.setIfInBounds_toArray, List.set_cons_succ, List.set_cons_zero]
        refine walk_q ?_
        apply Exists.intro
        refine ⟨fun vs wx hw hd => ?_, ?_⟩
        rotate_left
        simp only [Act.put, Nat.reduceAdd, List.setIfInBounds_toArray, List.set_cons_succ, List.set_cons_zero]
        rotate_right
        · simp [updE, Region.binds] at hd
          have hcs := slS_conv rfl hd
          go_simp
          rfl
        (refine walk_q ?_
         apply Exists.intro
         refine ⟨fun vs wx hw hd => ?_, ?_⟩
         rotate_left
         simp only [Act.put, Nat.reduceAdd, List.setIfInBounds_toArray, List.set_cons_succ, List.set_cons_zero]
         rotate_right
         focus
           (try simp [updE, Region.binds] at hd)
           go_simp
           try go_bits
           try (rw [if_pos (by omega)]; try go_simp; try go_bits)
           try (rw [if_neg (by omega)]; try go_simp; try go_bits)
           first
             | rfl
             | (fail))
        refine walk_r (SlS (packAll q l).length (packAll q l)) (slS_stable _ _) (fun vs wx hw hd => ?_) ?_
        · (try simp [updE, Region.binds] at hd)
          go_simp
          refine (c2' wx hw).mono ?_
          rintro e w4 ⟨A4, c4, rfl, hown4, hb4⟩
          exact ⟨_, rfl, hb4, A4, c4, rfl, Rd.of_own hown4⟩
        simp only [Act.put, Nat.reduceAdd, List.setIfInBounds_toArray, List.set_cons_succ, List.set_cons_zero]
        refine walk_q ?_
        apply Exists.intro
        refine ⟨fun vs wx hw hd => ?_, ?_⟩
        rotate_left
        simp only [Act.put, Nat.reduceAdd, List.setIfInBounds_toArray, List.set_cons_succ, List.set_cons_zero]
        rotate_right
        · simp [updE, Region.binds] at hd
          have hcs := slS_conv rfl hd
          go_simp
          rfl
        repeat
          (refine walk_q ?_
           apply Exists.intro
           refine ⟨fun vs wx hw hd => ?_, ?_⟩
           rotate_left
           simp only [Act.put, Nat.reduceAdd, List.setIfInBounds_toArray, List.set_cons_succ, List.set_cons_zero]
           rotate_right
           focus
             (try simp [updE, Region.binds] at hd)
             go_simp
             try go_bits
             try (rw [if_pos (by omega)]; try go_simp; try go_bits)
             try (rw [if_neg (by omega)]; try go_simp; try go_bits)
             first
               | rfl
               | (go_at_call 11; refine (awake_any _).mono ?_; rintro e w5 ⟨rfl, hb5⟩; exact ⟨rfl, hb5⟩))
        refine walk_end ?_
        intro vs wx hw hv
        simp [AllE, updE] at hv
        simp only [hv]
        clear hv
        go_wp2_with fail
        go_ret
        exact ⟨rfl, hbw.trans (Below.mono hw hbw.size)⟩
end Go.Proofs.Ytgclakhcddadpaa
