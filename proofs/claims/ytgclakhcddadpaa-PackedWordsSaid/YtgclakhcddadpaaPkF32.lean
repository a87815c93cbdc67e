/-
  THE WALK of the law's own plays at uint32.
-/
import Derived.Test.YtgclakhcddadpaaPkB32
import Derived.Test.YtgclakhcddadpaaPkC32
import Derived.Test.YtgclakhcddadpaaPkG32
import Derived.Test.YtgclakhcddadpaaPkH32
import Derived.Test.YtgclakhcddadpaaPkDb
import Derived.Test.YtgclakhcddadpaaPkDc
import Derived.Test.YtgclakhcddadpaaPkO
import Derived.Deep.DeepCutAuto
import Derived.Deep.CutBlock
namespace Go.Proofs.Ytgclakhcddadpaa
open Go.RowKit

set_option maxRecDepth 100000 in
set_option maxHeartbeats 8000000 in
theorem plays32 (z : Int) (A : Option Addr) (n c : Nat) (l : List Nat) (B : Option Addr) (m d : Nat) (s : List UInt8) (i : Int) (w : World) (hn : l.length = n) (hr : Rd w A (uk .u32 l)) (hA : A = none → l = []) (hn2 : n ≤ 2000) (hm : Hid (∀ x ∈ l, x < 4294967296))
    (hs : s.length = m) (hrs : Rd w B (cb s)) (hm3 : m ≤ 3000) (hmd : m ≤ d) (hdm : d ≤ maxLen) :
    Calls Try.prog 10 #[.int .i64 z, .slice A n c, .int .i64 32, .slice B m d, .int .i64 i] w (Yes w) := by
  obtain ⟨i0, hi, hz0, hz1, hz2⟩ := info_parts info_u8
  have hm64 : Hid (∀ x ∈ l, x < 18446744073709551616) := hid (fun x hx => by have := hm.out x hx; omega)
  obtain ⟨OK, hOK⟩ : ∃ OK : Prop, (0 ≤ z ∧ z ≤ 64 ∧ (widthL l : Int) ≤ z) = OK := ⟨_, rfl⟩
  replace hOK := hid hOK
  replace hn := hid hn
  replace hs := hid hs
  replace hA := hid hA
  go_enter Try.func10, Try.ntmps10
  go_upto_region 1 with fail
  go_cut [11, 12] (fun s11 s12 wx => Below w.heap.size w wx ∧ ((OK ∧ ∃ g, s11 = .pointer (some ⟨g, 0, none⟩) ∧ s12 = .int .i64 0 ∧ VecAt 94 .u32 g z.toNat l wx) ∨ (¬ OK ∧ s11 = .pointer none ∧ s12 = .int .i64 1)))
  case first =>
    by_cases hok : OK
    · have hok2 : 0 ≤ z ∧ z ≤ 64 ∧ (widthL l : Int) ≤ z := by rw [hOK.out]; exact hok
      obtain ⟨zn, rfl⟩ : ∃ zn : Nat, z = (zn : Int) := ⟨z.toNat, by omega⟩
      obtain ⟨_, hz64, hzw⟩ := hok2
      go_wp2_with fail
      refine (newOk32 zn A n l c _ hn.out hr hA.out (by omega) hm (by omega) (by omega)).mono ?_
      rintro e w1 ⟨g, rfl, hg, hv, hb⟩
      have hok := hid hok
      have hzw := hid hzw
      go_wp2_with fail
      go_meet
      case rel => exact ⟨hb, .inl ⟨hok.out, g, rfl, rfl, by simpa using hv⟩⟩
    · have hok2 : z < 0 ∨ 64 < z ∨ z < (widthL l : Int) := by
        have h : ¬ (0 ≤ z ∧ z ≤ 64 ∧ (widthL l : Int) ≤ z) := by rw [hOK.out]; exact hok
        omega
      have hok := hid hok
      have hok2 := hid hok2
      go_wp2_with fail
      refine (newArg32 z A n l c _ hn.out hr (by omega) hm hok2.out).mono ?_
      rintro e w1 ⟨rfl, rfl⟩
      go_wp2_with fail
      go_meet
      case rel => exact ⟨Below.refl _ _, .inr ⟨hok.out, rfl, rfl⟩⟩
  case rest =>
    as_aux_lemma =>
    obtain ⟨hb1, hnew⟩ := hcut
    replace hnew := hid hnew
    have hr1 := hr.below hb1
    have hrs1 := hrs.below hb1
    go_upto_region 3 with (go_at_call 33; refine (wide32 A n l c _ hn.out hr1 (by omega) hm).mono ?_; rintro e w2 ⟨A3, c3, rfl, hown3, hb2⟩)
    have hr3 := Rd.of_own hown3
    have hb12 := hb1.trans (hb2.mono hb1.size)
    go_cut [14] (fun s14 wx => Below w2.heap.size w2 wx ∧ ∃ e0 : Nat, s14 = .int .i64 e0 ∧ ((OK ∧ e0 = 0) ∨ (¬ OK ∧ e0 = 1)))
    case first =>
      by_cases hok : OK
      · have hok2 : 0 ≤ z ∧ z ≤ 64 ∧ (widthL l : Int) ≤ z := by rw [hOK.out]; exact hok
        obtain ⟨zn, rfl⟩ : ∃ zn : Nat, z = (zn : Int) := ⟨z.toNat, by omega⟩
        obtain ⟨_, hz64, hzw⟩ := hok2
        have hzw : Hid (widthL l ≤ zn) := hid (by omega)
        have hok := hid hok
        go_wp2_with fail
        refine (may_ok zn A3 n l c3 _ hn.out hr3 (by omega) hm64 (by omega) hzw.out).mono ?_
        rintro e w3 ⟨rfl, rfl⟩
        go_wp2_with fail
        go_meet
        case rel => exact ⟨Below.refl _ _, 0, rfl, .inl ⟨hok.out, rfl⟩⟩
      · have hok2 : z < 0 ∨ 64 < z ∨ z < (widthL l : Int) := by
          have h : ¬ (0 ≤ z ∧ z ≤ 64 ∧ (widthL l : Int) ≤ z) := by rw [hOK.out]; exact hok
          omega
        have hok := hid hok
        have hok2 := hid hok2
        go_wp2_with fail
        refine (may_arg z A3 n l c3 _ hn.out hr3 (by omega) hm64 hok2.out).mono ?_
        rintro e w3 ⟨rfl, rfl⟩
        go_wp2_with fail
        go_meet
        case rel => exact ⟨Below.refl _ _, 1, rfl, .inr ⟨hok.out, rfl⟩⟩
    case rest =>
      as_aux_lemma =>
      obtain ⟨hb3, e0, rfl, hmay⟩ := hcut
      replace hmay := hid hmay
      have hb13 := hb12.trans (hb3.mono hb12.size)
      have hr33 := hr3.below hb3
      have hr13 := hr.below hb13
      have hrs3 := hrs.below hb13
      go_upto_if 44 with fail
      go_cut [15] (fun _ wx => Below wc.heap.size wc wx)
      case first =>
        as_aux_lemma =>
        by_cases hok : OK
        · rcases hnew.out with ⟨_, g, rfl, rfl, hv⟩ | ⟨hno, _⟩
          rotate_left
          · exact absurd hok hno
          rcases hmay.out with ⟨_, rfl⟩ | ⟨hno, _⟩
          rotate_left
          · exact absurd hok hno
          have hok2 : 0 ≤ z ∧ z ≤ 64 ∧ (widthL l : Int) ≤ z := by rw [hOK.out]; exact hok
          obtain ⟨zn, rfl⟩ : ∃ zn : Nat, z = (zn : Int) := ⟨z.toNat, by omega⟩
          obtain ⟨_, hz64, hzw⟩ := hok2
          have hzw : Hid (widthL l ≤ zn) := hid (by omega)
          have hzn : zn ≤ 64 := by omega
          rw [Int.toNat_natCast] at hv
          have hvec := (hv.below hb2).below hb3
          clear hv
          replace hok := hid hok
          clear hnew hmay
          have hp1 : ∀ g wx, (binOp BinOp.eql 55 (.pointer (some ⟨g, 0, none⟩)) (.pointer none)).run Try.prog wx = .ok (.bool false) wx := fun g wx => by rfl
          obtain ⟨X, hX⟩ : ∃ X, packAll zn l = X := ⟨_, rfl⟩
          obtain ⟨N, hN⟩ : ∃ N, X.length = N := ⟨_, rfl⟩
          have hNb : N ≤ 16100 := by
            have h1 := put_le10 n (by omega)
            have h2 : n * zn ≤ 2000 * 64 := Nat.mul_le_mul hn2 hzn
            rw [← hN, ← hX, packAll_length, hn.out]
            unfold sizeP
            omega
          have hN1 : 1 ≤ N := by rw [← hN, ← hX, packAll_length]; omega
          have hx0 : Ext wc wc := Ext.refl wc
          have f1 : ∀ wx, Ext wc wx → Calls Try.prog 29 #[.pointer (some ⟨g, 0, none⟩)] wx fun e w' => e = .returned (.int .i64 (n : Int)) ∧ wx = w' := fun wx hx => by
            have h := len32 g zn l wx (hvec.below hx)
            rwa [hn.out] at h
          have f2 : ∀ wx, Ext wc wx → Calls Try.prog 35 #[.pointer (some ⟨g, 0, none⟩)] wx fun e w' => e = .returned (.int .i64 (zn : Int)) ∧ wx = w' := fun wx hx => vwidth32 g zn l wx (hvec.below hx)
          have f3 : ∀ wx, Ext wc wx → Calls Try.prog 25 #[.pointer (some ⟨g, 0, none⟩)] wx (Res 5 N (cb X) wx) := fun wx hx => by
            have h := bytes32 g zn n l wx (hvec.below hx) hzn hn.out (by omega) hm
            rwa [hX, hN] at h
          have f4 : ∀ wx, Ext wc wx → Calls Try.prog 36 #[.int .i64 zn, .slice A3 n c3] wx (ResS X wx) := fun wx hx => by
            have h := refBytes_any zn A3 n l c3 wx hn.out (hr33.below hx) (by omega) hm64 hzn
            rwa [hX] at h
          have n1 : ((n : Int) != (n : Int)) = false := by simp
          have n2 : ((zn : Int) != (zn : Int)) = false := by simp
          replace hX := hid hX
          replace hN := hid hN
          go_wp2_with fail
          refine wp_region_free (by kernel_rfl) (by kernel_rfl) ?_
          repeat
            (refine walk_q ?_
             apply Exists.intro
             refine ⟨fun vs wx hw hd => ?_, ?_⟩
             rotate_left
             simp only [Act.put, Nat.reduceAdd, List.setIfInBounds_toArray, List.set_cons_succ, List.set_cons_zero]
             rotate_right
             focus
               (try simp [updE, Region.binds] at hd)
               go_simp
               try go_bits
               try (rw [if_pos (by omega)]; try go_simp; try go_bits)
               try (rw [if_neg (by omega)]; try go_simp; try go_bits)
               first
                 | rfl
                 | (go_at_call 29; refine (f1 _ hw).mono ?_; rintro e w5 ⟨rfl, rfl⟩; exact ⟨rfl, Below.refl _ _⟩)
                 | (go_at_call 35; refine (f2 _ hw).mono ?_; rintro e w5 ⟨rfl, rfl⟩; exact ⟨rfl, Below.refl _ _⟩))
          refine walk_r (SlS N X) (slS_stable _ _) (fun vs wx hw hd => ?_) ?_
          · (try simp [updE, Region.binds] at hd)
            go_simp
            refine (f3 wx hw).mono ?_
            rintro e w4 ⟨A4, c4, rfl, hown4, hb4⟩
            exact ⟨_, rfl, hb4, A4, c4, rfl, Rd.of_own hown4⟩
          simp only [Act.put, Nat.reduceAdd, List.setIfInBounds_toArray, List.set_cons_succ, List.set_cons_zero]
          refine walk_q ?_
          apply Exists.intro
          refine ⟨fun vs wx hw hd => ?_, ?_⟩
          rotate_left
          simp only [Act.put, Nat.reduceAdd, List.setIfInBounds_toArray, List.set_cons_succ, List.set_cons_zero]
          rotate_right
          · simp [updE, Region.binds] at hd
            have hcs := slS_conv hN.out (by first | exact hd | exact hd.1)
            go_simp
            rfl
          repeat
            (refine walk_q ?_
             apply Exists.intro
             refine ⟨fun vs wx hw hd => ?_, ?_⟩
             rotate_left
             simp only [Act.put, Nat.reduceAdd, List.setIfInBounds_toArray, List.set_cons_succ, List.set_cons_zero]
             rotate_right
             focus
               (try simp [updE, Region.binds] at hd)
               go_simp
               try go_bits
               try (rw [if_pos (by omega)]; try go_simp; try go_bits)
               try (rw [if_neg (by omega)]; try go_simp; try go_bits)
               first
                 | rfl
                 | (go_at_call 36; refine (f4 _ hw).mono ?_; rintro e w5 ⟨rfl, hb5⟩; exact ⟨rfl, hb5⟩))
          refine walk_end ?_
          intro vs wx hw hv
          simp [AllE, updE] at hv
          simp only [hv]
          as_aux_lemma =>
          clear hv
          have hb4 : Below wc.heap.size wc wx := hw
          have hv4 := hvec.below hb4
          have hr34 := hr33.below hb4
          clear f1 f2 f3 f4 n1 n2
          go_wp2_with fail
          refine (all32 g zn l 200000 wx hv4 (by rw [hn.out]; omega) (by omega) hm).mono ?_
          rintro e w5 ⟨A5, c5, rfl, hown5, hb5⟩
          rw [List.take_of_length_le (by rw [hn.out]; omega)] at hown5 ⊢
          rw [hn.out] at hown5 ⊢
          have hb45 := hb4.trans (hb5.mono hb4.size)
          have hv5 := hv4.below hb5
          have hr35 := hr34.below hb5
          have hr5 := Rd.of_own hown5
          go_wp2_with fail
          refine (all32 g zn l 3 w5 hv5 (by rw [hn.out]; omega) (by omega) hm).mono ?_
          rintro e w6 ⟨A6, c6, rfl, hown6, hb6⟩
          obtain ⟨Y, hY⟩ : ∃ Y, (l.take 3).length = Y := ⟨_, rfl⟩
          rw [hY] at hown6 ⊢
          rw [List.length_take, hn.out] at hY
          have hcap6 := own_cap hown6
          have hb46 := hb45.trans (hb6.mono hb45.size)
          have hv6 := hv5.below hb6
          have hr36 := hr35.below hb6
          have hr6 := hr5.below hb6
          have hmin1 : (if (n : Int) < 3 then (n : Int) else 3) = (Y : Int) := by split <;> omega
          have hmin2 : (if n < 3 then (n : Int) else 3) = (Y : Int) := by split <;> omega
          have hYY : ((Y : Int) != (Y : Int)) = false := by simp
          replace hY := hid hY
          clear hown5 hown6 hr34 hr35 hr5 hv4 hv5 hb4 hb45 hb5 hb6
          go_wp2_with fail
          refine (same_true A5 n c5 A3 c3 l w6 hn.out hr6 hr36 (by omega)).mono ?_
          rintro e w7 ⟨rfl, hb7⟩
          have hb47 := hb46.trans (hb7.mono hb46.size)
          have hv7 := hv6.below hb7
          have hr37 := hr36.below hb7
          clear hv6 hr36 hr6 hb46
          go_upto_region 14 with fail
          clear hmin1 hmin2 hYY hcap6
          go_cut [117] (fun s117 wy => ∃ b : Bool, s117 = .bool b ∧ Hid (b = decide (0 ≤ i ∧ i < (n : Int))) ∧ Below w7.heap.size w7 wy)
          case first =>
            by_cases h0 : 0 ≤ i
            · by_cases h1 : i < (n : Int)
              · go_wp2
                go_meet
                case rel => exact ⟨true, rfl, hid (by simp [h0, h1]), Below.refl _ _⟩
              · have hbf := hid (show false = decide (0 ≤ i ∧ i < (n : Int)) by simp [h1])
                go_wp2
                go_meet
                case rel => exact ⟨false, rfl, hbf, Below.refl _ _⟩
            · have hbf := hid (show false = decide (0 ≤ i ∧ i < (n : Int)) by simp [h0])
              go_wp2
              go_meet
              case rel => exact ⟨false, rfl, hbf, Below.refl _ _⟩
          case rest =>
            as_aux_lemma =>
            obtain ⟨bb, rfl, hbb, hb8⟩ := hcut
            have hb48 := hb47.trans (hb8.mono hb47.size)
            have hv8 := hv7.below hb8
            have hr38 := hr37.below hb8
            have hgP : Hid (getN32 l i < 4294967296) := hid (by
              unfold getN32
              split
              · omega
              · rcases Nat.lt_or_ge i.toNat l.length with h | h
                · rw [List.getD_eq_getElem?_getD, List.getElem?_eq_getElem h]; exact hm.out _ (List.getElem_mem h)
                · rw [List.getD_eq_getElem?_getD, List.getElem?_eq_none h]; simp)
            go_upto_if 117 with fail
            go_cut [19] (fun s19 wy => s19 = .int .u64 (getN32 l i : Int) ∧ Below wc.heap.size wc wy)
            case first =>
              cases bb with
              | true =>
                have hbi : 0 ≤ i ∧ i < (n : Int) := by simpa using hbb.out.symm
                obtain ⟨j, rfl⟩ : ∃ j : Nat, i = (j : Int) := ⟨i.toNat, by omega⟩
                have hjl : j < l.length := by rw [hn.out]; omega
                obtain ⟨b, o, rfl, hb, hc⟩ := hr38 (by rw [uk_length]; omega)
                have hce := hc j _ (uk_get .u64 l j hjl)
                have hgg := getN32_in l j hjl
                rw [← hgg] at hce
                obtain ⟨G, hG⟩ : ∃ G, getN32 l (j : Int) = G := ⟨_, rfl⟩
                rw [hG] at hce
                have hjI : (j : Int) < (n : Int) := hbi.2
                replace hG := hid hG
                clear hc hgg hbi
                go_wp2
                go_meet
                case rel => exact ⟨by rw [hG.out], Below.refl _ _⟩
              | false =>
                have hG := hid (getN32_out l i (by
                  have h : ¬ (0 ≤ i ∧ i < (n : Int)) := by simpa using hbb.out.symm
                  rw [hn.out]; omega))
                go_wp2
                go_meet
                case rel => exact ⟨by rw [hG.out]; rfl, Below.refl _ _⟩
            case rest =>
              as_aux_lemma =>
              obtain ⟨rfl, hb9⟩ := hcut
              have hb49 := hb48.trans (hb9.mono hb48.size)
              have hv9 := hv8.below hb9
              clear hv8 hv7 hvec hr37 hr38 hb47 hb48 hb8 hb9 hbb
              obtain ⟨G, hG⟩ : ∃ G, getN32 l i = G := ⟨_, rfl⟩
              rw [hG] at hgP ⊢
              have hwG : IntKind.u64.wrap (G : Int) = (G : Int) := by have := hgP.out; rw [IntKind.wrap_u64]; omega
              have hGG : ((G : Int) != (G : Int)) = false := by simp
              replace hG := hid hG
              have hrd : Hid (readP 32 (X ++ [7]) = (zn, l, N, 0)) := hid (by
                rw [← hN.out, ← hX.out]
                exact read_pack 32 zn l [7] hzn (by rw [hn.out]; omega) (widthL_le.1 hzw.out) hm.out)
              have hXl : Hid ((X ++ [7]).length = N + 1) := hid (by rw [List.length_append, hN.out]; rfl)
              go_wp2_with fail
              refine (get32 g zn n l i _ hv9 hn.out (by omega)).mono ?_
              rintro e w9 ⟨rfl, rfl⟩
              rw [hG.out]
              go_wp2_with fail
              refine (bytes32 g zn n l _ hv9 hzn hn.out (by omega) hm).mono ?_
              rintro e w10 ⟨A10, c10, rfl, hown10, hb10⟩
              rw [hX.out, hN.out] at hown10 ⊢
              have hb410 := hb49.trans (hb10.mono hb49.size)
              have hv10 := hv9.below hb10
              have hs10 := hb10.size
              clear hGG
              go_wp2_with (at_builtin; refine wpList_app _ rfl (.tmp 130) (.tmp 131) 23 rfl _ 5 i0 (.int .u8 0) 1 Try.underlying23 hi hz0 hz1 hz2 rfl _ _ _ _ rfl (hown10.alloc _) _ _ _ [.int .u8 7] rfl (Rd.one _ _ _) rfl (one_int _ _) (by unfold maxLen; omega) (by omega) (by simp; omega) ?_; intro A11 c11 w11 hown11 hg11 hb11 _)
              have hb411 := (hb410.alloc hb410.size (.cells #[.int .u8 7] 5)).trans (hb11.mono hb49.size)
              have hv11 : VecAt 94 .u32 g zn l w11 := hv9.below ((hb10.alloc hs10 (.cells #[.int .u8 7] 5)).trans hb11)
              have hcap11 := own_cap hown11
              have hr11 : Rd w11 A11 (cb (X ++ [7])) := by have h := Rd.of_own hown11; rw [cb_append]; exact h
              clear hown10 hown11 hg11 hb10 hb11 hv10 hb410 hv9
              refine (read32 A11 (N + 1) c11 (X ++ [7]) w11 hXl.out hr11 hcap11.1 hcap11.2 (by omega)).mono ?_
              rintro e w12 ⟨hb12', h12⟩
              rw [hrd.out] at h12
              rw [if_pos rfl] at h12
              obtain ⟨g2, rfl, hg2, hv12⟩ := h12
              have hb412 := hb411.trans (hb12'.mono hb411.size)
              have hv1 := hv11.below hb12'
              have hx0 : Ext w12 w12 := Ext.refl w12
              have f3 : ∀ wx, Ext w12 wx → Calls Try.prog 25 #[.pointer (some ⟨g, 0, none⟩)] wx (Res 5 N (cb X) wx) := fun wx hx => by
                have h := bytes32 g zn n l wx (hv1.below hx) hzn hn.out (by omega) hm
                rwa [hX.out, hN.out] at h
              have f4 : ∀ wx, Ext w12 wx → Calls Try.prog 25 #[.pointer (some ⟨g2, 0, none⟩)] wx (Res 5 N (cb X) wx) := fun wx hx => by
                have h := bytes32 g2 zn n l wx (hv12.below hx) hzn hn.out (by omega) hm
                rwa [hX.out, hN.out] at h
              have n1 : ((N : Int) != (N : Int)) = false := by simp
              as_aux_lemma =>
              clear hr11 hcap11 hb411 hb49 hv11 hb12' hs10
              go_wp2_with fail
              refine wp_region_free (by kernel_rfl) (by kernel_rfl) ?_
              repeat
                (refine walk_q ?_
                 apply Exists.intro
                 refine ⟨fun vs wx hw hd => ?_, ?_⟩
                 rotate_left
                 simp only [Act.put, Nat.reduceAdd, List.setIfInBounds_toArray, List.set_cons_succ, List.set_cons_zero]
                 rotate_right
                 focus
                   (try simp [updE, Region.binds] at hd)
                   go_simp
                   try go_bits
                   try (rw [if_pos (by omega)]; try go_simp; try go_bits)
                   try (rw [if_neg (by omega)]; try go_simp; try go_bits)
                   first
                     | rfl
                     | (fail))
              refine walk_r (SlS N X) (slS_stable _ _) (fun vs wx hw hd => ?_) ?_
              · (try simp [updE, Region.binds] at hd)
                go_simp
                refine (f3 wx hw).mono ?_
                rintro e w4 ⟨A4, c4, rfl, hown4, hb4⟩
                exact ⟨_, rfl, hb4, A4, c4, rfl, Rd.of_own hown4⟩
              simp only [Act.put, Nat.reduceAdd, List.setIfInBounds_toArray, List.set_cons_succ, List.set_cons_zero]
              refine walk_q ?_
              apply Exists.intro
              refine ⟨fun vs wx hw hd => ?_, ?_⟩
              rotate_left
              simp only [Act.put, Nat.reduceAdd, List.setIfInBounds_toArray, List.set_cons_succ, List.set_cons_zero]
              rotate_right
              · simp [updE, Region.binds] at hd
                obtain ⟨A4, c4, hv4, hd4⟩ : SlS N X _ _ := (by first | exact hd | exact hd.1)
                go_simp
                rfl
              repeat
                (refine walk_q ?_
                 apply Exists.intro
                 refine ⟨fun vs wx hw hd => ?_, ?_⟩
                 rotate_left
                 simp only [Act.put, Nat.reduceAdd, List.setIfInBounds_toArray, List.set_cons_succ, List.set_cons_zero]
                 rotate_right
                 focus
                   (try simp [updE, Region.binds] at hd)
                   go_simp
                   try go_bits
                   try (rw [if_pos (by omega)]; try go_simp; try go_bits)
                   try (rw [if_neg (by omega)]; try go_simp; try go_bits)
                   first
                     | rfl
                     | (fail))
              refine walk_r (SlS N X) (slS_stable _ _) (fun vs wx hw hd => ?_) ?_
              · (try simp [updE, Region.binds] at hd)
                go_simp
                refine (f4 wx hw).mono ?_
                rintro e w4 ⟨A4, c4, rfl, hown4, hb4⟩
                exact ⟨_, rfl, hb4, A4, c4, rfl, Rd.of_own hown4⟩
              simp only [Act.put, Nat.reduceAdd, List.setIfInBounds_toArray, List.set_cons_succ, List.set_cons_zero]
              refine walk_q ?_
              apply Exists.intro
              refine ⟨fun vs wx hw hd => ?_, ?_⟩
              rotate_left
              simp only [Act.put, Nat.reduceAdd, List.setIfInBounds_toArray, List.set_cons_succ, List.set_cons_zero]
              rotate_right
              · simp [updE, Region.binds] at hd
                have hcs := slS_conv hN.out (by first | exact hd | exact hd.1)
                go_simp
                rfl
              repeat
                (refine walk_q ?_
                 apply Exists.intro
                 refine ⟨fun vs wx hw hd => ?_, ?_⟩
                 rotate_left
                 simp only [Act.put, Nat.reduceAdd, List.setIfInBounds_toArray, List.set_cons_succ, List.set_cons_zero]
                 rotate_right
                 focus
                   (try simp [updE, Region.binds] at hd)
                   go_simp
                   try go_bits
                   try (rw [if_pos (by omega)]; try go_simp; try go_bits)
                   try (rw [if_neg (by omega)]; try go_simp; try go_bits)
                   first
                     | rfl
                     | (fail))
              refine walk_r (SlS N X) (slS_stable _ _) (fun vs wx hw hd => ?_) ?_
              · (try simp [updE, Region.binds] at hd)
                go_simp
                refine (f3 wx hw).mono ?_
                rintro e w4 ⟨A4, c4, rfl, hown4, hb4⟩
                exact ⟨_, rfl, hb4, A4, c4, rfl, Rd.of_own hown4⟩
              simp only [Act.put, Nat.reduceAdd, List.setIfInBounds_toArray, List.set_cons_succ, List.set_cons_zero]
              refine walk_q ?_
              apply Exists.intro
              refine ⟨fun vs wx hw hd => ?_, ?_⟩
              rotate_left
              simp only [Act.put, Nat.reduceAdd, List.setIfInBounds_toArray, List.set_cons_succ, List.set_cons_zero]
              rotate_right
              · simp [updE, Region.binds] at hd
                have hcs := slS_conv hN.out (by first | exact hd | exact hd.1)
                go_simp
                rfl
              repeat
                (refine walk_q ?_
                 apply Exists.intro
                 refine ⟨fun vs wx hw hd => ?_, ?_⟩
                 rotate_left
                 simp only [Act.put, Nat.reduceAdd, List.setIfInBounds_toArray, List.set_cons_succ, List.set_cons_zero]
                 rotate_right
                 focus
                   (try simp [updE, Region.binds] at hd)
                   go_simp
                   try go_bits
                   try (rw [if_pos (by omega)]; try go_simp; try go_bits)
                   try (rw [if_neg (by omega)]; try go_simp; try go_bits)
                   first
                     | rfl
                     | (fail))
              refine walk_end ?_
              intro vs wx hw hv
              simp [AllE, updE] at hv
              simp only [hv]
              clear hv
              have hb5 := hb412.trans (Below.mono hw hb412.size)
              clear f3 f4 n1
              go_wp2
              go_meet
              case rel => exact hb5
        · rcases hnew.out with ⟨hyes, _⟩ | ⟨_, rfl, rfl⟩
          · exact absurd hyes hok
          rcases hmay.out with ⟨hyes, _⟩ | ⟨_, rfl⟩
          · exact absurd hyes hok
          have hp1 : ∀ wx, (binOp BinOp.neq 55 (.pointer none) (.pointer none)).run Try.prog wx = .ok (.bool false) wx := fun wx => by rfl
          replace hok := hid hok
          clear hnew hmay
          go_wp2
          go_meet
          case rel => exact Below.refl _ _
      case rest =>
        as_aux_lemma =>
        have hb4 := hcut
        clear hnew hmay hcut
        have hb14 := hb13.trans (hb4.mono hb13.size)
        have hr34 := hr33.below hb4
        have hr14 := hr13.below hb4
        have hrs4 := hrs3.below hb4
        obtain ⟨t, ht⟩ : ∃ t, readP 32 s = t := ⟨_, rfl⟩
        obtain ⟨wd, nums, nx, er⟩ := t
        have hq1 : ∀ g wx, (binOp BinOp.neq 55 (.pointer (some ⟨g, 0, none⟩)) (.pointer none)).run Try.prog wx = .ok (.bool true) wx := fun g wx => by rfl
        have hq2 : ∀ g wx, (binOp BinOp.eql 55 (.pointer (some ⟨g, 0, none⟩)) (.pointer none)).run Try.prog wx = .ok (.bool false) wx := fun g wx => by rfl
        have hq3 : ∀ wx, (binOp BinOp.neq 55 (.pointer none) (.pointer none)).run Try.prog wx = .ok (.bool false) wx := fun wx => by rfl
        have hq4 : ∀ wx, (binOp BinOp.eql 55 (.pointer none) (.pointer none)).run Try.prog wx = .ok (.bool true) wx := fun wx => by rfl
        obtain ⟨Q, hQ⟩ : ∃ Q, widthL l = Q := ⟨_, rfl⟩
        have hQQ : ((Q : Int) != (Q : Int)) = false := by simp
        replace hQ := hid hQ
        clear hr33 hr13 hrs3 hr3 hown3 hr1 hrs1 hb12 hb3 hb2 hb1 hb4
        go_wp2_with fail
        refine (read32 B m d s _ hs.out hrs4 hmd hdm (by omega)).mono ?_
        rintro e w5 ⟨hb5, h5⟩
        rw [ht] at h5
        simp only [] at h5
        have hb15 := hb14.trans (hb5.mono hb14.size)
        have hr35 := hr34.below hb5
        have hr15 := hr14.below hb5
        have hcs := run_strn w5 23 9 5 Try.underlying23 Try.underlying5 Try.underlying9 B m s d hs.out (hrs4.below hb5)
        by_cases he : er = 0
        · subst he
          as_aux_lemma =>
          rw [if_pos rfl] at h5
          obtain ⟨g, rfl, hg, hv⟩ := h5
          have hok := readP_ok 32 s (by rw [ht])
          rw [ht] at hok
          simp only [] at hok
          obtain ⟨hwd, hnl, hnlt, hnx⟩ := hok
          have hnlt : Hid (∀ x ∈ nums, x < 4294967296) := hid hnlt
          obtain ⟨I, hI⟩ : ∃ I, nums.length = I := ⟨_, rfl⟩
          rw [hI] at hnl
          replace ht := hid ht
          replace hI := hid hI
          have m1 : ((nx : Int) != (nx : Int)) = false := by simp
          have m2 : ((wd : Int) == (wd : Int)) = true := by simp
          go_wp2_with fail
          refine (refRead_any 32 m s _ hs.out (by omega) (by omega)).mono ?_
          rintro e w6 ⟨A6, c6, rfl, hr6, hb6⟩
          rw [ht.out] at hr6 ⊢
          simp only [] at hr6 ⊢
          rw [hI.out]
          have hb16 := hb15.trans (hb6.mono hb15.size)
          have hr36 := hr35.below hb6
          have hr16 := hr15.below hb6
          have hv6 := hv.below hb6
          clear hcs hr35 hr15 hr34 hr14 hrs4 hb5 hb6 hb15 hb14
          go_wp2_with (first | (go_at_call 23; refine (width32 A n l c _ hn.out hr16 (by omega) hm).mono ?_; rintro e w7 ⟨rfl, rfl⟩; rw [hQ.out]) | (go_at_call 40; refine (refWidth_any A3 n l c3 _ hn.out hr36 (by omega) hm64).mono ?_; rintro e w7 ⟨rfl, rfl⟩; rw [hQ.out]))
          refine (all32 g wd nums 200000 w6 hv6 (by rw [hI.out]; exact hnl) (by omega) hnlt).mono ?_
          rintro e w7 ⟨A7, c7, rfl, hown7, hb7⟩
          rw [List.take_of_length_le (by rw [hI.out]; omega)] at hown7 ⊢
          rw [hI.out] at hown7 ⊢
          have hb17 := hb16.trans (hb7.mono hb16.size)
          have hr7 := Rd.of_own hown7
          have hr67 := hr6.below hb7
          have hv7 := hv6.below hb7
          clear hown7 hQQ m1
          go_wp2_with fail
          refine (same_true A7 I c7 A6 c6 nums w7 hI.out hr7 hr67 (by omega)).mono ?_
          rintro e w8 ⟨rfl, hb8⟩
          have hv8 := hv7.below hb8
          go_wp2_with fail
          refine (vwidth32 g wd nums _ hv8).mono ?_
          rintro e w9 ⟨rfl, rfl⟩
          go_wp2_with fail
          go_ret
          exact ⟨rfl, hb17.trans (hb8.mono hb17.size)⟩
        · as_aux_lemma =>
          rw [if_neg he] at h5
          subst h5
          have hbad := readP_err 32 s (by rw [ht]; exact he)
          rw [ht] at hbad
          simp only [] at hbad
          obtain ⟨rfl, rfl, rfl⟩ := hbad
          have heb : ((er : Int) == 0) = false := by rw [beq_eq_false_iff_ne]; omega
          have hee : ((er : Int) != (er : Int)) = false := by simp
          replace ht := hid ht
          go_wp2_with fail
          refine (refRead_any 32 m s _ hs.out (by omega) (by omega)).mono ?_
          rintro e w6 ⟨A6, c6, rfl, hr6, hb6⟩
          rw [ht.out] at hr6 ⊢
          simp only [List.length_nil] at hr6 ⊢
          have hb16 := hb15.trans (hb6.mono hb15.size)
          have hr36 := hr35.below hb6
          have hr16 := hr15.below hb6
          clear hcs hr35 hr15 hr34 hr14 hrs4 hb5 hb6 hb15 hb14
          go_wp2_with (first | (go_at_call 23; refine (width32 A n l c _ hn.out hr16 (by omega) hm).mono ?_; rintro e w7 ⟨rfl, rfl⟩; rw [hQ.out]) | (go_at_call 40; refine (refWidth_any A3 n l c3 _ hn.out hr36 (by omega) hm64).mono ?_; rintro e w7 ⟨rfl, rfl⟩; rw [hQ.out]))
          go_ret
          exact ⟨rfl, hb16⟩
end Go.Proofs.Ytgclakhcddadpaa
