/-
  THE WALK of CrcSums.
-/
import Derived.Test.YtbneihahfagoiaaCrcK
import Derived.Test.YtbneihahfagoiaaRefC
import Derived.Test.YtbneihahfagoiaaRowsIn
import Derived.Test.YtbneihahfagoiaaFree
import Derived.Laws.IdiomStrings
namespace Go.Proofs.Ytbneihahfagoiaa
open Go.RowKit

/-- '[]byte(s)': new memory that reads as s. -/
theorem run_conv_bytes {P : Program} (w : World) (src dst e : TypeId) (hs : P.underlying src = some .string) (hd : P.underlying dst = some (.slice e)) (he : P.underlying e = some (.int .u8)) (l : List UInt8) :
    ∃ c w', (convert src dst (.string ⟨l.toArray⟩)).run P w = .ok (.slice (some ⟨w.heap.size, 0, none⟩) l.length c) w' ∧ Rd w' (some ⟨w.heap.size, 0, none⟩) (cb l) ∧ Below w.heap.size w w' := by
  have h := run_bytes_of_string (P := P) w src dst e ⟨l.toArray⟩ hs hd he
  refine ⟨_, _, h, ?_, (Below.refl _ w).drew.alloc (Nat.le_refl _) _⟩
  intro hp
  refine ⟨w.heap.size, 0, rfl, by simp, fun j u hu => ?_⟩
  have hj : j < l.length := by
    rcases Nat.lt_or_ge j l.length with h | h
    · exact h
    · rw [List.getElem?_eq_none (by rw [cb_length]; exact h)] at hu; cases hu
  rw [cb_get l j hj] at hu
  injection hu with hu
  subst hu
  have hb := bytesRow_at ⟨l.toArray⟩ (grownCap w (ByteArray.size ⟨l.toArray⟩) 0 e) j (by simpa using hj)
  simp only [World.cell?, World.alloc, World.drew, Array.getElem?_push, Nat.zero_add]
  simp only [if_true]
  rw [hb]
  rfl

theorem more_flatten (ls : List (List UInt8)) : ∀ s, ls.foldl more s = more s ls.flatten := by
  induction ls with
  | nil => intro s; rw [List.flatten_nil, more_nil]; rfl
  | cons l ls ih => intro s; rw [List.foldl_cons, ih, List.flatten_cons, more_append]

/-- A slice of bytes, wherever it lies, its capacity no less than its length. -/
theorem slS_conv {wx : World} {n : Nat} {l : List UInt8} {v : Value} (hn : l.length = n) (h : SlS n l v wx) : (convert 22 9 v).run Try.prog wx = .ok (.string ⟨l.toArray⟩) wx := by
  obtain ⟨A, c, rfl, hd⟩ := h
  exact run_strn wx 22 9 5 Try.underlying22 Try.underlying5 Try.underlying9 A n l c hn hd

set_option maxHeartbeats 4000000 in
set_option maxRecDepth 100000 in
theorem sums_walk (A : Option Addr) (L : Nat) (c : Nat) (l : List UInt8) (B : Option Addr) (M d : Nat) (ls : List (List UInt8)) (w : World) (hL : l.length = L) (hr : Rd w A (cb l)) (hA : A = none → l = []) (hLc : L ≤ c) (hcm : c ≤ maxLen) (hP : IsRows w B M d ls) :
    Calls Try.prog 7 #[.slice A L c, .slice B M d] w (Yes w) := by
  obtain ⟨hM, hBn, hMd, hdm, vs, hvl, hvr, hrow⟩ := hP
  replace hL := hid hL
  replace hM := hid hM
  replace hvl := hid hvl
  replace hcm := hid hcm
  replace hdm := hid hdm
  by_cases hbig : 5000 < L
  · go_enter Try.func7, Try.ntmps7
    go_wp2_with (go_at_call 9; refine (awake_any _).mono ?_; rintro e w3 ⟨rfl, hb3⟩)
    go_ret
    exact ⟨rfl, hb3⟩
  · by_cases hbig2 : 50 < M
    · go_enter Try.func7, Try.ntmps7
      go_wp2_with (go_at_call 9; refine (awake_any _).mono ?_; rintro e w3 ⟨rfl, hb3⟩)
      go_ret
      exact ⟨rfl, hb3⟩
    · have hcm2 := hcm.out
      have hdm2 := hdm.out
      unfold maxLen at hcm2 hdm2
      go_enter Try.func7, Try.ntmps7
      go_wp2
      go_loop [5, 6] (fun s i => ∃ (j : Nat) (T : List UInt8), i = .int .i64 j ∧ j ≤ M ∧ s = .string ⟨T.toArray⟩ ∧ T.length ≤ 200 * j ∧ Hid (T = (ls.take j).flatten ∧ ∀ x ∈ ls.take j, x.length ≤ 200)) (fun _ i => M - (intOf i).toNat)
      case atStart => exact ⟨0, [], rfl, by omega, rfl, by simp, hid ⟨by simp, by simp⟩⟩
      case round =>
        obtain ⟨j, T, rfl, hj, rfl, hTl, hT⟩ := hrel
        by_cases hlt : j < M
        · have hjl : j < ls.length := by rw [hM.out]; exact hlt
          obtain ⟨Aj, cj, hv, hdj, _, hjc, hcjm⟩ := hrow j ls[j] (List.getElem?_eq_getElem hjl)
          obtain ⟨b, o, rfl, hbo, hce⟩ := hvr (by rw [hvl.out]; omega)
          have hck := hce j _ hv
          have hnx : Hid (∀ x : List UInt8, ls[j] = x → x.length ≤ 200 → (T ++ x) = (ls.take (j + 1)).flatten ∧ ∀ y ∈ ls.take (j + 1), y.length ≤ 200) := hid (fun x hx hx2 => by
            rw [List.take_succ_eq_append_getElem hjl, hx]
            exact ⟨by rw [List.flatten_append, ← hT.out.1]; simp, fun y hy => by
              rcases List.mem_append.1 hy with h | h
              · exact hT.out.2 y h
              · simp at h; subst h; exact hx2⟩)
          obtain ⟨x, hx⟩ : ∃ x, ls[j] = x := ⟨_, rfl⟩
          have hnx := hid (hnx.out x hx)
          rw [hx] at hv hdj hck hjc
          obtain ⟨X, hX⟩ : ∃ X, x.length = X := ⟨_, rfl⟩
          rw [hX] at hv hck hjc
          have hXm : X ≤ 9223372036854775807 := by unfold maxLen at hcjm; omega
          clear hce hrow hx hv
          by_cases h2 : 200 < X
          · go_wp2_with (go_at_call 9; refine (awake_any _).mono ?_; rintro e w3 ⟨rfl, hb3⟩)
            go_ret
            exact ⟨rfl, hb3⟩
          · have hcv := run_strn (P := Try.prog) w 22 9 5 Try.underlying22 Try.underlying5 Try.underlying9 Aj X x cj hX hdj
            have hadd := run_add_lists (P := Try.prog) T x (by rw [hX]; omega)
            replace hX := hid hX
            clear hdj
            go_wp2
            go_round
            case rel => exact ⟨j + 1, T ++ x, by go_num, by omega, rfl, by rw [List.length_append, hX.out]; omega, hid (hnx.out (by rw [hX.out]; omega))⟩
            case measure => simp [intOf]; omega
        · obtain rfl : j = M := by omega
          have hTf : T = ls.flatten := by have h := hT.out.1; rwa [List.take_of_length_le (by rw [hM.out]; exact Nat.le_refl _)] at h
          have hpl : ∀ x ∈ ls, x.length ≤ 200 := by have h := hT.out.2; rwa [List.take_of_length_le (by rw [hM.out]; exact Nat.le_refl _)] at h
          have hPa : PartsAt w B j ls := ⟨hM.out, vs, hvr, hvl.out, fun q x hq => by
            obtain ⟨Aj, cj, k1, k2, _⟩ := hrow q x hq
            exact ⟨Aj, cj, k1, k2, by have := hpl x (List.mem_of_getElem? hq); omega⟩⟩
          have hcv0 := run_strn (P := Try.prog) w 22 9 5 Try.underlying22 Try.underlying5 Try.underlying9 A L l c hL.out hr
          have hfold : Hid (ls.foldl more 0#32 = sum T) := hid (by rw [more_flatten, ← hTf]; rfl)
          clear hTf hT hrow hvr hvl hpl
          go_wp2_with fail
          refine (open_any A L l c _ hL.out hr hA hLc hcm.out (by omega)).mono ?_
          rintro e w1 ⟨A1, c1, rfl, hown1, hb1⟩
          clear hcv0
          go_wp2_with fail
          refine (refOpen_any L l _ hL.out (by omega)).mono ?_
          rintro e w2 ⟨rfl, hb2⟩
          have hbw2 := hb1.trans (hb2.mono hb1.size)
          go_wp2_with fail
          refine (seal_any A L l c _ hL.out (hr.below hbw2) (by omega)).mono ?_
          rintro e w3 ⟨A3, c3, rfl, hown3, hb3⟩
          have hbw3 := hbw2.trans (hb3.mono hbw2.size)
          have hcap3 := own_cap hown3
          have hcap3' := hcap3
          go_wp2_with fail
          refine (open_any A3 (L + 4) (seal_ l) c3 _ (by rw [seal_length, hL.out]) (Rd.of_own hown3) (fun h => by obtain ⟨g, hg, _⟩ := own_addr hown3 (by omega); rw [h] at hg; cases hg) hcap3.1 hcap3.2 (by omega)).mono ?_
          rintro e w4 ⟨A4, c4, rfl, hown4, hb4⟩
          rw [open_seal] at hown4 ⊢
          simp only [] at hown4 ⊢
          rw [hL.out] at hown4 ⊢
          have hbw4 := hbw3.trans (hb4.mono hbw3.size)
          go_wp2_with fail
          obtain ⟨⟨ol, oe⟩, hOR⟩ : ∃ p, openR l = p := ⟨_, rfl⟩
          rw [hOR] at hown1 ⊢
          simp only [] at hown1 ⊢
          clear hOR
          obtain ⟨s1, hS1⟩ : ∃ s, sum l = s := ⟨_, rfl⟩
          obtain ⟨s2, hS2⟩ : ∃ s, sum T = s := ⟨_, rfl⟩
          obtain ⟨s3, hS3⟩ : ∃ s, sum (l ++ T) = s := ⟨_, rfl⟩
          have hmo : Hid (more s1 T = s3) := hid (by rw [← hS1, ← hS3, sum_append])
          replace hS1 := hid hS1
          replace hS2 := hid hS2
          replace hS3 := hid hS3
          have hr4 := hr.below hbw4
          have hPa4 : ∀ wx, Ext w4 wx → PartsAt wx B j ls := fun wx hx => by
            obtain ⟨k1, vs', k2, k3, k4⟩ := hPa
            refine ⟨k1, vs', (k2.below hbw4).below hx, k3, fun q y hq => ?_⟩
            obtain ⟨Aq, cq, z1, z2, z3⟩ := k4 q y hq
            exact ⟨Aq, cq, z1, (z2.below hbw4).below hx, z3⟩
          have hadd : ∀ wx, (Op.stringOp .add ⟨l.toArray⟩ ⟨T.toArray⟩).run Try.prog wx = .ok (.string ⟨(l ++ T).toArray⟩) wx := run_add_lists (P := Try.prog) l T (by rw [hL.out]; omega)
          have rd1 : Rd w4 A1 (cb ol) := (((Rd.of_own hown1).below hb2).below hb3).below hb4
          have rd4 : Rd w4 A4 (cb l) := Rd.of_own hown4
          have hcx : ∀ wx, Ext w4 wx → (convert 22 9 (.slice A1 ol.length ol.length)).run Try.prog wx = .ok (.string ⟨ol.toArray⟩) wx :=
            fun wx hx => run_strn wx 22 9 5 Try.underlying22 Try.underlying5 Try.underlying9 A1 ol.length ol ol.length rfl (rd1.below hx)
          have hcz : ∀ wx, Ext w4 wx → (convert 22 9 (.slice A4 L L)).run Try.prog wx = .ok (.string ⟨l.toArray⟩) wx :=
            fun wx hx => run_strn wx 22 9 5 Try.underlying22 Try.underlying5 Try.underlying9 A4 L l L hL.out (rd4.below hx)
          have hx0 : Ext w4 w4 := Ext.refl w4
          clear hown1 hown3 hown4 hb1 hb2 hb3 hb4 hcap3 hcap3' hPa hbw2 hbw3
          refine wp_region_free (by kernel_rfl) (by kernel_rfl) ?_
          repeat
            (refine walk_q ?_
             apply Exists.intro
             refine ⟨fun vs wx hw hd => ?_, ?_⟩
             rotate_left
             simp only [Act.put, Nat.reduceAdd, List.setIfInBounds_toArray, List.set_cons_succ, List.set_cons_zero]
             rotate_right
             focus
               (try simp [updE, Region.binds] at hd)
               go_simp
               try go_bits
               try (rw [if_pos (by omega)]; try go_simp; try go_bits)
               try (rw [if_neg (by omega)]; try go_simp; try go_bits)
               first
                 | rfl
                 | (go_at_call 10; refine (sum_any A L l c _ hL.out (hr4.below hw) (by omega)).mono ?_; rintro e w5 ⟨rfl, hb5⟩; rw [hS1.out]; exact ⟨rfl, hb5⟩)
                 | (go_at_call 14; (first | (with_reducible refine (refSum_l l _ (by rw [hL.out]; omega)).mono ?_) | (with_reducible refine (refSum_l T _ (by omega)).mono ?_) | (with_reducible refine (refSum_l (l ++ T) _ (by rw [List.length_append, hL.out]; omega)).mono ?_)); rintro e w5 ⟨rfl, rfl⟩; (first | rw [hS1.out] | rw [hS2.out] | rw [hS3.out]); exact ⟨rfl, Below.refl _ _⟩)
                 | (go_at_call 15; refine (parts_any B j d ls _ (hPa4 _ hw) (by omega)).mono ?_; rintro e w5 ⟨rfl, hb5⟩; rw [hfold.out, hS2.out]; exact ⟨rfl, hb5⟩)
                 | (go_at_call 17; refine (refSeal_any l _ (by rw [hL.out]; omega)).mono ?_; rintro e w5 ⟨rfl, hb5⟩; exact ⟨rfl, hb5⟩)
                 | (go_at_call 9; refine (awake_any _).mono ?_; rintro e w5 ⟨rfl, hb5⟩; exact ⟨rfl, hb5⟩))
          refine walk_r (SlS T.length T) (slS_stable _ _) (fun vs wx hw hd => ?_) ?_
          · (try simp [updE, Region.binds] at hd)
            obtain ⟨cv, wv, hcvr, hcvd, hcvb⟩ := run_conv_bytes (P := Try.prog) wx 9 22 5 Try.underlying9 Try.underlying22 Try.underlying5 T
            go_simp
            exact ⟨hcvb, _, _, rfl, hcvd⟩
          simp only [Act.put, Nat.reduceAdd, List.setIfInBounds_toArray, List.set_cons_succ, List.set_cons_zero]
          refine walk_q ?_
          apply Exists.intro
          refine ⟨fun vs wx hw hd => ?_, ?_⟩
          rotate_left
          simp only [Act.put, Nat.reduceAdd, List.setIfInBounds_toArray, List.set_cons_succ, List.set_cons_zero]
          rotate_right
          · simp [updE, Region.binds] at hd
            obtain ⟨_, ⟨A5, c5, hv5, hd5⟩, _, _⟩ := hd
            go_simp
            go_at_call 16
            refine (more_any s1 A5 T.length T c5 wx rfl hd5 (by omega)).mono ?_
            rintro e w5 ⟨rfl, hb5⟩
            rw [hmo.out]
            exact ⟨rfl, hb5⟩
          repeat
            (refine walk_q ?_
             apply Exists.intro
             refine ⟨fun vs wx hw hd => ?_, ?_⟩
             rotate_left
             simp only [Act.put, Nat.reduceAdd, List.setIfInBounds_toArray, List.set_cons_succ, List.set_cons_zero]
             rotate_right
             focus
               (try simp [updE, Region.binds] at hd)
               go_simp
               try go_bits
               try (rw [if_pos (by omega)]; try go_simp; try go_bits)
               try (rw [if_neg (by omega)]; try go_simp; try go_bits)
               first
                 | rfl
                 | (go_at_call 10; refine (sum_any A L l c _ hL.out (hr4.below hw) (by omega)).mono ?_; rintro e w5 ⟨rfl, hb5⟩; rw [hS1.out]; exact ⟨rfl, hb5⟩)
                 | (go_at_call 14; (first | (with_reducible refine (refSum_l l _ (by rw [hL.out]; omega)).mono ?_) | (with_reducible refine (refSum_l T _ (by omega)).mono ?_) | (with_reducible refine (refSum_l (l ++ T) _ (by rw [List.length_append, hL.out]; omega)).mono ?_)); rintro e w5 ⟨rfl, rfl⟩; (first | rw [hS1.out] | rw [hS2.out] | rw [hS3.out]); exact ⟨rfl, Below.refl _ _⟩)
                 | (go_at_call 15; refine (parts_any B j d ls _ (hPa4 _ hw) (by omega)).mono ?_; rintro e w5 ⟨rfl, hb5⟩; rw [hfold.out, hS2.out]; exact ⟨rfl, hb5⟩)
                 | (go_at_call 17; refine (refSeal_any l _ (by rw [hL.out]; omega)).mono ?_; rintro e w5 ⟨rfl, hb5⟩; exact ⟨rfl, hb5⟩)
                 | (go_at_call 9; refine (awake_any _).mono ?_; rintro e w5 ⟨rfl, hb5⟩; exact ⟨rfl, hb5⟩))
          refine walk_r (SlS (L + 4) (seal_ l)) (slS_stable _ _) (fun vs wx hw hd => ?_) ?_
          · (try simp [updE, Region.binds] at hd)
            go_simp
            go_at_call 11
            refine (seal_any A L l c wx hL.out (hr4.below hw) (by omega)).mono ?_
            rintro e w5 ⟨A5, c5, rfl, hown5, hb5⟩
            exact ⟨_, rfl, hb5, A5, c5, rfl, Rd.of_own hown5⟩
          simp only [Act.put, Nat.reduceAdd, List.setIfInBounds_toArray, List.set_cons_succ, List.set_cons_zero]
          refine walk_q ?_
          apply Exists.intro
          refine ⟨fun vs wx hw hd => ?_, ?_⟩
          rotate_left
          simp only [Act.put, Nat.reduceAdd, List.setIfInBounds_toArray, List.set_cons_succ, List.set_cons_zero]
          rotate_right
          · simp [updE, Region.binds] at hd
            have hcs := slS_conv (by rw [seal_length, hL.out]) hd.1
            go_simp
            rfl
          repeat
            (refine walk_q ?_
             apply Exists.intro
             refine ⟨fun vs wx hw hd => ?_, ?_⟩
             rotate_left
             simp only [Act.put, Nat.reduceAdd, List.setIfInBounds_toArray, List.set_cons_succ, List.set_cons_zero]
             rotate_right
             focus
               (try simp [updE, Region.binds] at hd)
               go_simp
               try go_bits
               try (rw [if_pos (by omega)]; try go_simp; try go_bits)
               try (rw [if_neg (by omega)]; try go_simp; try go_bits)
               first
                 | rfl
                 | (go_at_call 10; refine (sum_any A L l c _ hL.out (hr4.below hw) (by omega)).mono ?_; rintro e w5 ⟨rfl, hb5⟩; rw [hS1.out]; exact ⟨rfl, hb5⟩)
                 | (go_at_call 14; (first | (with_reducible refine (refSum_l l _ (by rw [hL.out]; omega)).mono ?_) | (with_reducible refine (refSum_l T _ (by omega)).mono ?_) | (with_reducible refine (refSum_l (l ++ T) _ (by rw [List.length_append, hL.out]; omega)).mono ?_)); rintro e w5 ⟨rfl, rfl⟩; (first | rw [hS1.out] | rw [hS2.out] | rw [hS3.out]); exact ⟨rfl, Below.refl _ _⟩)
                 | (go_at_call 15; refine (parts_any B j d ls _ (hPa4 _ hw) (by omega)).mono ?_; rintro e w5 ⟨rfl, hb5⟩; rw [hfold.out, hS2.out]; exact ⟨rfl, hb5⟩)
                 | (go_at_call 17; refine (refSeal_any l _ (by rw [hL.out]; omega)).mono ?_; rintro e w5 ⟨rfl, hb5⟩; exact ⟨rfl, hb5⟩)
                 | (go_at_call 9; refine (awake_any _).mono ?_; rintro e w5 ⟨rfl, hb5⟩; exact ⟨rfl, hb5⟩))
          refine walk_end ?_
          intro vs wx hw hv
          simp [AllE, updE] at hv
          simp only [hv]
          clear hv
          go_wp2_with fail
          go_ret
          exact ⟨rfl, hbw4.trans (Below.mono hw hbw4.size)⟩
end Go.Proofs.Ytbneihahfagoiaa
