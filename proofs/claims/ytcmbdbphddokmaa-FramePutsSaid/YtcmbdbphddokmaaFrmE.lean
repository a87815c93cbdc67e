/-
  THE WALK of FramePuts.
-/
import Derived.Test.YtcmbdbphddokmaaFrmD
namespace Go.Proofs.Ytcmbdbphddokmaa
open Go.RowKit

set_option maxHeartbeats 4000000 in
set_option maxRecDepth 100000 in
theorem puts_walk (A : Option Addr) (L c : Nat) (l : List UInt8) (kind : Int) (B : Option Addr) (m d : Nat) (body : List UInt8) (w : World) (hL : l.length = L) (hr : Rd w A (cb l)) (hLc : L ≤ c) (hcm : c ≤ maxLen)
    (hm : body.length = m) (hb : Rd w B (cb body)) (hmd : m ≤ d) (hdm : d ≤ maxLen) :
    Calls Try.prog 3 #[.slice A L c, .int .i64 kind, .slice B m d] w (Yes w) := by
  have hcm' := hid hcm
  have hdm' := hid hdm
  unfold maxLen at hcm hdm
  replace hL := hid hL
  replace hm := hid hm
  by_cases hbig : 2000 < L
  · go_enter Try.func3, Try.ntmps3
    go_wp2_with (go_at_call 10; refine (awake_any _).mono ?_; rintro e w3 ⟨rfl, hb3⟩)
    go_ret
    exact ⟨rfl, hb3⟩
  · by_cases hbig2 : 3000 < m
    · go_enter Try.func3, Try.ntmps3
      go_wp2_with (go_at_call 10; refine (awake_any _).mono ?_; rintro e w3 ⟨rfl, hb3⟩)
      go_ret
      exact ⟨rfl, hb3⟩
    · by_cases hk : kind < 1 ∨ 250 < kind
      · have hok : okE kind m = 1 := by unfold okE; rw [if_pos hk]
        have hfo := fun w => refFrameOk_any kind m w (by omega)
        rw [hok] at hfo
        have hput := putF_arg A L c kind B m d w hk
        replace hk := hid hk
        clear hok
        go_enter Try.func3, Try.ntmps3
        go_wp2_with fail
        refine hput.mono ?_
        rintro e w1 ⟨rfl, rfl⟩
        go_wp2_with fail
        refine (hfo _).mono ?_
        rintro e w1 ⟨rfl, rfl⟩
        clear hput hfo
        go_wp2_with (go_at_call 10; refine (awake_any _).mono ?_; rintro e w3 ⟨rfl, hb3⟩)
        go_ret
        exact ⟨rfl, hb3⟩
      · obtain ⟨k, rfl⟩ := Int.eq_ofNat_of_zero_le (show 0 ≤ kind by omega)
        have h1 : 1 ≤ k := by omega
        have h2 : k ≤ 250 := by omega
        have hok : okE (k : Int) m = 0 := by unfold okE; rw [if_neg hk, if_neg (by omega)]
        have hfo := fun w => refFrameOk_any (k : Int) m w (by omega)
        rw [hok] at hfo
        clear hok hk
        obtain ⟨N, hN⟩ : ∃ N, L + m + 12 = N := ⟨_, rfl⟩
        have hput := putF_any A L c l k B m d body w hL.out hr (by omega) h1 h2 hm.out hb (by omega)
        rw [hN] at hput
        have htk := takeF_frame l k body [] h1 h2 (by rw [hm.out]; omega)
        rw [List.append_nil, hL.out, hm.out, show L + (m + 12) = N from by omega] at htk
        have hlen : Hid ((l ++ frameB k body).length = N) := hid (by rw [List.length_append, frameB_length, hL.out, hm.out]; omega)
        have hNi : (L : Int) + ((m : Int) + 12) = (N : Int) := by omega
        replace htk := hid htk
        go_enter Try.func3, Try.ntmps3
        go_wp2_with fail
        refine hput.mono ?_
        rintro e w1 ⟨A1, c1, rfl, hown1, hb1⟩
        have hcap := own_cap hown1
        go_wp2_with fail
        refine (hfo _).mono ?_
        rintro e w2 ⟨rfl, rfl⟩
        clear hput hfo
        go_wp2_with fail
        refine (takeF_in A1 N c1 (l ++ frameB k body) L w1 hlen.out (Rd.of_own hown1) hcap.1 hcap.2 (by omega)).mono ?_
        rintro e w2 ⟨A2, c2, c2', rfl, hown2, hlc2, hcm2, hb2⟩
        rw [htk.out] at hown2 hlc2 ⊢
        unfold recV
        simp only [] at hown2 hlc2 ⊢
        rw [hm.out] at hlc2 hown2 ⊢
        have hrd2 := Rd.of_own hown2
        clear hown2
        have hbw2 := hb1.trans (hb2.mono hb1.size)
        obtain ⟨w3, hw3⟩ : ∃ w3, w2.alloc (.cells #[.int .i64 (k : Int), .slice A2 m c2] 29) = w3 := ⟨_, rfl⟩
        have hbx : w3.heap[w2.heap.size]? = some (.cells #[.int .i64 (k : Int), .slice A2 m c2] 29 (0, 0)) := by rw [← hw3]; exact heap_alloc_new w2 _
        have hbw3 : Below w.heap.size w w3 := by rw [← hw3]; exact hbw2.alloc hbw2.size _
        have rd0 : Rd w3 A (cb l) := hr.below hbw3
        have rdB : Rd w3 B (cb body) := hb.below hbw3
        have rd1 : Rd w3 A1 (cb (l ++ frameB k body)) := by rw [← hw3]; exact ((Rd.of_own hown1).below hb2).alloc _
        have rd2 : Rd w3 A2 (cb body) := by rw [← hw3]; exact hrd2.alloc _
        have hsz : w2.heap.size < w3.heap.size := by rw [← hw3]; simp
        replace hw3 := hid hw3
        clear hr hb hown1 hrd2 hb1 hb2 hbw2 htk
        go_wp2_with fail
        rw [hw3.out]
        have hcv0 : ∀ wx, Ext w3 wx → (convert 22 9 (.slice A L c)).run Try.prog wx = .ok (.string ⟨l.toArray⟩) wx :=
          fun wx hx => run_strn wx 22 9 5 Try.underlying22 Try.underlying5 Try.underlying9 A L l c hL.out (rd0.below hx)
        have hcvB : ∀ wx, Ext w3 wx → (convert 22 9 (.slice B m d)).run Try.prog wx = .ok (.string ⟨body.toArray⟩) wx :=
          fun wx hx => run_strn wx 22 9 5 Try.underlying22 Try.underlying5 Try.underlying9 B m body d hm.out (rdB.below hx)
        have hcv1 : ∀ wx, Ext w3 wx → (convert 22 9 (.slice A1 N c1)).run Try.prog wx = .ok (.string ⟨(l ++ frameB k body).toArray⟩) wx :=
          fun wx hx => run_strn wx 22 9 5 Try.underlying22 Try.underlying5 Try.underlying9 A1 N _ c1 hlen.out (rd1.below hx)
        have hcv2 : ∀ wx, Ext w3 wx → (convert 22 9 (.slice A2 m c2)).run Try.prog wx = .ok (.string ⟨body.toArray⟩) wx :=
          fun wx hx => run_strn wx 22 9 5 Try.underlying22 Try.underlying5 Try.underlying9 A2 m body c2 hm.out (rd2.below hx)
        have hk0 : ∀ wx, Ext w3 wx → wx.cell? ⟨w2.heap.size, 0, none⟩ = some (.int .i64 (k : Int)) := fun wx hx => (rec_cells ((hx.block _ hsz).trans hbx)).1
        have hk1 : ∀ wx, Ext w3 wx → wx.cell? ⟨w2.heap.size, 1, none⟩ = some (.slice A2 m c2) := fun wx hx => (rec_cells ((hx.block _ hsz).trans hbx)).2
        have hadd : ∀ wx, (Op.stringOp .add ⟨l.toArray⟩ ⟨(frameB k body).toArray⟩).run Try.prog wx = .ok (.string ⟨(l ++ frameB k body).toArray⟩) wx := run_add_lists (P := Try.prog) l (frameB k body) (by rw [frameB_length, hL.out, hm.out]; omega)
        have hx0 : Ext w3 w3 := Ext.refl w3
        clear hbx rd0 rdB rd1 rd2
        refine wp_region_free (by kernel_rfl) (by kernel_rfl) ?_
        repeat
          (refine walk_q ?_
           apply Exists.intro
           refine ⟨fun vs wx hw hd => ?_, ?_⟩
           rotate_left
           simp only [Act.put, Nat.reduceAdd, List.setIfInBounds_toArray, List.set_cons_succ, List.set_cons_zero]
           rotate_right
           focus
             (try simp [updE, Region.binds] at hd)
             go_simp
             try go_bits
             try (rw [if_pos (by omega)]; try go_simp; try go_bits)
             try (rw [if_neg (by omega)]; try go_simp; try go_bits)
             first
               | rfl
               | (go_at_call 14; refine (refFrame_any k m body _ hm.out h2 (by omega)).mono ?_; rintro e w5 ⟨rfl, hb5⟩; exact ⟨rfl, hb5⟩)
               | (go_at_call 15; refine (size_any m _ (by omega)).mono ?_; rintro e w5 ⟨rfl, rfl⟩; exact ⟨rfl, Below.refl _ _⟩)
               | (go_at_call 10; refine (awake_any _).mono ?_; rintro e w5 ⟨rfl, hb5⟩; exact ⟨rfl, hb5⟩))
        refine walk_end ?_
        intro vs wx hw hv
        simp [AllE, updE] at hv
        simp only [hv]
        clear hv
        go_wp2_with fail
        go_ret
        exact ⟨rfl, hbw3.trans (Below.mono hw hbw3.size)⟩
end Go.Proofs.Ytcmbdbphddokmaa
