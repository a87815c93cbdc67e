/-
  THE WALK: frame.Take.
-/
import Derived.Test.YtcmbdbphddokmaaFrmB
namespace Go.Proofs.Ytcmbdbphddokmaa
open Go.RowKit

/-- A record as a value. -/
def recV (k : Nat) (A : Option Addr) (m c : Nat) : Value := .agg #[.int .i64 (k : Int), .slice A m c]

/-- What Take hands back. -/
def TakeP (t : Nat × List UInt8 × Nat × Nat) (w : World) (e : Ending) (w' : World) : Prop :=
  ∃ A c c', e = .returned (.tuple #[recV t.1 A t.2.1.length c, .int .i64 (t.2.2.1 : Int), .int .i64 (t.2.2.2 : Int)]) ∧ w'.ownsRow w.heap.size 5 1 (.slice A t.2.1.length c') t.2.1.length (cb t.2.1) ∧ t.2.1.length ≤ c ∧ c ≤ maxLen ∧ Below w.heap.size w w'

theorem takeP_bad (er : Nat) (w w' : World) (hb : Below w.heap.size w w') : TakeP (0, [], 0, er) w (.returned (.tuple #[.agg #[.int .i64 0, .slice none 0 0], .int .i64 0, .int .i64 (er : Int)])) w' :=
  ⟨none, 0, 0, rfl, World.ownsRow_nil _ _ _ _, Nat.le_refl _, Nat.zero_le _, hb⟩

set_option maxHeartbeats 1000000 in
set_option maxRecDepth 100000 in
theorem takeF_out (A : Option Addr) (n c : Nat) (p : Int) (w : World) (hp : p < 0 ∨ (n : Int) < p) :
    Calls Try.prog 13 #[.slice A n c, .int .i64 p] w (TakeP (0, [], 0, 1) w) := by
  rcases hp with h | h
  · go_enter Try.func13, Try.ntmps13
    go_wp2
    refine bodyPost_ret (v := .tuple #[.agg #[.int .i64 0, .slice none 0 0], .int .i64 0, .int .i64 1]) (by simp [results, Try.results13, go_sem]) rfl (takeP_bad 1 w _ ?_)
    exact (Below.refl _ w).alloc (Nat.le_refl _) _
  · have h0 : ¬ p < 0 := by omega
    go_enter Try.func13, Try.ntmps13
    go_wp2
    refine bodyPost_ret (v := .tuple #[.agg #[.int .i64 0, .slice none 0 0], .int .i64 0, .int .i64 1]) (by simp [results, Try.results13, go_sem]) rfl (takeP_bad 1 w _ ?_)
    exact (Below.refl _ w).alloc (Nat.le_refl _) _

theorem grownBy_setCellR (W : World) (b o : Nat) (v : Value) : W.grownBy (W.setCell ⟨b, o, none⟩ v) (some b) :=
  ⟨rfl, rfl, rfl, by simp, fun k _ hk => Below.heap_setCell _ _ _ k (fun e => hk (by rw [e]))⟩
theorem owns_base {w : World} {base : Nat} {e : TypeId} {size : Nat} {v : Value} {n : Nat} {xs : List Value} (h : w.ownsRow base e size v n xs) {g : Nat} (hg : v.ownBlock = some g) : base ≤ g := by
  rcases h.2 with ⟨rfl, _⟩ | ⟨g', cap, cur, rfl, hb, _⟩
  · simp [Value.ownBlock] at hg
  · obtain rfl : g' = g := by simpa [Value.ownBlock] using hg
    exact hb

/-- A record's two cells written. -/
theorem rec_set {w : World} {g : Nat} {t : TypeId} {a b : Value} (h : w.heap[g]? = some (.cells #[a, b] t (0, 0))) (u v : Value) :
    ((w.setCell ⟨g, 0, none⟩ u).setCell ⟨g, 1, none⟩ v).heap[g]? = some (.cells #[u, v] t (0, 0)) := by
  have h1 := heap_setCell_same w g 0 _ _ u h
  have h2 := heap_setCell_same _ g 1 _ _ v h1
  simpa using h2
theorem rec_cells {w : World} {g : Nat} {t : TypeId} {u v : Value} (h : w.heap[g]? = some (.cells #[u, v] t (0, 0))) : w.cell? ⟨g, 0, none⟩ = some u ∧ w.cell? ⟨g, 1, none⟩ = some v :=
  ⟨cell_of_row w g 0 _ _ _ h, cell_of_row w g 1 _ _ _ h⟩

theorem fixedR_3 (l : List UInt8) (h : l.length = 3) : fixedR l 3 = (fixed l, 0) := by
  unfold fixedR
  rw [if_neg (by omega), if_neg (by omega), List.take_of_length_le (by rw [h]; decide)]

set_option maxHeartbeats 4000000 in
set_option maxRecDepth 100000 in
theorem takeF_in (A : Option Addr) (n c : Nat) (l : List UInt8) (p : Nat) (w : World) (hn : l.length = n) (hr : Rd w A (cb l)) (hnc : n ≤ c) (hcm : c ≤ maxLen) (hp : p ≤ n) :
    Calls Try.prog 13 #[.slice A n c, .int .i64 p] w (TakeP (takeF l p) w) := by
  have hcm' := hid hcm
  unfold maxLen at hcm
  have hF : takeF l p = if (takeR (l.drop p)).2.2.2 = 0 then ((takeR (l.drop p)).1, (takeR (l.drop p)).2.1, p + (takeR (l.drop p)).2.2.1, 0) else (0, [], 0, (takeR (l.drop p)).2.2.2) := by
    unfold takeF; rw [if_neg (by omega)]
  have hrl : (l.drop p).length = n - p := by rw [List.length_drop, hn]
  have hpn : ¬ (n : Int) < (p : Int) := by omega
  by_cases h8 : n - p < 8
  · have hR : takeR (l.drop p) = (0, [], 0, 4) := by unfold takeR; rw [if_pos (by omega)]
    rw [hR] at hF
    have hF2 := hid (show takeF l p = (0, [], 0, 4) from hF)
    clear hF
    have h8i : (n : Int) - (p : Int) < 8 := by omega
    clear hR hrl
    go_enter Try.func13, Try.ntmps13
    go_wp2
    all_goals
      refine bodyPost_ret (v := .tuple #[.agg #[.int .i64 0, .slice none 0 0], .int .i64 0, .int .i64 4]) (by simp [results, Try.results13, go_sem]) rfl ?_
      rw [hF2.out]
      exact takeP_bad 4 w _ ((Below.refl _ w).alloc (Nat.le_refl _) _)
  · obtain ⟨b, o, rfl, hbl, hc⟩ := hr (by rw [cb_length, hn]; omega)
    obtain ⟨r, hrr⟩ : ∃ r, l.drop p = r := ⟨_, rfl⟩
    have hrd : Rd w (some ⟨b, o + p, none⟩) (cb r) := by
      have h := hr.drop p
      rw [cb_drop, hrr] at h
      have e : (some (⟨b, o, none⟩ : Addr)).map (·.add p) = some ⟨b, o + p, none⟩ := by
        simp only [Option.map, Addr.add]
        by_cases h0 : p = 0 <;> simp [h0]
      rwa [e] at h
    rw [hrr] at hF hrl
    obtain ⟨R, hR⟩ : ∃ R, n - p = R := ⟨_, rfl⟩
    have hRn : (n : Int) - (p : Int) = (R : Int) := by omega
    have hcR : R ≤ c - p := by omega
    have hcp : ¬ c = p := by omega
    have hnp : n = p + R := by omega
    rw [hR] at hrl
    replace hrl := hid hrl
    have hd8 : Rd w (some ⟨b, o + p, none⟩) (cb (r.take 8)) := by have h := hrd.take 8; rwa [cb_take] at h
    have hl8 : Hid ((r.take 8).length = 8) := hid (by rw [List.length_take, hrl.out]; omega)
    have hTR : takeR r = if (openR (r.take 8)).2 = 0 then takeH (openR (r.take 8)).1 (r.drop 8) else (0, [], 0, (openR (r.take 8)).2) := by
      unfold takeR; rw [if_neg (by rw [hrl.out]; omega)]
    have hol := openR_len (r.take 8)
    obtain ⟨⟨h, he⟩, hO⟩ : ∃ q, openR (r.take 8) = q := ⟨_, rfl⟩
    rw [hO] at hTR hol
    simp only [] at hTR hol
    rw [hl8.out] at hol
    replace hO := hid hO
    replace hF := hid hF
    replace hTR := hid hTR
    replace hol := hid hol
    subst hnp
    clear hc hr hrr hn hpn hR
    go_enter Try.func13, Try.ntmps13
    go_wp2_with fail
    have hbx : (w.alloc (.cells #[.int .i64 0, .slice none 0 0] 29)).heap[w.heap.size]? = some (.cells #[.int .i64 0, .slice none 0 0] 29 (0, 0)) := heap_alloc_new w _
    refine (open_any (some ⟨b, o + p, none⟩) 8 (r.take 8) (c - p) _ hl8.out (hd8.alloc _) (fun h => by cases h) (by omega) (by unfold maxLen; omega) (by omega)).mono ?_
    rintro e w1 ⟨A1, c1, rfl, hown1, hb1⟩
    rw [hO.out] at hown1 ⊢
    simp only [] at hown1 ⊢
    have hbx1 : w1.heap[w.heap.size]? = some (.cells #[.int .i64 0, .slice none 0 0] 29 (0, 0)) := (hb1.block w.heap.size (by simp)).trans hbx
    have hz1 := hb1.size
    rw [World.size_alloc] at hz1
    have hx0 := cell_of_row w1 w.heap.size 0 _ _ _ hbx1
    have hx1 := cell_of_row w1 w.heap.size 1 _ _ _ hbx1
    have hy0 := frozen_of_row w1 w.heap.size 0 _ _ hbx1
    have hy1 := frozen_of_row w1 w.heap.size 1 _ _ hbx1
    have hb1' : Below w.heap.size w w1 := ((Below.refl _ w).alloc (Nat.le_refl _) _).trans (hb1.mono (by simp))
    clear hbx
    by_cases he0 : he = 0
    · subst he0
      have hh := hol.out rfl
      have hh4 : h.length = 4 := by omega
      rw [hh4] at hown1 ⊢
      rcases h with _ | ⟨k, t⟩
      · simp at hh4
      have ht3 : t.length = 3 := by simpa using hh4
      obtain ⟨g, rfl, hg1, hg2⟩ := own_addr hown1 (by omega)
      have hce0 : w1.cell? ⟨g, 0, none⟩ = some (.int .u8 (k.toNat : Int)) := hown1.cellAt 0 (by omega)
      have hrt : Rd w1 (some ⟨g, 1, none⟩) (cb t) := by
        have h := (Rd.of_own hown1).drop 1
        rw [cb_drop] at h
        simpa [Addr.add] using h
      have hN := fixed_lt t 3 (by omega)
      have hfx := fixedR_3 t ht3
      have hK := k.toNat_lt
      have hTH : takeR r = if k.toNat < 1 ∨ 250 < k.toNat ∨ 70000 < fixed t then (0, [], 0, 3) else if (r.drop 8).length < fixed t + 4 then (0, [], 0, 4)
          else if (openR ((r.drop 8).take (fixed t + 4))).2 = 0 then (k.toNat, (openR ((r.drop 8).take (fixed t + 4))).1, fixed t + 12, 0) else (0, [], 0, (openR ((r.drop 8).take (fixed t + 4))).2) := by
        rw [hTR.out, if_pos rfl]; rfl
      obtain ⟨N, hNe⟩ : ∃ N, fixed t = N := ⟨_, rfl⟩
      obtain ⟨K, hKe⟩ : ∃ K, k.toNat = K := ⟨_, rfl⟩
      rw [hNe] at hN hfx hTH
      rw [hKe] at hce0 hK hTH
      rw [List.length_drop, hrl.out] at hTH
      simp only [Nat.reducePow] at hN
      replace hTH := hid hTH
      replace hfx := hid hfx
      clear hNe hKe hh hh4 hTR hol hO hown1
      go_wp2_with fail
      refine (fixed_any (some ⟨g, 1, none⟩) 3 t 3 3 w1 ht3 (Nat.le_refl _) hrt (by omega)).mono ?_
      rintro e w2 ⟨rfl, rfl⟩
      rw [hfx.out]
      simp only []
      by_cases hbad : K < 1 ∨ 250 < K ∨ 70000 < N
      · have hR2 := hTH.out
        rw [if_pos hbad] at hR2
        have hF2 : Hid (takeF l p = (0, [], 0, 3)) := by
          refine hid ?_
          rw [hF.out, hR2]
          rfl
        clear hR2
        have hb3 := (hb1'.setCell (p := ⟨w.heap.size, 0, none⟩) (Nat.le_refl _) (.int .i64 0)).setCell (p := ⟨w.heap.size, 1, none⟩) (Nat.le_refl _) (.slice none 0 0)
        obtain ⟨hk0, hk1⟩ := rec_cells (rec_set hbx1 (.int .i64 0) (.slice none 0 0))
        rcases (show K < 1 ∨ (¬ K < 1 ∧ 250 < K) ∨ (¬ K < 1 ∧ ¬ 250 < K ∧ 70000 < N) from by omega) with h1 | ⟨h1, h2⟩ | ⟨h1, h2, h3⟩
        all_goals
          clear hbad
          go_wp2_with fail
          refine bodyPost_ret (v := .tuple #[.agg #[.int .i64 0, .slice none 0 0], .int .i64 0, .int .i64 3]) (by simp [results, Try.results13, go_sem, hk0, hk1]) rfl ?_
          rw [hF2.out]
          exact takeP_bad 3 w _ hb3
      · have hT2 := hTH.out
        rw [if_neg hbad] at hT2
        have h1 : ¬ K < 1 := by omega
        have h2 : ¬ 250 < K := by omega
        have h3 : ¬ 70000 < N := by omega
        clear hbad hTH hfx
        by_cases hsz : R - 8 < N + 4
        · rw [if_pos hsz] at hT2
          have hF2 : Hid (takeF l p = (0, [], 0, 4)) := by
            refine hid ?_
            rw [hF.out, hT2]
            rfl
          clear hT2
          have hszi : (R : Int) - 8 < (N : Int) + 4 := by omega
          have hb3 := (hb1'.setCell (p := ⟨w.heap.size, 0, none⟩) (Nat.le_refl _) (.int .i64 0)).setCell (p := ⟨w.heap.size, 1, none⟩) (Nat.le_refl _) (.slice none 0 0)
          obtain ⟨hk0, hk1⟩ := rec_cells (rec_set hbx1 (.int .i64 0) (.slice none 0 0))
          go_wp2_with fail
          refine bodyPost_ret (v := .tuple #[.agg #[.int .i64 0, .slice none 0 0], .int .i64 0, .int .i64 4]) (by simp [results, Try.results13, go_sem, hk0, hk1]) rfl ?_
          rw [hF2.out]
          exact takeP_bad 4 w _ hb3
        · rw [if_neg hsz] at hT2
          have hszi : ¬ (R : Int) - 8 < (N : Int) + 4 := by omega
          have hdb : Rd w (some ⟨b, o + p + 8, none⟩) (cb ((r.drop 8).take (N + 4))) := by
            have h := (hrd.drop 8).take (N + 4)
            rw [cb_drop, cb_take] at h
            simpa [Addr.add] using h
          have hdl : Hid (((r.drop 8).take (N + 4)).length = N + 4) := hid (by rw [List.length_take, List.length_drop, hrl.out]; omega)
          have hol2 := openR_len ((r.drop 8).take (N + 4))
          obtain ⟨⟨q, qe⟩, hO2⟩ : ∃ q, openR ((r.drop 8).take (N + 4)) = q := ⟨_, rfl⟩
          rw [hO2] at hT2 hol2
          simp only [] at hT2 hol2
          rw [hdl.out] at hol2
          replace hT2 := hid hT2
          replace hO2 := hid hO2
          replace hol2 := hid hol2
          go_wp2_with fail
          refine (open_any (some ⟨b, o + p + 8, none⟩) (N + 4) ((r.drop 8).take (N + 4)) (c - p - 8) _ hdl.out (hdb.below hb1') (fun h => by cases h) (by omega) (by unfold maxLen; omega) (by omega)).mono ?_
          rintro e w3 ⟨A3, c3, rfl, hown3, hb3⟩
          rw [hO2.out] at hown3 ⊢
          simp only [] at hown3 ⊢
          have hbx3 : w3.heap[w.heap.size]? = some (.cells #[.int .i64 0, .slice none 0 0] 29 (0, 0)) := (hb3.block w.heap.size (by omega)).trans hbx1
          have hv0 := cell_of_row w3 w.heap.size 0 _ _ _ hbx3
          have hv1 := cell_of_row w3 w.heap.size 1 _ _ _ hbx3
          have hu0 := frozen_of_row w3 w.heap.size 0 _ _ hbx3
          have hu1 := frozen_of_row w3 w.heap.size 1 _ _ hbx3
          have hb3' := hb1'.trans (hb3.mono hb1'.size)
          clear hx0 hx1 hy0 hy1 hrt hce0
          by_cases hq0 : qe = 0
          · subst hq0
            have hql := hol2.out rfl
            have hqN : q.length = N := by omega
            have hF2 : Hid (takeF l p = (K, q, p + (N + 12), 0)) := by
              refine hid ?_
              rw [hF.out, hT2.out]
              rfl
            rw [hqN] at hown3 ⊢
            obtain ⟨hk0, hk1⟩ := rec_cells (rec_set hbx3 (.int .i64 (K : Int)) (.slice A3 N N))
            have hb4 := (hb3'.setCell (p := ⟨w.heap.size, 0, none⟩) (Nat.le_refl _) (.int .i64 (K : Int))).setCell (p := ⟨w.heap.size, 1, none⟩) (Nat.le_refl _) (.slice A3 N N)
            replace hqN := hid hqN
            clear hT2 hql hol2
            go_wp2_with fail
            refine bodyPost_ret (v := .tuple #[.agg #[.int .i64 (K : Int), .slice A3 N N], .int .i64 ((p + (N + 12) : Nat) : Int), .int .i64 0]) (by simp [results, Try.results13, go_sem, hk0, hk1]; omega) rfl ?_
            rw [hF2.out]
            have hrd3 : ((w3.setCell ⟨w.heap.size, 0, none⟩ (.int .i64 (K : Int))).setCell ⟨w.heap.size, 1, none⟩ (.slice A3 N N)).ownsRow w.heap.size 5 1 (.slice A3 N c3) N (cb q) := by
              have h1 := hown3.kept (grownBy_setCellR w3 w.heap.size 0 (.int .i64 (K : Int))) (.inr fun e => by have := owns_base hown3 e; omega)
              have h2 := h1.kept (grownBy_setCellR _ w.heap.size 1 (.slice A3 N N)) (.inr fun e => by have := owns_base h1 e; omega)
              exact own_mono h2 (by omega)
            refine ⟨A3, N, c3, ?_, ?_, ?_, ?_, hb4⟩
            · simp only [recV]
              rw [hqN.out]
              rfl
            · simp only []
              rw [hqN.out]
              exact hrd3
            · exact Nat.le_of_eq hqN.out
            · unfold maxLen; omega
          · have heb : ((qe : Int) != 0) = true := by simp; omega
            have hR2 : takeR r = (0, [], 0, qe) := by rw [hT2.out, if_neg hq0]
            have hF2 : Hid (takeF l p = (0, [], 0, qe)) := by
              refine hid ?_
              rw [hF.out, hR2]
              exact if_neg hq0
            clear hR2 hT2
            obtain ⟨hk0, hk1⟩ := rec_cells (rec_set hbx3 (.int .i64 0) (.slice none 0 0))
            go_wp2_with fail
            refine bodyPost_ret (v := .tuple #[.agg #[.int .i64 0, .slice none 0 0], .int .i64 0, .int .i64 (qe : Int)]) (by simp [results, Try.results13, go_sem, hk0, hk1]) rfl ?_
            rw [hF2.out]
            exact takeP_bad qe w _ ((hb3'.setCell (p := ⟨w.heap.size, 0, none⟩) (Nat.le_refl _) _).setCell (p := ⟨w.heap.size, 1, none⟩) (Nat.le_refl _) _)
    · have heb : ((he : Int) != 0) = true := by simp; omega
      have hR2 : takeR r = (0, [], 0, he) := by rw [hTR.out, if_neg he0]
      have hF2 : Hid (takeF l p = (0, [], 0, he)) := by
        refine hid ?_
        rw [hF.out, hR2]
        exact if_neg he0
      clear hR2 hd8 hrd
      go_wp2_with fail
      obtain ⟨hk0, hk1⟩ := rec_cells (rec_set hbx1 (.int .i64 0) (.slice none 0 0))
      refine bodyPost_ret (v := .tuple #[.agg #[.int .i64 0, .slice none 0 0], .int .i64 0, .int .i64 (he : Int)]) (by simp [results, Try.results13, go_sem, hk0, hk1]) rfl ?_
      rw [hF2.out]
      exact takeP_bad he w _ ((hb1'.setCell (p := ⟨w.heap.size, 0, none⟩) (Nat.le_refl _) _).setCell (p := ⟨w.heap.size, 1, none⟩) (Nat.le_refl _) _)
end Go.Proofs.Ytcmbdbphddokmaa
