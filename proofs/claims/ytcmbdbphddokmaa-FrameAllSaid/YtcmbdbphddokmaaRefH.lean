/-
  THE WALK of the document's own Unframe.
-/
import Derived.Test.YtcmbdbphddokmaaRefG
namespace Go.Proofs.Ytcmbdbphddokmaa
open Go.RowKit

/-- What Unframe hands back. -/
def UnP (t : Nat × List UInt8 × Nat × Nat) (w : World) (e : Ending) (w' : World) : Prop :=
  e = .returned (.tuple #[.int .i64 (t.1 : Int), .string ⟨t.2.1.toArray⟩, .int .i64 (t.2.2.1 : Int), .int .i64 (t.2.2.2 : Int)]) ∧ Below w.heap.size w w'

set_option maxHeartbeats 1000000 in
set_option maxRecDepth 100000 in
theorem unF_out (l : List UInt8) (p : Int) (w : World) (hl : l.length ≤ 9223372036854775807) (hp : p < 0 ∨ (l.length : Int) < p) :
    Calls Try.prog 16 #[.string ⟨l.toArray⟩, .int .i64 p] w (UnP (0, [], 0, 1) w) := by
  rcases hp with h | h
  · go_enter Try.func16, Try.ntmps16
    go_wp2
    refine bodyPost_ret (v := .tuple #[.int .i64 0, .string ⟨([] : List UInt8).toArray⟩, .int .i64 0, .int .i64 1]) (by simp [results, Try.results16, go_sem]) rfl ⟨rfl, Below.refl _ _⟩
  · have h0 : ¬ p < 0 := by omega
    go_enter Try.func16, Try.ntmps16
    go_wp2
    refine bodyPost_ret (v := .tuple #[.int .i64 0, .string ⟨([] : List UInt8).toArray⟩, .int .i64 0, .int .i64 1]) (by simp [results, Try.results16, go_sem]) rfl ⟨rfl, Below.refl _ _⟩

set_option maxHeartbeats 4000000 in
set_option maxRecDepth 100000 in
theorem unF_in (n : Nat) (l : List UInt8) (p : Nat) (w : World) (hn : l.length = n) (hcm : n ≤ maxLen) (hp : p ≤ n) :
    Calls Try.prog 16 #[.string ⟨l.toArray⟩, .int .i64 p] w (UnP (takeF l p) w) := by
  unfold maxLen at hcm
  have hF : takeF l p = if (takeR (l.drop p)).2.2.2 = 0 then ((takeR (l.drop p)).1, (takeR (l.drop p)).2.1, p + (takeR (l.drop p)).2.2.1, 0) else (0, [], 0, (takeR (l.drop p)).2.2.2) := by
    unfold takeF; rw [if_neg (by omega)]
  have hrl : (l.drop p).length = n - p := by rw [List.length_drop, hn]
  have hpn : ¬ (n : Int) < (p : Int) := by omega
  by_cases h8 : n - p < 8
  · have hR : takeR (l.drop p) = (0, [], 0, 4) := by unfold takeR; rw [if_pos (by omega)]
    rw [hR] at hF
    have hF2 := hid (show takeF l p = (0, [], 0, 4) from hF)
    have h8i : (n : Int) - (p : Int) < 8 := by omega
    clear hR hrl hF
    go_enter Try.func16, Try.ntmps16
    go_wp2
    refine bodyPost_ret (v := .tuple #[.int .i64 0, .string ⟨([] : List UInt8).toArray⟩, .int .i64 0, .int .i64 4]) (by simp [results, Try.results16, go_sem]) rfl ?_
    rw [hF2.out]
    exact ⟨rfl, Below.refl _ _⟩
  · obtain ⟨r, hrr⟩ : ∃ r, l.drop p = r := ⟨_, rfl⟩
    rw [hrr] at hF hrl
    have hex1 : ByteArray.extract ⟨l.toArray⟩ p (p + 8) = ⟨(r.take 8).toArray⟩ := by
      rw [extract_list, List.drop_take, hrr, show p + 8 - p = 8 from by omega]
    have hex3 : ∀ N, ByteArray.extract ⟨l.toArray⟩ (p + 8) (p + 12 + N) = ⟨((r.drop 8).take (N + 4)).toArray⟩ := by
      intro N
      rw [extract_list, List.drop_take, ← List.drop_drop, hrr, show p + 12 + N - (p + 8) = N + 4 from by omega]
    obtain ⟨R, hR⟩ : ∃ R, n - p = R := ⟨_, rfl⟩
    have hRn : (n : Int) - (p : Int) = (R : Int) := by omega
    have hnp : n = p + R := by omega
    rw [hR] at hrl
    replace hrl := hid hrl
    have hl8 : Hid ((r.take 8).length = 8) := hid (by rw [List.length_take, hrl.out]; omega)
    have hTR : takeR r = if (openR (r.take 8)).2 = 0 then takeH (openR (r.take 8)).1 (r.drop 8) else (0, [], 0, (openR (r.take 8)).2) := by
      unfold takeR; rw [if_neg (by rw [hrl.out]; omega)]
    have hol := openR_len (r.take 8)
    obtain ⟨⟨h, he⟩, hO⟩ : ∃ q, openR (r.take 8) = q := ⟨_, rfl⟩
    rw [hO] at hTR hol
    simp only [] at hTR hol
    rw [hl8.out] at hol
    replace hO := hid hO
    replace hF := hid hF
    replace hTR := hid hTR
    replace hol := hid hol
    replace hex3 := hid hex3
    clear hrr hpn hR
    go_enter Try.func16, Try.ntmps16
    go_wp2_with fail
    refine (refOpen_any 8 (r.take 8) _ hl8.out (by omega)).mono ?_
    rintro e w1 ⟨rfl, hb1⟩
    rw [hO.out]
    simp only []
    by_cases he0 : he = 0
    · subst he0
      have hh := hol.out rfl
      have hh4 : h.length = 4 := by omega
      rcases h with _ | ⟨k, t⟩
      · simp at hh4
      have ht3 : t.length = 3 := by simpa using hh4
      have hN := fixed_lt t 3 (by omega)
      have hK := k.toNat_lt
      have hTH : takeR r = if k.toNat < 1 ∨ 250 < k.toNat ∨ 70000 < fixed t then (0, [], 0, 3) else if (r.drop 8).length < fixed t + 4 then (0, [], 0, 4)
          else if (openR ((r.drop 8).take (fixed t + 4))).2 = 0 then (k.toNat, (openR ((r.drop 8).take (fixed t + 4))).1, fixed t + 12, 0) else (0, [], 0, (openR ((r.drop 8).take (fixed t + 4))).2) := by
        rw [hTR.out, if_pos rfl]; rfl
      have hex2 : ByteArray.extract ⟨(k :: t).toArray⟩ 1 4 = ⟨t.toArray⟩ := by
        rw [extract_list, List.take_of_length_le (by omega)]
        rfl
      obtain ⟨N, hNe⟩ : ∃ N, fixed t = N := ⟨_, rfl⟩
      rw [hNe] at hN hTH
      rw [List.length_drop, hrl.out] at hTH
      simp only [Nat.reducePow] at hN
      replace hTH := hid hTH
      replace hNe := hid hNe
      have hg0 : ∀ (h : 0 < ByteArray.size ⟨(k :: t).toArray⟩), (⟨(k :: t).toArray⟩ : ByteArray)[0]'h = k := fun _ => rfl
      clear hh hh4 hTR hol hO hl8
      go_wp2_with fail
      refine (refFixed_l t w1 ht3).mono ?_
      rintro e w2 ⟨rfl, rfl⟩
      rw [hNe.out]
      go_wp2_with fail
      refine (refFrameOk_any (k.toNat : Int) N _ (by omega)).mono ?_
      rintro e w2 ⟨rfl, rfl⟩
      obtain ⟨K, hKe⟩ : ∃ K, k.toNat = K := ⟨_, rfl⟩
      rw [hKe] at hK ⊢
      have hTH := hTH.out
      rw [hKe] at hTH
      obtain ⟨ok, hok⟩ : ∃ ok, okE (K : Int) N = ok := ⟨_, rfl⟩
      rw [hok]
      by_cases hbad : K < 1 ∨ 250 < K ∨ 70000 < N
      · rw [if_pos hbad] at hTH
        have hF2 : Hid (takeF l p = (0, [], 0, 3)) := by
          refine hid ?_
          rw [hF.out, hTH]
          rfl
        have hokb : ((ok : Int) != 0) = true := by
          have : ok ≠ 0 := by rw [← hok]; unfold okE; split <;> (try split) <;> omega
          simp; omega
        clear hTH hbad hok
        go_wp2_with fail
        refine bodyPost_ret (v := .tuple #[.int .i64 0, .string ⟨([] : List UInt8).toArray⟩, .int .i64 0, .int .i64 3]) (by simp [results, Try.results16, go_sem]) rfl ?_
        rw [hF2.out]
        exact ⟨rfl, hb1⟩
      · rw [if_neg hbad] at hTH
        obtain rfl : ok = 0 := by rw [← hok]; unfold okE; rw [if_neg (by omega), if_neg (by omega)]
        clear hok
        by_cases hsz : R - 8 < N + 4
        · rw [if_pos hsz] at hTH
          have hF2 : Hid (takeF l p = (0, [], 0, 4)) := by
            refine hid ?_
            rw [hF.out, hTH]
            rfl
          have hszi : (R : Int) - 8 < (N : Int) + 4 := by omega
          clear hTH hbad
          go_wp2_with fail
          refine bodyPost_ret (v := .tuple #[.int .i64 0, .string ⟨([] : List UInt8).toArray⟩, .int .i64 0, .int .i64 4]) (by simp [results, Try.results16, go_sem]) rfl ?_
          rw [hF2.out]
          exact ⟨rfl, hb1⟩
        · rw [if_neg hsz] at hTH
          have hszi : ¬ (R : Int) - 8 < (N : Int) + 4 := by omega
          have hdl : Hid (((r.drop 8).take (N + 4)).length = N + 4) := hid (by rw [List.length_take, List.length_drop, hrl.out]; omega)
          obtain ⟨⟨q, qe⟩, hO2⟩ : ∃ q, openR ((r.drop 8).take (N + 4)) = q := ⟨_, rfl⟩
          rw [hO2] at hTH
          simp only [] at hTH
          replace hTH := hid hTH
          replace hO2 := hid hO2
          have hex4 := hex3.out N
          have hN7 : N ≤ 70000 := by omega
          clear hbad
          go_wp2_with fail
          refine (refOpen_any (N + 4) ((r.drop 8).take (N + 4)) _ hdl.out (by omega)).mono ?_
          rintro e w3 ⟨rfl, hb3⟩
          rw [hO2.out]
          simp only []
          have hb3' := hb1.trans (hb3.mono hb1.size)
          by_cases hq0 : qe = 0
          · subst hq0
            have hF2 : Hid (takeF l p = (K, q, p + (N + 12), 0)) := by
              refine hid ?_
              rw [hF.out, hTH.out]
              rfl
            go_wp2_with fail
            refine bodyPost_ret (v := .tuple #[.int .i64 (K : Int), .string ⟨q.toArray⟩, .int .i64 ((p + (N + 12) : Nat) : Int), .int .i64 0]) (by simp [results, Try.results16, go_sem]; omega) rfl ?_
            rw [hF2.out]
            exact ⟨rfl, hb3'⟩
          · have heb : ((qe : Int) != 0) = true := by simp; omega
            have hR2 : takeR r = (0, [], 0, qe) := by rw [hTH.out, if_neg hq0]
            have hF2 : Hid (takeF l p = (0, [], 0, qe)) := by
              refine hid ?_
              rw [hF.out, hR2]
              exact if_neg hq0
            clear hR2
            go_wp2_with fail
            refine bodyPost_ret (v := .tuple #[.int .i64 0, .string ⟨([] : List UInt8).toArray⟩, .int .i64 0, .int .i64 (qe : Int)]) (by simp [results, Try.results16, go_sem]) rfl ?_
            rw [hF2.out]
            exact ⟨rfl, hb3'⟩
    · have heb : ((he : Int) != 0) = true := by simp; omega
      have hR2 : takeR r = (0, [], 0, he) := by rw [hTR.out, if_neg he0]
      have hF2 : Hid (takeF l p = (0, [], 0, he)) := by
        refine hid ?_
        rw [hF.out, hR2]
        exact if_neg he0
      clear hR2
      go_wp2_with fail
      refine bodyPost_ret (v := .tuple #[.int .i64 0, .string ⟨([] : List UInt8).toArray⟩, .int .i64 0, .int .i64 (he : Int)]) (by simp [results, Try.results16, go_sem]) rfl ?_
      rw [hF2.out]
      exact ⟨rfl, hb1⟩
end Go.Proofs.Ytcmbdbphddokmaa
