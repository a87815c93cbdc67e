/-
  PLAIN RECORDS with bits turned within 32 in a row inside one of them. No program in sight.
-/
import Derived.Test.YtcmbdbphddokmaaPlainFrmC
import Derived.Test.YtcmbdbphddokmaaPlainBurst
namespace Go.Proofs.Ytcmbdbphddokmaa

/-- What stands behind i rounds: the bytes of one sealed text, and whether a bit of it was turned. -/
def TurnI (l : List UInt8) (M i : Nat) (an : Bool) (cur : List UInt8) : Prop :=
  ∃ wm : Reg, reg ones cur = reg ones (seal_ l) ^^^ sts M wm ∧ (∀ j, i ≤ j → wm.getLsbD j = false) ∧ (an = false → cur = seal_ l) ∧ (an = true → wm ≠ 0#32)

theorem TurnI.start (l : List UInt8) (M : Nat) : TurnI l M 0 false (seal_ l) :=
  ⟨0#32, by rw [sts_zero, BitVec.xor_zero], fun j _ => by simp, fun _ => rfl, fun h => by cases h⟩

theorem TurnI.keep {l : List UInt8} {M i : Nat} {an : Bool} {cur : List UInt8} (h : TurnI l M i an cur) : TurnI l M (i + 1) an cur := by
  obtain ⟨wm, h1, h2, h3, h4⟩ := h
  exact ⟨wm, h1, fun j hj => h2 j (by omega), h3, h4⟩

theorem TurnI.flip {l : List UInt8} {M i : Nat} {an : Bool} {cur : List UInt8} (h : TurnI l M i an cur) (k j : Nat) (hi : i < 32) (hj : j < 8) (hk : k < cur.length) (hM : M = i + (8 * (cur.length - k) - j))
    (b : UInt8) (hb : b = (1 : UInt8) <<< (UInt8.ofNat j)) : TurnI l M (i + 1) true (cur.set k (cur[k] ^^^ b)) := by
  obtain ⟨wm, h1, h2, h3, h4⟩ := h
  have hbit := bit_in ⟨j, hj⟩
  simp only [] at hbit
  rw [← hb] at hbit
  have hne : (wm ^^^ BitVec.ofNat 32 (2 ^ i)).getLsbD i = true := by
    rw [BitVec.getLsbD_xor, h2 i (by omega), BitVec.getLsbD_ofNat]
    simp [hi]
  refine ⟨wm ^^^ BitVec.ofNat 32 (2 ^ i), ?_, fun j2 hj2 => ?_, (fun h => by cases h), fun _ h => ?_⟩
  · rw [reg_flip cur _ ones b _ hj hbit hk, h1, sts_xor, word_out i _ hi (by omega), BitVec.xor_assoc]
    congr 3
    omega
  · rw [BitVec.getLsbD_xor, h2 j2 (by omega), BitVec.getLsbD_ofNat, Nat.testBit_two_pow]
    simp
    omega
  · rw [h] at hne
    simp at hne

theorem TurnI.shut {l : List UInt8} {M i : Nat} {cur : List UInt8} (h : TurnI l M i true cur) (hN : cur.length = l.length + 4) : openR cur = ([], 5) := by
  obtain ⟨wm, h1, _, _, h4⟩ := h
  exact open_turned l cur hN (sts M wm) (fun hz => h4 rfl (sts_inj0 M wm hz)) h1

theorem TurnI.same {l : List UInt8} {M i : Nat} {cur : List UInt8} (h : TurnI l M i false cur) : cur = seal_ l := by
  obtain ⟨wm, _, _, h3, _⟩ := h
  exact h3 rfl

/-- One record among others, its bits turned from the record's own bit p on, behind i rounds. -/
def RecI (pre : List UInt8) (kd : Nat) (x post : List UInt8) (p i : Nat) (an : Bool) (cur : List UInt8) : Prop :=
  ∃ h t a1 a2, cur = pre ++ (h ++ (t ++ post)) ∧ h.length = 8 ∧ t.length = x.length + 4 ∧ TurnI (headB kd x.length) (64 - p) i a1 h ∧ TurnI x (8 * (x.length + 4) + 64 - p) i a2 t ∧ an = (a1 || a2)

theorem RecI.start (pre : List UInt8) (kd : Nat) (x post : List UInt8) (p : Nat) : RecI pre kd x post p 0 false (pre ++ (frameB kd x ++ post)) := by
  refine ⟨seal_ (headB kd x.length), seal_ x, false, false, ?_, by rw [seal_length, headB_length], seal_length x, TurnI.start _ _, TurnI.start _ _, rfl⟩
  unfold frameB
  rw [List.append_assoc]

theorem RecI.keep {pre x post : List UInt8} {kd p i : Nat} {an : Bool} {cur : List UInt8} (h : RecI pre kd x post p i an cur) : RecI pre kd x post p (i + 1) an cur := by
  obtain ⟨h, t, a1, a2, e, h1, h2, h3, h4, h5⟩ := h
  exact ⟨h, t, a1, a2, e, h1, h2, h3.keep, h4.keep, h5⟩

theorem RecI.len {pre x post : List UInt8} {kd p i : Nat} {an : Bool} {cur : List UInt8} (h : RecI pre kd x post p i an cur) : cur.length = pre.length + (x.length + 12) + post.length := by
  obtain ⟨h, t, a1, a2, e, h1, h2, h3, h4, h5⟩ := h
  rw [e]
  simp only [List.length_append]
  omega

theorem set_app_l {a b : List UInt8} {k : Nat} (u : UInt8) (h : k < a.length) : (a ++ b).set k u = a.set k u ++ b := by
  rw [List.set_append, if_pos h]
theorem set_app_r {a b : List UInt8} {k : Nat} (u : UInt8) (h : a.length ≤ k) : (a ++ b).set k u = a ++ b.set (k - a.length) u := by
  rw [List.set_append, if_neg (by omega)]

theorem RecI.flip {pre x post : List UInt8} {kd p i : Nat} {an : Bool} {cur : List UInt8} (h : RecI pre kd x post p i an cur) (hi : i < 32) (hp : p + i < 8 * (x.length + 12))
    (k j : Nat) (hj : j < 8) (hkj : 8 * k + j = 8 * pre.length + p + i) (b : UInt8) (hb : b = (1 : UInt8) <<< (UInt8.ofNat j)) (hk : k < cur.length) : RecI pre kd x post p (i + 1) true (cur.set k (cur[k] ^^^ b)) := by
  obtain ⟨h, t, a1, a2, e, h1, h2, h3, h4, h5⟩ := h
  subst e
  have hpk : pre.length ≤ k := by omega
  rcases Nat.lt_or_ge (k - pre.length) 8 with h8 | h8
  · have hv : (pre ++ (h ++ (t ++ post)))[k] = h[k - pre.length]'(by omega) := by
      rw [List.getElem_append_right hpk, List.getElem_append_left (by omega)]
    rw [hv, set_app_r _ hpk, set_app_l _ (by omega)]
    refine ⟨_, t, true, a2, rfl, by rw [List.length_set]; exact h1, h2, ?_, h4.keep, by simp⟩
    exact h3.flip (k - pre.length) j hi hj (by omega) (by omega) b hb
  · have hv : (pre ++ (h ++ (t ++ post)))[k] = t[k - pre.length - h.length]'(by omega) := by
      rw [List.getElem_append_right hpk, List.getElem_append_right (by omega), List.getElem_append_left (by omega)]
    rw [hv, set_app_r _ hpk, set_app_r _ (by omega), set_app_l _ (by omega)]
    refine ⟨h, _, a1, true, rfl, h1, by rw [List.length_set]; exact h2, h3.keep, ?_, by simp⟩
    exact h4.flip (k - pre.length - h.length) j hi hj (by omega) (by omega) b hb

theorem RecI.same {pre x post : List UInt8} {kd p i : Nat} {cur : List UInt8} (h : RecI pre kd x post p i false cur) : cur = pre ++ (frameB kd x ++ post) := by
  obtain ⟨h, t, a1, a2, e, h1, h2, h3, h4, h5⟩ := h
  cases a1 <;> cases a2 <;> simp at h5
  rw [e, h3.same, h4.same]
  unfold frameB
  rw [List.append_assoc]

theorem RecI.bad {pre x post : List UInt8} {kd p i : Nat} {cur : List UInt8} (h : RecI pre kd x post p i true cur) (h1 : 1 ≤ kd) (h2 : kd ≤ 250) (h3 : x.length ≤ 70000) :
    ∃ r, cur = pre ++ r ∧ (takeR r).2.2.2 = 5 ∧ 0 < r.length := by
  obtain ⟨h, t, a1, a2, e, g1, g2, g3, g4, g5⟩ := h
  refine ⟨h ++ (t ++ post), e, ?_, by rw [List.length_append]; omega⟩
  have e8 : (h ++ (t ++ post)).take 8 = h := by rw [← g1, List.take_left]
  have d8 : (h ++ (t ++ post)).drop 8 = t ++ post := by rw [← g1, List.drop_left]
  unfold takeR
  rw [if_neg (by rw [List.length_append]; omega), e8, d8]
  cases a1 with
  | true =>
    rw [g3.shut (by rw [g1, headB_length])]
    rfl
  | false =>
    cases a2 with
    | false => simp at g5
    | true =>
      rw [g3.same, open_seal, if_pos rfl]
      unfold takeH
      have et : (t ++ post).take (x.length + 4) = t := by rw [← g2, List.take_left]
      rw [head_kind _ _ (by omega), head_len _ _ (by omega), if_neg (by omega), if_neg (by rw [List.length_append]; omega), et, g4.shut g2]
      rfl
end Go.Proofs.Ytcmbdbphddokmaa
