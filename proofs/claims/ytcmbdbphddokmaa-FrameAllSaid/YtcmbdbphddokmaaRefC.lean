/-
  THE WALKS of the document's own Sum, four, Seal, Open.
-/
import Derived.Test.YtcmbdbphddokmaaCrcC
namespace Go.Proofs.Ytcmbdbphddokmaa
open Go.RowKit

/-- A string handed back. -/
def ResS (l : List UInt8) (w : World) (e : Ending) (w' : World) : Prop := e = .returned (.string ⟨l.toArray⟩) ∧ Below w.heap.size w w'

theorem st_odd (r : Reg) (h : r.toNat % 2 = 1) : bits BinOp.xor IntKind.u32 ((r.toNat : Int) / 2) 2197175160 = ((st r).toNat : Int) := by
  have e := st_bits r
  rw [u32_and1, h] at e
  exact e
theorem st_evn (r : Reg) (h : r.toNat % 2 = 0) : ((r.toNat : Int) / 2) = ((st r).toNat : Int) := by
  have e := st_bits r
  have hr := r.isLt
  rw [u32_and1, h] at e
  have e0 : bits BinOp.and IntKind.u32 2197175160 (-((0 : Nat) : Int) % 4294967296) = ((0 : Nat) : Int) := by decide
  rw [e0, show ((r.toNat : Int) / 2) = ((r.toNat / 2 : Nat) : Int) from by omega, u32_xor_nat _ _ (by omega) (by omega), Nat.xor_zero] at e
  rw [← e]
  omega
theorem and1_bit (r : Reg) (b : Nat) (h : r.toNat % 2 = b) : bits BinOp.and IntKind.u32 (r.toNat : Int) 1 = (b : Int) := by rw [u32_and1, h]

theorem reg_snoc8 (c : Reg) (l : List UInt8) (u : UInt8) : reg c (l ++ [u]) = sts 8 (reg c l ^^^ rb u) := by rw [reg_append]; rfl

theorem extract_list (l : List UInt8) (a b : Nat) : ByteArray.extract ⟨l.toArray⟩ a b = ⟨((l.take b).drop a).toArray⟩ := by
  apply ByteArray.ext
  rw [ByteArray.data_extract]
  apply Array.ext'
  simp [List.drop_take]

theorem run_add_lists {P : Program} (x y : List UInt8) (h : x.length + y.length ≤ 9223372036854775807) (w : World) :
    (Op.stringOp .add ⟨x.toArray⟩ ⟨y.toArray⟩).run P w = .ok (.string ⟨(x ++ y).toArray⟩) w := by
  rw [run_string_add_sum w _ _ (by simpa [ByteArray.size] using h), ByteArray.mk_append_mk]

set_option maxHeartbeats 1000000 in
set_option maxRecDepth 100000 in
theorem refSum_any (s : ByteArray) (w : World) (hl : s.size ≤ 9223372036854775000) :
    Calls Try.prog 36 #[.string s] w fun e w' => e = .returned (.int .u32 ((sum s.data.toList).toNat : Int)) ∧ w = w' := by
  obtain ⟨l, hsl⟩ : ∃ l, s.data.toList = l := ⟨_, rfl⟩
  have hll : l.length = s.size := by rw [← hsl]; simp
  rw [hsl]
  have hget : ∀ k (h1 : k < s.size) (h2 : k < l.length), l[k] = s[k] := by intro k h1 h2; subst hsl; simp; rfl
  replace hsl := hid hsl
  replace hll := hid hll
  replace hget := hid hget
  go_enter Try.func36, Try.ntmps36
  go_wp2
  go_loop [3, 4] (fun c i => ∃ (j : Nat) (r : Reg), i = .int .i64 j ∧ j ≤ s.size ∧ c = .int .u32 (r.toNat : Int) ∧ Hid (r = reg ones (l.take j))) (fun _ i => s.size - (intOf i).toNat)
  case atStart => exact ⟨0, ones, rfl, by omega, rfl, hid rfl⟩
  case round =>
    obtain ⟨j, r, rfl, hj, rfl, hreg⟩ := hrel
    by_cases hlt : j < s.size
    · have hjl : j < l.length := by rw [hll.out]; exact hlt
      obtain ⟨u, hu⟩ : ∃ u, l[j] = u := ⟨_, rfl⟩
      have hsu : s[j] = u := by rw [← hu]; exact (hget.out j hlt hjl).symm
      have hult := u.toNat_lt
      have hx := xor_bits r u
      obtain ⟨r0, hr0⟩ : ∃ r0, r ^^^ rb u = r0 := ⟨_, rfl⟩
      rw [hr0] at hx
      have hnext : Hid (sts 8 r0 = reg ones (l.take (j + 1))) := hid (by rw [List.take_succ_eq_append_getElem hjl, reg_snoc8, ← hreg.out, hu, hr0])
      replace hr0 := hid hr0
      replace hu := hid hu
      replace hjl := hid hjl
      go_wp2
      go_loop [3, 5] (fun c k => ∃ (q : Nat) (r1 : Reg), k = .int .i64 q ∧ q ≤ 8 ∧ c = .int .u32 (r1.toNat : Int) ∧ Hid (r1 = sts q r0)) (fun _ k => 8 - (intOf k).toNat)
      case atStart => exact ⟨0, r0, rfl, by omega, rfl, hid rfl⟩
      case round =>
        obtain ⟨q, r1, rfl, hq, rfl, hr1⟩ := hrel
        by_cases hq8 : q < 8
        · have hst : Hid (st r1 = sts (q + 1) r0) := hid (by rw [sts_succ, ← hr1.out])
          rcases Nat.mod_two_eq_zero_or_one r1.toNat with h | h
          · have ha : bits BinOp.and IntKind.u32 (r1.toNat : Int) 1 = 0 := and1_bit r1 0 h
            have he := hid (st_evn r1 h)
            clear h
            go_wp2
            go_round
            case rel => exact ⟨q + 1, st r1, by go_num, by omega, by rw [← he.out], hst⟩
            case measure => simp [intOf]; omega
          · have ha : bits BinOp.and IntKind.u32 (r1.toNat : Int) 1 = 1 := and1_bit r1 1 h
            have he := st_odd r1 h
            clear h
            go_wp2
            go_round
            case rel => exact ⟨q + 1, st r1, by go_num, by omega, rfl, hst⟩
            case measure => simp [intOf]; omega
        · obtain rfl : q = 8 := by omega
          go_wp2
          go_round
          case rel => exact ⟨j + 1, r1, by go_num, by omega, rfl, hid (by rw [hr1.out, hnext.out])⟩
          case measure => simp [intOf]; omega
    · have hnb := not_bits r
      obtain ⟨r1, hr1⟩ : ∃ r1, ~~~r = r1 := ⟨_, rfl⟩
      rw [hr1] at hnb
      replace hr1 := hid hr1
      go_wp2
      go_ret
      have : l.take j = l := List.take_of_length_le (by rw [hll.out]; omega)
      refine ⟨?_, rfl⟩
      rw [← hr1.out, hreg.out, this]
      rfl

theorem refSum_l (l : List UInt8) (w : World) (hl : l.length ≤ 9223372036854775000) :
    Calls Try.prog 36 #[.string ⟨l.toArray⟩] w fun e w' => e = .returned (.int .u32 ((sum l).toNat : Int)) ∧ w = w' :=
  refSum_any ⟨l.toArray⟩ w (by show l.toArray.size ≤ _; rw [List.size_toArray]; exact hl)

set_option maxHeartbeats 400000 in
theorem refFour_any (r : Reg) (w : World) :
    Calls Try.prog 35 #[.int .u32 (r.toNat : Int)] w (ResS (four r) w) := by
  have h0 := byte_of r.toNat
  have h1 := byte_of (r.toNat / 256)
  have h2 := byte_of (r.toNat / 65536)
  have h3 := byte_of (r.toNat / 16777216)
  have e : Hid ((cb (four r)).toArray = #[.int .u8 ((r.toNat : Int) % 256), .int .u8 ((r.toNat : Int) / 256 % 256), .int .u8 ((r.toNat : Int) / 65536 % 256), .int .u8 ((r.toNat : Int) / 16777216)]) := by
    refine hid ?_
    have hr := r.isLt
    have h4 : (r.toNat : Int) / 16777216 % 256 = (r.toNat : Int) / 16777216 := by omega
    rw [← h4]
    simp only [four, cb, u8c, List.map_cons, List.map_nil, h0, h1, h2, h3, Int.natCast_ediv]
    rfl
  clear h0 h1 h2 h3
  have hcv := run_strn (P := Try.prog) (w.alloc (.cells (cb (four r)).toArray 5)) 22 9 5 Try.underlying22 Try.underlying5 Try.underlying9 _ 4 (four r) 4 rfl (Rd.block w (cb (four r)) _)
  rw [e.out] at hcv
  go_enter Try.func35, Try.ntmps35
  go_wp2
  go_ret
  exact ⟨rfl, (Below.refl _ w).alloc (Nat.le_refl _) _⟩

set_option maxHeartbeats 400000 in
theorem refSeal_any (l : List UInt8) (w : World) (hl : l.length ≤ 9223372036854775000) :
    Calls Try.prog 24 #[.string ⟨l.toArray⟩] w (ResS (seal_ l) w) := by
  have hadd := run_add_lists (P := Try.prog) l (four (sum l)) (by rw [four_length]; omega)
  have hadd : ∀ w, (Op.stringOp .add ⟨l.toArray⟩ ⟨(four (sum l)).toArray⟩).run Try.prog w = .ok (.string ⟨(seal_ l).toArray⟩) w := hadd
  obtain ⟨s, hs⟩ : ∃ s, sum l = s := ⟨_, rfl⟩
  rw [hs] at hadd
  replace hs := hid hs
  go_enter Try.func24, Try.ntmps24
  go_wp2_with fail
  refine (refSum_l l _ hl).mono ?_
  rintro e w1 ⟨rfl, rfl⟩
  rw [hs.out]
  go_wp2_with fail
  refine (refFour_any s _).mono ?_
  rintro e w1 ⟨rfl, hb1⟩
  go_wp2_with fail
  go_ret
  exact ⟨rfl, hb1⟩

/-- What the document's Open hands back. -/
def OpenS (l : List UInt8) (w : World) (en : Ending) (w' : World) : Prop :=
  en = .returned (.tuple #[.string ⟨(openR l).1.toArray⟩, .int .i64 ((openR l).2 : Int)]) ∧ Below w.heap.size w w'

theorem openR_alt (s : List UInt8) (h : 4 ≤ s.length) : openR s = if seal_ (s.take (s.length - 4)) = s then (s.take (s.length - 4), 0) else ([], 5) := by
  unfold openR
  rw [if_neg (by omega)]
  have e : seal_ (s.take (s.length - 4)) = s ↔ four (sum (s.take (s.length - 4))) = s.drop (s.length - 4) := by
    unfold seal_
    conv => lhs; rhs; rw [← List.take_append_drop (s.length - 4) s]
    exact List.append_cancel_left_eq ..|>.to_iff
  by_cases hq : four (sum (s.take (s.length - 4))) = s.drop (s.length - 4)
  · rw [if_pos hq, if_pos (e.2 hq)]
  · rw [if_neg hq, if_neg (fun h => hq (e.1 h))]

set_option maxHeartbeats 1000000 in
theorem refOpen_any (n : Nat) (l : List UInt8) (w : World) (hn : l.length = n) (hl : n ≤ 9223372036854775000) :
    Calls Try.prog 26 #[.string ⟨l.toArray⟩] w (OpenS l w) := by
  by_cases h4 : n < 4
  · have hq := hid (open_short l (by rw [hn]; exact h4))
    go_enter Try.func26, Try.ntmps26
    go_wp2
    go_ret2
    exact ⟨by rw [hq.out]; rfl, Below.refl _ _⟩
  · obtain ⟨m, rfl⟩ : ∃ m, n = m + 4 := ⟨n - 4, by omega⟩
    have hq := openR_alt l (by omega)
    rw [show l.length - 4 = m from by omega] at hq
    have hex := extract_list l 0 m
    rw [List.drop_zero] at hex
    by_cases heq : seal_ (l.take m) = l
    · have hbe : (seal_ (l.take m) == l) = true := by rw [heq]; exact beq_self_eq_true _
      rw [if_pos heq] at hq
      replace hq := hid hq
      replace heq := hid heq
      go_enter Try.func26, Try.ntmps26
      go_wp2_with (go_at_call 24; refine (refSeal_any (l.take m) _ (by rw [List.length_take]; omega)).mono ?_; rintro e w1 ⟨rfl, hb1⟩)
      go_ret2
      exact ⟨by rw [hq.out]; rfl, hb1⟩
    · have hbe : (seal_ (l.take m) == l) = false := by rw [beq_eq_false_iff_ne]; exact heq
      rw [if_neg heq] at hq
      replace hq := hid hq
      replace heq := hid heq
      go_enter Try.func26, Try.ntmps26
      go_wp2_with (go_at_call 24; refine (refSeal_any (l.take m) _ (by rw [List.length_take]; omega)).mono ?_; rintro e w1 ⟨rfl, hb1⟩)
      go_ret2
      exact ⟨by rw [hq.out]; rfl, hb1⟩
end Go.Proofs.Ytcmbdbphddokmaa
