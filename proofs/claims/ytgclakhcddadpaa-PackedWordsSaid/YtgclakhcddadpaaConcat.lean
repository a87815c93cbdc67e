/-
  THE WALKS: slices.Grow at nil, slices.Concat.
-/
import Derived.Test.YtgclakhcddadpaaSl
import Derived.Lib.AppendZerosOnto
import Derived.Lib.SliceRun
namespace Go.Proofs.Ytgclakhcddadpaa
open Go.RowKit

set_option maxHeartbeats 1000000 in
set_option maxRecDepth 100000 in
theorem grow_any (n : Nat) (w : World) (hn : n ≤ 70368744177664) :
    Calls Try.prog 65 #[.slice none 0 0, .int .i64 n] w (Res 5 0 [] w) := by
  obtain ⟨i0, hi, hz0, hz1, hz2⟩ := info_parts info_u8
  by_cases h0 : n = 0
  · subst h0
    go_enter Try.func65, Try.ntmps65
    go_wp2
    go_ret
    exact ⟨none, 0, rfl, World.ownsRow_nil _ _ _ _, Below.refl _ _⟩
  · have hpos : (0 : Int) < (n : Int) := by omega
    have hgr := fun ty => Lib.run_append_grow_zeros (P := Try.prog) w 23 3 ty 5 i0 (.int .u8 0) .i64 .i64 Try.underlying23 Try.underlying3 hi hz0 none 0 0 [] (run_firstCells_none w.drew i0.size 0 0 0) n (by omega) (by omega) (by omega) (by omega) (by rw [hz2]; omega) (by rw [hz2]; exact growslice_fits (by omega) (by omega))
    rw [Nat.zero_add] at hgr
    have hge := grownCap_ge w n 0 5
    have hle := grownCap_le_maxLen w n 0 5 (by unfold maxLen; omega)
    obtain ⟨G, hG⟩ : ∃ G, grownCap w n 0 5 = G := ⟨_, rfl⟩
    rw [hG] at hgr hge hle
    have hown : (w.drew.alloc (.cells (([] : List Value).toArray ++ Builtin.zeroCells (Value.int .u8 0).cells n ++ Builtin.zeroCells (Value.int .u8 0).cells (G - n)) 5)).ownsRow w.heap.size 5 1 (.slice (some ⟨w.heap.size, 0, none⟩) 0 G) 0 [] := by
      refine ⟨by simp, .inr ⟨w.heap.size, G, _, rfl, Nat.le_refl _, heap_alloc_new w.drew _, Nat.zero_le _, hle, ?_, by simp⟩⟩
      have hc1 : (Value.int .u8 0).cells.size = 1 := rfl
      simp [Builtin.zeroCells, hc1]
      omega
    have hG63 : (G : Int) ≤ 9223372036854775807 := by unfold maxLen at hle; omega
    clear hG
    go_enter Try.func65, Try.ntmps65
    go_wp2_with (at_builtin; refine Lib.wpList_append_run _ rfl _ _ _ _ rfl _ _ rfl rfl _ _ (hgr _) ?_)
    go_ret
    refine ⟨_, _, rfl, ?_, ?_⟩
    · have e : (([] : List Value).toArray ++ Builtin.zeroCells (Value.int .u8 0).cells n) = Builtin.zeroCells #[.int .u8 0] n := by simp [Value.cells]
      rw [e] at hown
      exact hown
    · exact ((Below.refl _ w).alloc (Nat.le_refl _) _).drew

/-- A row of rows of bytes. -/
def PartsAt (w : World) (A : Option Addr) (n : Nat) (ls : List (List UInt8)) : Prop :=
  ls.length = n ∧ ∃ vs : List Value, Rd w A vs ∧ vs.length = n ∧ ∀ (j : Nat) (l : List UInt8), ls[j]? = some l → ∃ (Aj : Option Addr) (cj : Nat), vs[j]? = some (Value.slice Aj l.length cj) ∧ Rd w Aj (cb l)

theorem PartsAt.below {w w' : World} {A : Option Addr} {n : Nat} {ls : List (List UInt8)} (h : PartsAt w A n ls) (hb : Below w.heap.size w w') : PartsAt w' A n ls := by
  obtain ⟨k1, vs, k2, k3, k4⟩ := h
  refine ⟨k1, vs, k2.below hb, k3, fun q y hq => ?_⟩
  obtain ⟨Aq, cq, z1, z2⟩ := k4 q y hq
  exact ⟨Aq, cq, z1, z2.below hb⟩

theorem flatten_take (ls : List (List UInt8)) (j : Nat) (h : j < ls.length) : (ls.take (j + 1)).flatten = (ls.take j).flatten ++ ls[j] := by
  rw [List.take_succ_eq_append_getElem h, List.flatten_append]
  simp
theorem flatten_take_le (ls : List (List UInt8)) (j : Nat) : (ls.take j).flatten.length ≤ ls.flatten.length := by
  have h : ls.flatten = (ls.take j).flatten ++ (ls.drop j).flatten := by rw [← List.flatten_append, List.take_append_drop]
  rw [h, List.length_append]
  omega

set_option maxHeartbeats 2000000 in
set_option maxRecDepth 100000 in
theorem concat_any (A : Option Addr) (n c : Nat) (ls : List (List UInt8)) (w : World) (hP : PartsAt w A n ls) (hn : n ≤ 1000000) (hl : ls.flatten.length ≤ 70368744177664) :
    Calls Try.prog 52 #[.slice A n c] w (Res 5 ls.flatten.length (cb ls.flatten) w) := by
  obtain ⟨i0, hi, hz0, hz1, hz2⟩ := info_parts info_u8
  obtain ⟨hls, vs, hvs, hvn, hall⟩ := hP
  have hfl := fun j => flatten_take_le ls j
  have hfs := fun j h => flatten_take ls j h
  obtain ⟨T, hT⟩ : ∃ T, ls.flatten.length = T := ⟨_, rfl⟩
  rw [hT] at hfl hl ⊢
  replace hT := hid hT
  replace hfl := hid hfl
  replace hfs := hid hfs
  replace hls := hid hls
  replace hvn := hid hvn
  go_enter Try.func52, Try.ntmps52
  go_wp2
  go_loop [3, 11] (fun s i => ∃ (j q : Nat), i = .int .i64 j ∧ j ≤ n ∧ s = .int .i64 q ∧ q ≤ T ∧ Hid ((ls.take j).flatten.length = q)) (fun _ i => n - (intOf i).toNat)
  case atStart => exact ⟨0, 0, rfl, by omega, rfl, by omega, hid (by simp)⟩
  case round =>
    obtain ⟨j, q, rfl, hj, rfl, hqT, hq⟩ := hrel
    by_cases hlt : j < n
    · have hjl : j < ls.length := by rw [hls.out]; exact hlt
      obtain ⟨Aj, cj, hv, hd⟩ := hall j ls[j] (List.getElem?_eq_getElem hjl)
      obtain ⟨b, o, rfl, hbo, hce⟩ := hvs (by rw [hvn.out]; omega)
      have hck := hce j _ hv
      have hnx := congrArg List.length (hfs.out j hjl)
      rw [List.length_append, hq.out] at hnx
      have hnT := hfl.out (j + 1)
      rw [hnx] at hnT
      generalize ls[j].length = x at hck hnx hnT
      replace hnx := hid hnx
      have hjn : (j : Int) < (n : Int) := by omega
      clear hall hce hvs hd hv
      go_wp2
      go_round
      case rel => exact ⟨j + 1, q + x, by go_num, by omega, by go_num, hnT, hnx⟩
      case measure => simp [intOf]; omega
    · obtain rfl : j = n := by omega
      have hqT : q = T := by have h := hq.out; rw [List.take_of_length_le (by rw [hls.out]; exact Nat.le_refl _)] at h; rw [← h, hT.out]
      subst hqT
      go_wp2_with fail
      refine (grow_any q w (by omega)).mono ?_
      rintro e w1 ⟨A1, c1, rfl, hown1, hb1⟩
      go_wp2_with fail
      go_loopw [6, 27] (fun s i wr => ∃ (k r : Nat) (A2 : Option Addr) (c2 : Nat), i = .int .i64 k ∧ k ≤ j ∧ s = .slice A2 r c2 ∧ Hid ((ls.take k).flatten.length = r) ∧ wr.ownsRow w.heap.size 5 1 (.slice A2 r c2) r (cb (ls.take k).flatten) ∧ Below w.heap.size w wr) (fun _ i _ => j - (intOf i).toNat)
      case atStart => exact ⟨0, 0, A1, c1, rfl, by omega, rfl, hid (by simp), by simpa [cb] using hown1, hb1⟩
      case round =>
        obtain ⟨k, r, A2, c2, rfl, hk, rfl, hr, hown, hb⟩ := hrel
        clear hown1
        by_cases hlt2 : k < j
        · have hkl : k < ls.length := by rw [hls.out]; exact hlt2
          obtain ⟨Ak, ck, hv, hd⟩ := hall k ls[k] (List.getElem?_eq_getElem hkl)
          obtain ⟨b, o, rfl, hbo, hce⟩ := (hvs.below hb) (by rw [hvn.out]; omega)
          have hck := hce k _ hv
          have hnx := hfs.out k hkl
          have hnl := congrArg List.length hnx
          rw [List.length_append, hr.out] at hnl
          have hnT := hfl.out (k + 1)
          rw [hnl] at hnT
          generalize ls[k] = y at hck hnx hnT hnl hd
          have hd' := hd.below hb
          obtain ⟨x, hx⟩ : ∃ x, y.length = x := ⟨_, rfl⟩
          rw [hx] at hck hnT hnl
          replace hx := hid hx
          replace hnx := hid hnx
          replace hnl := hid hnl
          have hkn : (k : Int) < (j : Int) := by omega
          clear hall hce hvs hd hv
          go_wp2_with (at_builtin; refine wpList_app _ rfl (.tmp 31) (.tmp 32) 23 rfl w.heap.size 5 i0 (.int .u8 0) 1 Try.underlying23 hi hz0 hz1 hz2 rfl _ _ _ _ rfl hown _ _ _ _ rfl hd' (by rw [cb_length, hx.out]) (cb_one y) (by unfold maxLen; omega) (by omega) hb.size ?_; intro A' c' w' hown' hg' hb' hn')
          go_roundw
          case rel => exact ⟨k + 1, r + x, A', c', by go_num, by omega, by rfl, hnl, by rw [hnx.out, cb_append]; exact hown', hb.trans hb'⟩
          case measure => simp [intOf]; omega
        · obtain rfl : k = j := by omega
          clear hall hvs
          go_wp2
          go_ret
          have ht : ls.take k = ls := List.take_of_length_le (by rw [hls.out]; exact Nat.le_refl _)
          rw [ht] at hown
          have hrq : r = q := by have h := hr.out; rw [ht, hT.out] at h; exact h.symm
          subst hrq
          exact ⟨A2, c2, rfl, hown, hb⟩
end Go.Proofs.Ytgclakhcddadpaa
