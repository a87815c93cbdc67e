/-
  THE WALKS at uint32: the law's own wide; All, what it hands back.
-/
import Derived.Test.YtgclakhcddadpaaPkA32
import Derived.Test.YtgclakhcddadpaaBox
namespace Go.Proofs.Ytgclakhcddadpaa
open Go.RowKit Go.Shelf
attribute [local go_sem] Oper.semAt_some

theorem info64w32 : (Try.prog.info? 30).map (fun i => (i.zero, i.size, i.bytes)) = some (some (.int .u64 0), 1, 8) := by kernel_rfl

set_option maxRecDepth 100000 in
set_option maxHeartbeats 2000000 in
theorem wide32 (A : Option Addr) (n : Nat) (l : List Nat) (c : Nat) (w : World) (hn : l.length = n) (hr : Rd w A (uk .u32 l)) (hl : n ≤ 100000) (hm : Hid (∀ x ∈ l, x < 4294967296)) :
    Calls Try.prog 33 #[.slice A n c] w (Res 30 n (uk .u64 l) w) := by
  obtain ⟨i0, hi, hz0, hz1, hz2⟩ := info_parts info64w32
  replace hn := hid hn
  go_enter Try.func33, Try.ntmps33
  go_wp2
  go_loopw [3, 4] (fun m i wr => ∃ (j : Nat) (A2 : Option Addr) (c2 : Nat), i = .int .i64 j ∧ j ≤ n ∧ m = .slice A2 j c2 ∧ wr.ownsRow w.heap.size 30 1 (.slice A2 j c2) j (uk .u64 (l.take j)) ∧ Below w.heap.size w wr) (fun _ i _ => n - (intOf i).toNat)
  case atStart => exact ⟨0, none, 0, rfl, Nat.zero_le _, rfl, World.ownsRow_nil _ _ _ _, Below.refl _ _⟩
  case round =>
    obtain ⟨j, A2, c2, rfl, hj, rfl, hown, hb⟩ := hrel
    have hsz := hb.size
    by_cases hlt : j < n
    · have hjl : j < l.length := by rw [hn.out]; exact hlt
      have hjI : (j : Int) < (n : Int) := by omega
      have htk := hid (List.take_succ_eq_append_getElem hjl)
      obtain ⟨b, o, rfl, hbo, hc⟩ := (hr.below hb) (by rw [uk_length]; omega)
      have hce := hc j _ (uk_get .u32 l j hjl)
      have hxm := hm.out _ (List.getElem_mem hjl)
      obtain ⟨x, hx⟩ : ∃ x, l[j] = x := ⟨_, rfl⟩
      rw [hx] at hce htk hxm
      have hwr : IntKind.u64.wrap (x : Int) = (x : Int) := by rw [IntKind.wrap_u64]; omega
      have hxi : (x : Int) < 4294967296 := by omega
      replace hx := hid hx
      replace hxm := hid hxm
      clear hc
      go_wp2_with (at_builtin; refine wpList_app _ rfl (.tmp 11) (.tmp 17) 28 rfl w.heap.size 30 i0 (.int .u64 0) 8 Try.underlying28 hi hz0 hz1 hz2 rfl _ _ _ _ rfl (hown.alloc _) _ _ _ [.int .u64 (x : Int)] rfl (Rd.one _ _ _) rfl (one_int _ _) (by unfold maxLen; omega) (by omega) (by simp; omega) ?_; intro A' c' w' hown' hg' hb' hn')
      go_roundw
      case rel => exact ⟨j + 1, A', c', by go_num, by omega, rfl, by rw [htk.out, uk_snoc]; exact hown', (hb.alloc hb.size _).trans hb'⟩
      case measure => simp [intOf]; omega
    · obtain rfl : j = n := by omega
      have htl : l.take j = l := List.take_of_length_le (by rw [hn.out]; exact Nat.le_refl _)
      rw [htl] at hown
      go_wp2
      go_ret
      exact ⟨A2, c2, rfl, hown, hb⟩

/-- What All hands back: a function value over a box that holds the pointer. -/
def AllV32 (g : Nat) (w : World) (e : Ending) (w' : World) : Prop :=
  e = .returned (.func (.func 68) #[] #[.pointer (some ⟨w.heap.size, 0, none⟩)]) ∧ w'.cell? ⟨w.heap.size, 0, none⟩ = some (.pointer (some ⟨g, 0, none⟩)) ∧ w'.heap.size = w.heap.size + 1 ∧ Below w.heap.size w w'

set_option maxHeartbeats 1000000 in
theorem vall32 (g : Nat) (w : World) :
    Calls Try.prog 60 #[.pointer (some ⟨g, 0, none⟩)] w (AllV32 g w) := by
  have hbx := Boxed.new w 55 (.pointer (some ⟨g, 0, none⟩))
  have hcx := hbx.cell
  go_enter Try.func60, Try.ntmps60
  go_wp2
  go_ret
  exact ⟨rfl, hcx, by simp, (Below.refl _ w).alloc (Nat.le_refl _) _⟩

/-- The numbers with their places. -/
def idxL32 (l : List Nat) : List (Nat × Nat) := (List.range l.length).map fun i => (i, l.getD i 0)
theorem idxL32_length (l : List Nat) : (idxL32 l).length = l.length := by simp [idxL32]

/-- Blocks below lo0, and those from lo up to hi, lie as they lay. -/
def Mid232 (lo0 lo hi : Nat) (W W' : World) : Prop := Mid 0 lo0 W W' ∧ Mid lo hi W W'

set_option maxRecDepth 100000 in
set_option maxHeartbeats 2000000 in
/-- **What All hands back tells the numbers one by one.** -/
theorem vall_stops32 (lo0 lo hi Bb g z : Nat) (l : List Nat) (w w0 : World) (hnm : l.length ≤ 1000000) (hB1 : lo ≤ Bb) (hB2 : Bb < hi) (hhi : hi ≤ w.heap.size) (hcell : w.cell? ⟨Bb, 0, none⟩ = some (.pointer (some ⟨g, 0, none⟩)))
    (h0 : w0.heap.size ≤ lo0) (h0w : lo0 ≤ w.heap.size) (hbel : Below w0.heap.size w0 w) (hv : VecAt 94 .u32 g z l w0) :
    SeqStopsK Fence.wide 4 Try.prog 68 #[.pointer (some ⟨Bb, 0, none⟩)] (fun x : Nat × Nat => #[Value.int .i64 (x.1 : Int), Value.int .u32 (x.2 : Int)]) (Mid232 lo0 lo hi) (fun ys => ys = idxL32 l) (fun pre => pre <+: idxL32 l) (idxL32 l).length w := by
  intro lp J Jx W hW _ _ hY hJ0
  have hrl := idxL32_length l
  have hlen : ∀ (X : World), Mid232 lo0 lo hi W X → Below w0.heap.size w0 X ∨ True := fun _ _ => .inr trivial
  obtain ⟨A, c, h1, h2, h3, h4, h5⟩ := hv
  have hgl := (Array.getElem?_eq_some_iff.1 h1).1
  have hW0 : ∀ (X : World), Mid232 lo0 lo hi W X → ∀ b o v, b < w0.heap.size → w0.cell? ⟨b, o, none⟩ = some v → X.cell? ⟨b, o, none⟩ = some v := fun X hX b o v hb hc => by
    have e1 := hbel.cell (p := ⟨b, o, none⟩) hb
    have e2 := hW.cell (p := ⟨b, o, none⟩) (show b < w.heap.size by omega)
    have e3 := hX.1.cell (b := b) (o := o) (Nat.zero_le _) (by omega) (Nat.lt_of_lt_of_le (show b < w.heap.size by omega) hW.size)
    exact e3.trans (e2.trans (e1.trans hc))
  have hWB : ∀ (X : World), Mid232 lo0 lo hi W X → X.cell? ⟨Bb, 0, none⟩ = some (.pointer (some ⟨g, 0, none⟩)) := fun X hX => by
    have e2 := hW.cell (p := ⟨Bb, 0, none⟩) (show Bb < w.heap.size by omega)
    have e3 := hX.2.cell (b := Bb) (o := 0) hB1 hB2 (Nat.lt_of_lt_of_le (show Bb < w.heap.size by omega) hW.size)
    exact e3.trans (e2.trans hcell)
  obtain ⟨c0, c1⟩ := vec_cells h1
  have hM0 : Mid232 lo0 lo hi W W := ⟨Mid.refl _ _ _, Mid.refl _ _ _⟩
  have kB := hWB W hM0
  have k0 := hW0 W hM0 g 0 _ hgl c0
  have k1 := hW0 W hM0 g 1 _ hgl c1
  obtain ⟨n, hn⟩ : ∃ n, l.length = n := ⟨_, rfl⟩
  rw [hn] at k1 h4 hnm hrl
  replace hn := hid hn
  clear hlen hbel c0 c1 h1
  refine callsIn_of_wp Try.func68 rfl trivial ?_ rfl
  simp only [Try.ntmps68, List.size_toArray, List.length_cons, List.length_nil, Nat.reduceAdd, Nat.reduceSub, Array.replicate_succ, Array.replicate_zero, List.push_toArray, List.append_toArray, List.nil_append, List.cons_append]
  gi_wp2
  gi_loopw [10] (fun i wr => ∃ k : Nat, k ≤ n ∧ i = .int .i64 k ∧ J ((idxL32 l).take k) wr ∧ Mid232 lo0 lo hi W wr) (fun i _ => n - (intOf i).toNat)
  case atStart => exact ⟨0, Nat.zero_le _, rfl, hJ0, hM0⟩
  case round =>
    obtain ⟨k, hk, rfl, hJs, hmid⟩ := hrel
    by_cases hlt : k < n
    · have hkl : k < l.length := by rw [hn.out]; exact hlt
      have hkI : (k : Int) < (n : Int) := by omega
      have hpl : ((idxL32 l).take k).length < (idxL32 l).length := by rw [List.length_take, hrl]; omega
      obtain ⟨b, o, rfl, hb, hc⟩ := h2 (by rw [uk_length]; omega)
      have hce := hW0 wr hmid b (o + k) _ hb (hc k _ (uk_get .u32 l k hkl))
      obtain ⟨x, hx⟩ : ∃ x, l[k] = x := ⟨_, rfl⟩
      rw [hx] at hce
      have hts : (idxL32 l).take (k + 1) = (idxL32 l).take k ++ [(k, x)] := by
        rw [List.take_succ_eq_append_getElem (by rw [hrl]; exact hlt)]
        simp [idxL32, hkl, hx]
      obtain ⟨fn, tmps, assign, body, hy, hR⟩ := hY ((idxL32 l).take k) (k, x) wr hJs hpl
      dsimp only at hy
      replace hts := hid hts
      replace hx := hid hx
      clear hpl
      gi_wp2
      refine hR.mono ?_
      rintro e W3 (⟨rfl, hJ3, hk3⟩ | ⟨rfl, hJx3⟩)
      · gi_wp2
        go_roundw
        case rel => exact ⟨k + 1, by omega, by go_num, by rw [hts.out]; exact hJ3, ⟨hmid.1.trans hk3.1, hmid.2.trans hk3.2⟩⟩
        case measure => simp [intOf]; omega
      · gi_wp2
        refine bodyPost_ret (results_none rfl _ _ _) rfl ?_
        exact ⟨⟨_, rfl⟩, .inr ⟨(idxL32 l).take (k + 1), List.take_prefix _ _, by rw [hts.out]; exact hJx3⟩⟩
    · obtain rfl : k = n := by omega
      have htl : (idxL32 l).take k = idxL32 l := List.take_of_length_le (by rw [hrl]; exact Nat.le_refl _)
      rw [htl] at hJs
      gi_wp2
      go_end0
      exact ⟨⟨_, rfl⟩, .inl ⟨_, rfl, hJs⟩⟩
end Go.Proofs.Ytgclakhcddadpaa
