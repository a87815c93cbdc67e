/-
  THE WALK of NumAll.
-/
import Derived.Test.YtkaigeodeabicaaNumL
import Derived.Test.YtkaigeodeabicaaNumH
import Derived.Deep.QuietTactic
import Derived.BigQuiet
namespace Go.Proofs.Ytkaigeodeabicaa
open Go.RowKit

theorem i64s_length (l : List Nat) : (i64s l).length = l.length := by simp [i64s]
theorem u64s_length (l : List Nat) : (u64s l).length = l.length := by simp [u64s]
theorem i64s_get (l : List Nat) (i : Nat) (h : i < l.length) : (i64s l)[i]? = some (.int .i64 (l[i] : Int)) := by simp [i64s, h]
theorem u64s_get (l : List Nat) (i : Nat) (h : i < l.length) : (u64s l)[i]? = some (.int .u64 (l[i] : Int)) := by simp [u64s, h]

theorem below_drewN (w : World) (n : Nat) : Below w.heap.size w (w.drewN n) := ⟨rfl, rfl, rfl, Nat.le_refl _, fun _ _ => rfl⟩

set_option maxRecDepth 100000 in
set_option maxHeartbeats 1000000 in
/-- Two lists that are the same. -/
theorem same_yes (A B : Option Addr) (n c d : Nat) (l : List Nat) (w : World) (hn : l.length = n) (hA : Rd w A (i64s l)) (hB : Rd w B (i64s l)) (hl : n ≤ 1000000) :
    Calls Try.prog 22 #[.slice A n c, .slice B n d] w (Yes w) := by
  replace hn := hid hn
  go_enter Try.func22, Try.ntmps22
  go_wp2
  go_loopw [5] (fun i wr => ∃ k : Nat, i = .int .i64 k ∧ k ≤ n ∧ Below w.heap.size w wr) (fun i _ => n - (intOf i).toNat)
  case atStart => exact ⟨0, rfl, by omega, Below.refl _ _⟩
  case round =>
    obtain ⟨k, rfl, hk, hb⟩ := hrel
    by_cases hlt : k < n
    · have hkl : k < l.length := by rw [hn.out]; exact hlt
      obtain ⟨b1, o1, rfl, _, hc1⟩ := (hA.below hb) (by rw [i64s_length, hn.out]; omega)
      obtain ⟨b2, o2, rfl, _, hc2⟩ := (hB.below hb) (by rw [i64s_length, hn.out]; omega)
      have h1 := hc1 k _ (i64s_get l k hkl)
      have h2 := hc2 k _ (i64s_get l k hkl)
      generalize l[k] = x at h1 h2
      clear hc1 hc2 hA hB
      have hi1 : (k : Int) < (n : Int) := by omega
      go_wp2
      go_quiet (fail)
      have hb2 := hb.trans ((below_drewN wr nq).mono hb.size)
      generalize wr.drewN nq = w2 at *
      go_wp2
      go_roundw
      case rel => exact ⟨k + 1, by go_num, by omega, hb2⟩
      case measure => simp [intOf]; omega
    · obtain rfl : k = n := by omega
      go_wp2
      go_ret
      exact ⟨rfl, hb⟩

set_option maxRecDepth 100000 in
set_option maxHeartbeats 4000000 in
theorem numAll_walk (A : Option Addr) (L : Nat) (c : Nat) (l : List UInt8) (z : Int) (w : World) (hL : l.length = L) (hr : Rd w A (cb l)) (hA : A = none → l = []) (hLc : L ≤ c) (hcm : c ≤ maxLen) :
    Calls Try.prog 7 #[.slice A L c, .int .i64 z] w (Yes w) := by
  obtain ⟨i0, hi0, hz0, hz1, hz2⟩ := info_parts info_int
  obtain ⟨i1, hi1, hy0, hy1, hy2⟩ := info_parts info_u64
  have hrl := rows_length l
  rw [hL] at hrl
  replace hL := hid hL
  unfold maxLen at hcm
  by_cases hbig : 1000 < L
  · clear hrl
    go_enter Try.func7, Try.ntmps7
    go_wp2_with (go_at_call 12; refine (awake_any _).mono ?_; rintro e w3 ⟨rfl, hb3⟩)
    go_ret
    exact ⟨rfl, hb3⟩
  · obtain ⟨r, hr255, hb⟩ := i64_mask z 255 (by omega)
    have hb : bits BinOp.and IntKind.i64 z 255 = (r : Int) := hb
    replace hrl := hid hrl
    go_enter Try.func7, Try.ntmps7
    go_wp2
    go_loopw [5, 6, 7] (fun s5 s6 i wr => ∃ (k : Nat) (pre : List (Nat × Nat)) (A2 : Option Addr) (c2 : Nat) (A3 : Option Addr) (c3 : Nat), i = .int .i64 k ∧ k ≤ L ∧ Hid (rows l = pre ++ restR l k) ∧ s5 = .slice A2 pre.length c2 ∧ s6 = .slice A3 pre.length c3 ∧
      wr.ownsRow w.heap.size 3 1 (.slice A2 pre.length c2) pre.length (i64s (pre.map (·.1))) ∧ wr.ownsRow w.heap.size 22 1 (.slice A3 pre.length c3) pre.length (u64s (pre.map (·.2))) ∧ Below w.heap.size w wr)
      (fun _ _ i _ => L - (intOf i).toNat)
    case atStart => exact ⟨0, [], none, 0, none, 0, rfl, by omega, hid rfl, rfl, rfl, World.ownsRow_nil _ _ _ _, World.ownsRow_nil _ _ _ _, Below.refl _ _⟩
    case round =>
      obtain ⟨k, pre, A2, c2, A3, c3, rfl, hk, hpre, rfl, rfl, hr1, hr2, hbw⟩ := hrel
      obtain ⟨t, ht⟩ : ∃ t, take (l.drop k) = t := ⟨_, rfl⟩
      obtain ⟨n1, sz, er⟩ := t
      have hrd : Rd wr (Option.map (fun x => x.add k) A) (cb (l.drop k)) := by have h := (hr.below hbw).drop k; rwa [cb_drop] at h
      have hdl : Hid ((l.drop k).length = L - k) := hid (by rw [List.length_drop, hL.out])
      have hcv := run_strn (P := Try.prog) wr 23 9 5 Try.underlying23 Try.underlying5 Try.underlying9 _ (L - k) (l.drop k) (c - k) hdl.out hrd
      have hTk := fun w' => refTake_any ⟨(l.drop k).toArray⟩ w' (by show (l.drop k).toArray.size ≤ _; rw [List.size_toArray, hdl.out]; omega)
      have e1 : (⟨(l.drop k).toArray⟩ : ByteArray).data.toList = l.drop k := rfl
      rw [e1, ht] at hTk
      by_cases hgo : k < L ∧ er = 0
      · obtain ⟨hlt, rfl⟩ := hgo
        have hck : ¬ c = k := by omega
        have hst := restR_step l k (by rw [hL.out]; exact hlt) (by rw [ht])
        rw [ht] at hst
        have hsz := take_size (l := l.drop k) (by rw [ht])
        rw [ht, hdl.out] at hsz
        simp only at hsz
        have hpl : pre.length < 1000 := by have h1 := hrl.out; rw [hpre.out, hst] at h1; simp at h1; omega
        replace ht := hid ht
        replace hst := hid hst
        replace hTk := hid hTk
        have hws := hbw.size
        go_wp2_with (first
          | (go_at_call 20; refine (hTk.out _).mono ?_; rintro e w1 ⟨rfl, rfl⟩; unfold tup3)
          | (at_builtin; refine wpList_app _ rfl (.tmp 36) (.tmp 38) 39 rfl w.heap.size 3 i0 (.int .i64 0) 8 Try.underlying39 hi0 hz0 hz1 hz2 rfl _ _ _ _ rfl (hr1.alloc _) _ _ _ [.int .i64 (k : Int)] rfl (Rd.one _ _ _) rfl (one_int _ _) (by unfold maxLen; omega) (by omega) (by simp; omega) ?_; intro A4 c4 w4 hown4 hg4 hb4 _; have hr2' := (hr2.alloc _).kept hg4 (owns_ne (hr2.alloc _) (hr1.alloc (.cells #[.int .i64 (k : Int)] 3)) (by decide)))
          | (at_builtin; refine wpList_app _ rfl (.tmp 40) (.tmp 42) 40 rfl w.heap.size 22 i1 (.int .u64 0) 8 Try.underlying40 hi1 hy0 hy1 hy2 rfl _ _ _ _ rfl (hr2'.alloc _) _ _ _ [.int .u64 (n1 : Int)] rfl (Rd.one _ _ _) rfl (one_int _ _) (by unfold maxLen; omega) (by omega) (by have := hb4.size; simp at this ⊢; omega) ?_; intro A5 c5 w5 hown5 hg5 hb5 _; have hr1' := (hown4.alloc _).kept hg5 (owns_ne (hown4.alloc _) (hr2'.alloc (.cells #[.int .u64 (n1 : Int)] 22)) (by decide))))
        go_roundw
        case rel => 
          have hlx : (pre ++ [(k, n1)]).length = pre.length + 1 := by simp
          refine ⟨k + sz, pre ++ [(k, n1)], A4, c4, A5, c5, by go_num, by omega, hid (by rw [hpre.out, hst.out]; simp), by rw [hlx], by rw [hlx], ?_, ?_, ?_⟩
          · rw [hlx, List.map_append, List.map_singleton, i64s_snoc]; exact hr1'
          · rw [hlx, List.map_append, List.map_singleton, u64s_snoc]; exact hown5
          · have hb4' : Below w.heap.size w w4 := (hbw.alloc hws _).trans hb4
            exact (hb4'.alloc hb4'.size _).trans hb5
        case measure => simp [intOf]; omega
      · have hpE : rows l = pre := by
          rw [hpre.out]
          rcases Nat.lt_or_ge k L with h | h
          · rw [restR_bad l k (by rw [ht]; exact fun e => hgo ⟨h, e⟩), List.append_nil]
          · rw [restR_end l k (by rw [hL.out]; omega), List.append_nil]
        have hm := hrl.out
        rw [hpE] at hm
        have ht1 : (rows l).take 2000 = pre := by rw [hpE]; exact List.take_of_length_le (by omega)
        have ht2 : (rows l).take r = pre.take r := by rw [hpE]
        replace ht1 := hid ht1
        replace ht2 := hid ht2
        replace hpE := hid hpE
        replace ht := hid ht
        replace hTk := hid hTk
        by_cases hlt : k < L
        rotate_left
        obtain rfl : k = L := by omega
        go_wp2_with fail
        rotate_left
        have her : ((er : Int) != 0) = true := by
          have : er ≠ 0 := fun e => hgo ⟨hlt, e⟩
          simp; omega
        have hck : ¬ c = k := by omega
        go_wp2_with (go_at_call 20; refine (hTk.out _).mono ?_; rintro e w1 ⟨rfl, rfl⟩; unfold tup3)
        all_goals
          refine (told_any A _ l c 2000 _ hL.out (hr.below hbw) hA (by omega) (by omega)).mono ?_
          rintro e w1 ⟨A4, c4, A5, c5, rfl, hx1, hx2, hb1⟩
          rw [ht1.out] at hx1 hx2 ⊢
          have hbw1 := hbw.trans (hb1.mono hbw.size)
          go_wp2_with fail
          refine (told_any A _ l c r _ hL.out (hr.below hbw1) hA (by omega) (by omega)).mono ?_
          rintro e w2 ⟨A6, c6, A7, c7, rfl, hx3, hx4, hb2⟩
          rw [ht2.out] at hx3 hx4 ⊢
          have hbw2 := hbw1.trans (hb2.mono hbw1.size)
          obtain ⟨K, hK⟩ : ∃ K, (pre.take r).length = K := ⟨_, rfl⟩
          have hKr : K ≤ r := by rw [List.length_take] at hK; omega
          have hKm : K ≤ pre.length := by rw [List.length_take] at hK; omega
          have hmin : (if (pre.length : Int) < (r : Int) then (pre.length : Int) else (r : Int)) = (K : Int) := by rw [List.length_take] at hK; split <;> omega
          rw [hK] at hx3 hx4 ⊢
          have rd1 := ((Rd.of_own hr1).below hb1).below hb2
          have rd2 := ((Rd.of_own hr2).below hb1).below hb2
          have rd3 := (Rd.of_own hx1).below hb2
          have rd4 := (Rd.of_own hx2).below hb2
          have rd5 := Rd.of_own hx3
          have rd6 := Rd.of_own hx4
          have rdK : Rd w2 A2 (i64s ((pre.take r).map (·.1))) := by have h := rd1.take r; simpa [i64s, List.map_take] using h
          have hcc2 := own_cap hr1
          unfold maxLen at hcc2
          obtain ⟨m, hm'⟩ : ∃ m, pre.length = m := ⟨_, rfl⟩
          have hml : m ≤ 1000 := by omega
          have hlp : Hid ((pre.map (·.1)).length = m) := hid (by simp [hm'])
          have hlp2 : Hid ((pre.map (·.2)).length = m) := hid (by simp [hm'])
          have hlk : Hid (((pre.take r).map (·.1)).length = K) := hid (by rw [List.length_map, hK])
          have hlk2 : Hid (((pre.take r).map (·.2)).length = K) := hid (by rw [List.length_map, hK])
          have hky : Hid (∀ i (h : i < ((pre.take r).map (·.2)).length) (h2 : i < (pre.map (·.2)).length), ((pre.take r).map (·.2))[i] = (pre.map (·.2))[i]) := hid (fun i h h2 => by simp)
          rw [hm'] at hmin hKm hcc2 ⊢
          clear hpre hm ht1 ht2 hpE ht hTk hcv hrd hrl hx1 hx2 hx3 hx4 hr1 hr2 hm' hK
          have hmr := run_min_int2 (P := Try.prog) (w := w2) #[3, 3] 3 .i64 .i64 (r : Int) (m : Int)
          rw [hmin] at hmr
          clear hmin
          go_wp2_with fail
          clear hmr
          refine (same_yes A4 A2 m c4 c2 (pre.map (·.1)) w2 hlp.out rd3 rd1 (by omega)).mono ?_
          rintro e w3 ⟨rfl, hb3⟩
          go_wp2_with fail
          refine (same_yes A6 A2 K c6 c2 ((pre.take r).map (·.1)) w3 hlk.out (rd5.below hb3) (rdK.below hb3) (by omega)).mono ?_
          rintro e w4 ⟨rfl, hb4⟩
          go_wp2_with fail
          have hbw4 := (hbw2.trans (hb3.mono hbw2.size)).trans (hb4.mono (Nat.le_trans hbw2.size hb3.size))
          have rq2 := (rd2.below hb3).below hb4
          have rq4 := (rd4.below hb3).below hb4
          have rq6 := (rd6.below hb3).below hb4
          clear rd1 rd2 rd3 rd4 rd5 rd6 rdK hb1 hb2 hb3 hb4 hbw hbw1 hbw2 hr
          go_loopw [16] (fun i wr => ∃ q : Nat, i = .int .i64 q ∧ q ≤ m ∧ Below w4.heap.size w4 wr) (fun i _ => m - (intOf i).toNat)
          case atStart => exact ⟨0, rfl, by omega, Below.refl _ _⟩
          case round =>
            obtain ⟨q, rfl, hq, hbq⟩ := hrel
            by_cases hqm : q < m
            · have hq2 : q < (pre.map (·.2)).length := by rw [hlp2.out]; exact hqm
              obtain ⟨b1, o1, rfl, _, hce1⟩ := (rq2.below hbq) (by rw [u64s_length, hlp2.out]; omega)
              obtain ⟨b2, o2, rfl, _, hce2⟩ := (rq4.below hbq) (by rw [u64s_length, hlp2.out]; omega)
              have h1 := hce1 q _ (u64s_get _ q hq2)
              have h2 := hce2 q _ (u64s_get _ q hq2)
              have hqi : (q : Int) < (m : Int) := by omega
              by_cases hqK : q < K
              · have hq3 : q < ((pre.take r).map (·.2)).length := by rw [hlk2.out]; exact hqK
                obtain ⟨b3, o3, rfl, _, hce3⟩ := (rq6.below hbq) (by rw [u64s_length, hlk2.out]; omega)
                have h3 := hce3 q _ (u64s_get _ q hq3)
                rw [hky.out q hq3 hq2] at h3
                generalize (pre.map (·.2))[q] = x at h1 h2 h3
                have hxx : ((x : Int) != (x : Int)) = false := by simp
                have hd : decide (q < K) = true := by simpa using hqK
                clear hce1 hce2 hce3
                go_wp2
                go_quiet (fail)
                have hb5 := hbq.trans ((below_drewN wr nq).mono hbq.size)
                generalize wr.drewN nq = w5 at *
                go_wp2
                go_roundw
                case rel => exact ⟨q + 1, by go_num, by omega, hb5⟩
                case measure => simp [intOf]; omega
              · generalize (pre.map (·.2))[q] = x at h1 h2
                have hxx : ((x : Int) != (x : Int)) = false := by simp
                have hd : decide (q < K) = false := by simpa using hqK
                clear hce1 hce2
                go_wp2
                go_quiet (fail)
                have hb5 := hbq.trans ((below_drewN wr nq).mono hbq.size)
                generalize wr.drewN nq = w5 at *
                go_wp2
                go_roundw
                case rel => exact ⟨q + 1, by go_num, by omega, hb5⟩
                case measure => simp [intOf]; omega
            · obtain rfl : q = m := by omega
              have hbz := hbw4.trans (hbq.mono hbw4.size)
              go_wp2_with (go_at_call 12; refine (awake_any _).mono ?_; rintro e w3 ⟨rfl, hb3⟩)
              go_ret
              exact ⟨rfl, hbz.trans (hb3.mono hbz.size)⟩
end Go.Proofs.Ytkaigeodeabicaa
