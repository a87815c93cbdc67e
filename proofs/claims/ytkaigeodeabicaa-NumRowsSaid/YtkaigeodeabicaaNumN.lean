/-
  THE WALK of NumRows.
-/
import Derived.Test.YtkaigeodeabicaaNumM
import Derived.Test.YtkaigeodeabicaaNumJ
import Derived.Test.YtkaigeodeabicaaPlainPuts
namespace Go.Proofs.Ytkaigeodeabicaa
open Go.RowKit

theorem u64_wf {x : Int} (h : (Lit.int .u64 x).wf = true) : 0 ≤ x ∧ x < 18446744073709551616 := by
  simp [Lit.wf, IntKind.min, IntKind.max, IntKind.signed, IntKind.bits] at h
  omega

/-- Numbers that came in. -/
theorem u64s_of_row {w : World} {a : Option Addr} {len cap : Nat} {zs : List Int} (h : IsRow .u64 w a len cap zs) :
    ∃ ns : List Nat, ns.length = len ∧ Rd w a (u64s ns) ∧ (∀ n ∈ ns, n < 18446744073709551616) ∧ len ≤ cap ∧ cap ≤ maxLen := by
  obtain ⟨h1, h2, _, h4, h5, h6⟩ := rd_of_row h
  refine ⟨(zs.take len).map Int.toNat, by rw [List.length_map]; exact h2, ?_, fun n hn => ?_, h4, h5⟩
  · have e : u64s ((zs.take len).map Int.toNat) = (zs.take len).map (.int .u64) := by
      unfold u64s
      rw [List.map_map]
      apply List.map_congr_left
      intro n hn
      have := u64_wf (h6 n hn)
      simp only [Function.comp]
      congr 1
      omega
    rw [e]
    exact h1
  · obtain ⟨z, hz, rfl⟩ := List.mem_map.1 hn
    have := u64_wf (h6 z hz)
    omega

theorem mod_bits (z : Int) (L : Nat) (hL : L ≤ 60000) : ∃ i : Nat, i ≤ L ∧ ∃ r : Nat, r ≤ 65535 ∧ bits BinOp.and IntKind.i64 z 65535 = (r : Int) ∧ (r : Int).tmod ((L : Int) + 1) = (i : Int) ∧ (r : Int) % ((L : Int) + 1) = (i : Int) := by
  obtain ⟨r, hr, hb⟩ := i64_mask z 65535 (by omega)
  have h1 := Nat.mod_lt r (show 0 < L + 1 by omega)
  have e : (r : Int) % ((L : Int) + 1) = ((r % (L + 1) : Nat) : Int) := by rw [Int.natCast_emod, Int.natCast_add]; rfl
  exact ⟨r % (L + 1), by omega, r, hr, hb, by rw [Int.tmod_eq_emod_of_nonneg (by omega), e], e⟩

/-- What was there, as the laws on rows ask it. -/
theorem below_grownN {w w' : World} (h : Below w.heap.size w w') : w.grownBy w' none := ⟨h.os, h.tape, h.output, h.size, fun k hk _ => h.block k hk⟩
theorem own_neN {w : World} {base : Nat} {e : TypeId} {v : Value} {n : Nat} {xs : List Value} (_ : w.ownsRow base e 1 v n xs) : v.ownBlock = none ∨ v.ownBlock ≠ none := by
  rcases v.ownBlock with _ | b
  · exact .inl rfl
  · exact .inr (by simp)

/-- Where the numbers end. -/
def endsL (ns : List Nat) (j : Nat) : List Nat := (List.range j).map fun i => startN ns (i + 1)
theorem endsL_succ (ns : List Nat) (j : Nat) : endsL ns (j + 1) = endsL ns j ++ [startN ns (j + 1)] := by simp [endsL, List.range_succ]
theorem endsL_length (ns : List Nat) (j : Nat) : (endsL ns j).length = j := by simp [endsL]
theorem endsL_get (ns : List Nat) (j i : Nat) (h : i < j) : (i64s (endsL ns j))[i]? = some (.int .i64 (startN ns (i + 1) : Int)) := by
  unfold i64s endsL
  rw [List.getElem?_map, List.getElem?_map, List.getElem?_range h]
  rfl

set_option maxRecDepth 100000 in
set_option maxHeartbeats 4000000 in
theorem numRows_walk (A : Option Addr) (L : Nat) (c : Nat) (ls : List Nat) (z : Int) (w : World) (hL : ls.length = L) (hr : Rd w A (u64s ls)) (hlt64 : ∀ n ∈ ls, n < 18446744073709551616) (hLc : L ≤ c) (hcm : c ≤ maxLen) :
    Calls Try.prog 8 #[.slice A L c, .int .i64 z] w (Yes w) := by
  obtain ⟨i0, hi0, hz0, hz1, hz2⟩ := info_parts info_int
  unfold maxLen at hcm
  obtain ⟨M, hM1, hM2, hM3⟩ : ∃ M, M ≤ L ∧ M ≤ 40 ∧ (M < L → M = 40) := ⟨min L 40, by omega, by omega, by omega⟩
  obtain ⟨ns, hns⟩ : ∃ ns, ls.take M = ns := ⟨_, rfl⟩
  have hnl : ns.length = M := by rw [← hns, List.length_take]; omega
  have hn64 : ∀ n ∈ ns, n < 18446744073709551616 := fun n hn => hlt64 n (by rw [← hns] at hn; exact List.mem_of_mem_take hn)
  have hrn : Rd w A (u64s ns) := by have h := hr.take M; unfold u64s at h ⊢; rwa [← List.map_take, hns] at h
  clear hr hns hlt64 hL
  have hsl := startN_le ns hn64
  replace hnl := hid hnl
  replace hn64 := hid hn64
  replace hsl := hid hsl
  replace hM3 := hid hM3
  go_enter Try.func8, Try.ntmps8
  go_wp2
  go_loopw [5, 6, 7] (fun s5 s6 i wr => ∃ (j q : Nat) (A2 A3 : Option Addr) (c3 : Nat), i = .int .i64 j ∧ j ≤ M ∧ s5 = .slice A2 q q ∧ s6 = .slice A3 j c3 ∧ Hid (startN ns j = q) ∧ q ≤ 10 * j ∧ Hid (A2 = none → q = 0) ∧
    Rd wr A2 (cb (puts (ns.take j))) ∧ wr.ownsRow w.heap.size 3 1 (.slice A3 j c3) j (i64s (endsL ns j)) ∧ Below w.heap.size w wr)
    (fun _ _ i _ => M - (intOf i).toNat)
  case atStart => exact ⟨0, 0, none, none, 0, rfl, by omega, rfl, rfl, hid (startN_zero ns), by omega, hid (fun _ => rfl), Rd.nil _ _, World.ownsRow_nil _ _ _ _, Below.refl _ _⟩
  case round =>
    obtain ⟨j, q, A2, A3, c3, rfl, hj, rfl, rfl, hq, hq10, hA2, hd2, hr3, hbw⟩ := hrel
    by_cases hlt : j < M
    · have hjn : j < ns.length := by rw [hnl.out]; exact hlt
      obtain ⟨b, o, rfl, _, hce⟩ := (hrn.below hbw) (by rw [u64s_length]; omega)
      have hck := hce j _ (u64s_get ns j hjn)
      have hnx := startN_succ ns j hjn
      have hpx : puts (ns.take (j + 1)) = puts (ns.take j) ++ put ns[j] := by rw [List.take_succ_eq_append_getElem hjn, puts_snoc]
      have hxl := hn64.out _ (List.getElem_mem hjn)
      obtain ⟨x, hx⟩ : ∃ x, ns[j] = x := ⟨_, rfl⟩
      rw [hx] at hck hnx hpx hxl
      rw [hq.out] at hnx
      have hpl : (put x).length ≤ 10 := put_le10 x hxl
      obtain ⟨pl, hpl2⟩ : ∃ pl, (put x).length = pl := ⟨_, rfl⟩
      rw [hpl2] at hpl hnx
      have hjL : (j : Int) < (L : Int) := by omega
      have hj40 : (j : Int) < 40 := by omega
      have hql : (puts (ns.take j)).length = q := hq.out
      replace hql := hid hql
      replace hnx := hid hnx
      replace hpx := hid hpx
      replace hx := hid hx
      replace hxl := hid hxl
      replace hpl2 := hid hpl2
      clear hce
      go_wp2_with fail
      refine (put_n A2 q (puts (ns.take j)) q x pl _ hql.out hpl2.out hd2 (fun h => List.eq_nil_of_length_eq_zero (by rw [hql.out]; exact hA2.out h)) (by omega) (hid hxl.out)).mono ?_
      rintro e w1 ⟨A4, c4, rfl, hown4, hb4⟩
      have hbw1 := hbw.trans (hb4.mono hbw.size)
      have hr3' := hr3.kept (below_grownN hb4) (own_neN hr3)
      go_wp2_with (at_builtin; refine wpList_app _ rfl (.tmp 29) (.tmp 32) 39 rfl w.heap.size 3 i0 (.int .i64 0) 8 Try.underlying39 hi0 hz0 hz1 hz2 rfl _ _ _ _ rfl (hr3'.alloc _) _ _ _ [.int .i64 ((q : Int) + (pl : Int))] rfl (Rd.one _ _ _) rfl (one_int _ _) (by unfold maxLen; omega) (by omega) (by have := hbw1.size; simp; omega) ?_; intro A5 c5 w5 hown5 hg5 hb5 _)
      go_roundw
      case rel =>
        refine ⟨j + 1, q + pl, A4, A5, c5, by go_num, by omega, by go_num, by go_num, hid hnx.out, by omega, hid (fun h => ?_), ?_, ?_, (hbw1.alloc hbw1.size _).trans hb5⟩
        · exact own_none hown4 h
        · have h := Rd.of_own ((hown4.alloc _).kept hg5 (owns_ne (hown4.alloc _) (hr3'.alloc (.cells #[.int .i64 ((q : Int) + (pl : Int))] 3)) (by decide)))
          rw [hpx.out]
          exact h
        · rw [endsL_succ, i64s_snoc, hnx.out, Int.natCast_add]
          exact hown5
      case measure => simp [intOf]; omega
    · obtain rfl : j = M := by omega
      obtain ⟨k, hkq, r, hr1, hb1, hm1, hm1'⟩ := mod_bits z q (by omega)
      have htk : ns.take j = ns := List.take_of_length_le (by rw [hnl.out]; exact Nat.le_refl _)
      rw [htk] at hd2
      have hql : (puts ns).length = q := by have h := hq.out; unfold startN at h; rwa [htk] at h
      have hdk : Rd wr A2 (cb ((puts ns).take k)) := by have h := hd2.take k; rwa [cb_take] at h
      have hlk : Hid (((puts ns).take k).length = k) := hid (by rw [List.length_take, hql]; omega)
      have hAk : Hid (A2 = none → (puts ns).take k = []) := hid (fun h => List.eq_nil_of_length_eq_zero (by rw [hlk.out]; have := hA2.out h; omega))
      obtain ⟨O, hO⟩ : ∃ O, outs 0 ns k = O := ⟨_, rfl⟩
      obtain ⟨hs1, hs2, hs3⟩ := outs_spec ns 0 k
      rw [hO, hnl.out] at hs1
      rw [hO] at hs2
      rw [hO, hnl.out] at hs3
      have hT : (rows ((puts ns).take k)).take 100 = O := by rw [rows_puts ns k hn64.out, hO]; exact List.take_of_length_le (by omega)
      obtain ⟨N, hN⟩ : ∃ N, O.length = N := ⟨_, rfl⟩
      rw [hN] at hs1
      rw [hN] at hs3
      have hend : Hid (∀ i, i < N → startN ns (i + 1) ≤ k) := hid (fun i hi => (hs2 i (by omega) (by rw [hnl.out]; omega)).2)
      have hfst : Hid (∀ i, i < N → (i64s (O.map (·.1)))[i]? = some (.int .i64 (startN ns i : Int))) := hid (fun i hi => by
        have h := (hs2 i (by omega) (by rw [hnl.out]; omega)).1
        rw [i64s_get _ i (by rw [List.length_map]; omega), List.getElem_map, h, Nat.zero_add])
      have hsnd : Hid (∀ i (h2 : i < ns.length), i < N → (u64s (O.map (·.2)))[i]? = some (.int .u64 (ns[i] : Int))) := hid (fun i h2 hi => by
        have h := (hs2 i (by omega) h2).1
        rw [u64s_get _ i (by rw [List.length_map]; omega), List.getElem_map, h])
      replace hs3 := hid hs3
      replace hT := hid hT
      replace hql := hid hql
      have hN' := hid hN
      clear hs2 htk hO hm1' hN
      by_cases hML : j < L
      rotate_left
      have hjL : ¬ (j : Int) < (L : Int) := by omega
      go_wp2_with fail
      rotate_left
      have hjL : (j : Int) < (L : Int) := by omega
      have hj40 : (40 : Int) ≤ (j : Int) := by have := hM3.out hML; omega
      go_wp2_with fail
      all_goals (try (exfalso; omega))
      all_goals
        refine (told_any A2 k ((puts ns).take k) q 100 _ hlk.out hdk hAk.out (by omega) (by omega)).mono ?_
        rintro e w2 ⟨A4, c4, A5, c5, rfl, hx1, hx2, hb2⟩
        rw [hT.out] at hx1 hx2 ⊢
        rw [hN'.out] at hx1 hx2 ⊢
        have hbw2 := hbw.trans (hb2.mono hbw.size)
        have rd1 := Rd.of_own hx1
        have rd2 := Rd.of_own hx2
        have rd3 := (Rd.of_own hr3).below hb2
        have rd4 := hrn.below hbw2
        go_wp2_with fail
        have hcap3 := own_cap hr3
        unfold maxLen at hcap3
        clear hx1 hx2 hr3 hd2 hdk hT hrn hr1 hb1 hm1 hM3
        go_loop [11] (fun i => ∃ p : Nat, i = .int .i64 p ∧ p ≤ N) (fun i => N - (intOf i).toNat)
        case atStart => exact ⟨0, rfl, by omega⟩
        case round =>
          obtain ⟨p, rfl, hp⟩ := hrel
          by_cases hpN : p < N
          · obtain ⟨b, o, rfl, _, hce⟩ := rd3 (by rw [i64s_length, endsL_length]; omega)
            have hck := hce p _ (endsL_get ns j p (by omega))
            have hek := hend.out p hpN
            generalize startN ns (p + 1) = e at hck hek
            have hpj : (p : Int) < (j : Int) := by omega
            have hed : decide ((e : Int) ≤ (k : Int)) = true := by simp; omega
            clear hce rd1 rd2 rd4
            go_wp2
            go_round
            case rel => exact ⟨p + 1, by go_num, by omega⟩
            case measure => simp [intOf]; omega
          · obtain rfl : p = N := by omega
            clear hp hpN
            by_cases hNM : p < j
            rotate_left
            have hpj : decide ((p : Int) < (j : Int)) = false := by simp; omega
            go_wp2_with fail
            rotate_left
            obtain ⟨b, o, hA3, _, hce⟩ := rd3 (by rw [i64s_length, endsL_length]; omega)
            have hck := hce p _ (endsL_get ns j p (by omega))
            have hek := hs3.out hNM
            generalize startN ns (p + 1) = e at hck hek
            have hpj : (p : Int) < (j : Int) := by omega
            have hed : decide ((e : Int) ≤ (k : Int)) = false := by simp; omega
            have hedn : decide (e ≤ k) = false := by simp; omega
            subst hA3
            clear hce hNM
            go_wp2
            rw [run_indexAt_slice (h := Try.underlying39)]
            rw [if_pos ⟨by omega, by omega⟩]
            go_simp
            go_wp2_with fail
            all_goals (try (exfalso; omega))
            all_goals
              (try clear hck)
              (try simp only [hedn])
              (try clear hed hedn)
              (try clear hek)
              go_loopw [12] (fun i wr2 => ∃ s : Nat, i = .int .i64 s ∧ s ≤ p ∧ Below w2.heap.size w2 wr2) (fun i _ => p - (intOf i).toNat)
              case atStart => exact ⟨0, rfl, by omega, Below.refl _ _⟩
              case round =>
                obtain ⟨s, rfl, hs, hbs⟩ := hrel
                by_cases hsp : s < p
                · have hsn : s < ns.length := by rw [hnl.out]; omega
                  obtain ⟨b1, o1, rfl, _, hce1⟩ := (rd2.below hbs) (by rw [u64s_length, List.length_map, hN'.out]; omega)
                  have h1 := hce1 s _ (hsnd.out s hsn hsp)
                  obtain ⟨b2, o2, rfl, _, hce2⟩ := (rd4.below hbs) (by rw [u64s_length, hnl.out]; omega)
                  have h2 := hce2 s _ (u64s_get ns s hsn)
                  generalize ns[s] = x at h1 h2
                  have hxx : ((x : Int) != (x : Int)) = false := by simp
                  have hsi : (s : Int) < (p : Int) := by omega
                  have hsL : (s : Int) < (L : Int) := by omega
                  clear hce1 hce2
                  rcases s with _ | s
                  · have h1' : wr.cell? ⟨b1, o1, none⟩ = some (.int .u64 (x : Int)) := by simpa using h1
                    have h2' : wr.cell? ⟨b2, o2, none⟩ = some (.int .u64 (x : Int)) := by simpa using h2
                    have hp0 : 0 < p := by omega
                    have hL0 : 0 < L := by omega
                    clear rd1 rd3 h1 h2 hsp hsi hsL hs
                    go_wp2
                    go_quiet (fail)
                    have hb5 := hbs.trans ((below_drewN wr nq).mono hbs.size)
                    generalize wr.drewN nq = w5 at *
                    go_wp2
                    go_roundw
                    case rel => exact ⟨1, by go_num, by omega, hb5⟩
                    case measure => simp [intOf]; omega
                  · obtain ⟨b3, o3, rfl, _, hce3⟩ := (rd1.below hbs) (by rw [i64s_length, List.length_map, hN'.out]; omega)
                    have h3 := hce3 (s + 1) _ (hfst.out (s + 1) hsp)
                    obtain ⟨b4, o4, hA4, _, hce4⟩ := (rd3.below hbs) (by rw [i64s_length, endsL_length]; omega)
                    first | subst hA4 | (injection hA4 with hA4; injection hA4 with hb4 ho4; subst hb4 ho4)
                    have h4 := hce4 s _ (endsL_get ns j s (by omega))
                    generalize startN ns (s + 1) = e2 at h3 h4
                    have hee : ((e2 : Int) != (e2 : Int)) = false := by simp
                    have hsum : IntKind.i64.wrap (((s : Int) + 1) - 1) = (s : Int) := by rw [IntKind.wrap_i64]; omega
                    have hd : decide ((0 : Int) < (((s + 1 : Nat)) : Int)) = true := by simp
                    have hsj : (s : Int) < (j : Int) := by omega
                    clear hce3 hce4 rd1
                    go_wp2
                    go_quiet (fail)
                    have hb5 := hbs.trans ((below_drewN wr nq).mono hbs.size)
                    generalize wr.drewN nq = w5 at *
                    go_wp2
                    go_roundw
                    case rel => exact ⟨s + 1 + 1, by go_num, by omega, hb5⟩
                    case measure => simp [intOf]; omega
                · obtain rfl : s = p := by omega
                  have hbz := hbw2.trans (hbs.mono hbw2.size)
                  go_wp2_with (go_at_call 12; refine (awake_any _).mono ?_; rintro e w3 ⟨rfl, hb3⟩)
                  go_ret
                  exact ⟨rfl, hbz.trans (hb3.mono hbz.size)⟩
end Go.Proofs.Ytkaigeodeabicaa
