/-
  PLAIN RECORDS with bytes behind them, cut anywhere. No program in sight.
-/
import Derived.Test.YtcmbdbphddokmaaPlainFrmC
namespace Go.Proofs.Ytcmbdbphddokmaa

/-- **The i-th record that is told of such bytes is the i-th that was put.** -/
theorem rowsF_cut (rs : List (Nat × List UInt8)) (tl : List UInt8) (k : Nat) (hg : GoodB rs) (i : Nat) (hi : i < rs.length) (hx : i < (rowsF ((framesB rs ++ tl).take k)).length) :
    (rowsF ((framesB rs ++ tl).take k))[i]? = some (startB rs i, rs[i].1, rs[i].2) := by
  by_cases hk : k ≤ (framesB rs).length
  · have e : (framesB rs ++ tl).take k = (framesB rs).take k := List.take_append_of_le_length hk
    rw [e] at hx ⊢
    obtain ⟨t, ht, _, h2, _⟩ := cut_frames rs k hg
    obtain ⟨hr, _⟩ := rowsF_stop (rs.take (cntB rs k)) t (goodB_take hg _) h2
    rw [← ht] at hr
    rw [hr] at hx ⊢
    rw [outF_length] at hx
    have hc : i < cntB rs k := by rw [List.length_take] at hx; omega
    rw [List.getElem?_eq_getElem (by rw [outF_length]; exact hx), outF_get (rs.take (cntB rs k)) 0 i hx, Nat.zero_add, List.getElem_take]
    have hs : startB (rs.take (cntB rs k)) i = startB rs i := by unfold startB; rw [List.take_take, Nat.min_eq_left (by omega)]
    rw [hs]
  · have e : (framesB rs ++ tl).take k = framesB rs ++ tl.take (k - (framesB rs).length) := by
      rw [List.take_append, List.take_of_length_le (by omega)]
    rw [e] at hx ⊢
    rw [rowsF_frames rs _ hg, List.getElem?_append_left (by rw [outF_length]; exact hi), List.getElem?_eq_getElem (by rw [outF_length]; exact hi), outF_get rs 0 i hi, Nat.zero_add]
end Go.Proofs.Ytcmbdbphddokmaa
