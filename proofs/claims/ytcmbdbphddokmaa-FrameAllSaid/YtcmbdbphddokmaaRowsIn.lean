/-
  MEMORY WORDS: rows of rows of bytes that came in.
-/
import Derived.Test.YtcmbdbphddokmaaMem
import Derived.Deep.Matrix
namespace Go.Proofs.Ytcmbdbphddokmaa
open Go.RowKit Go.ChangeShapes Go.WideShapes

/-- A slice of slices of bytes that came in. -/
def IsRows (w : World) (a : Option Addr) (len cap : Nat) (ls : List (List UInt8)) : Prop :=
  ls.length = len ∧ (a = none → len = 0) ∧ len ≤ cap ∧ cap ≤ maxLen ∧ ∃ vs : List Value, vs.length = len ∧ Rd w a vs ∧
    ∀ (j : Nat) (l : List UInt8), ls[j]? = some l → ∃ (Aj : Option Addr) (cj : Nat), vs[j]? = some (Value.slice Aj l.length cj) ∧ Rd w Aj (cb l) ∧ (Aj = none → l = []) ∧ l.length ≤ cj ∧ cj ≤ maxLen

theorem rows_opened {H : Type} {enc : TypeId × Value → H} {P : Program} {w : World} {base : Nat} {held : Bool} {t e q : TypeId} {a : Option Addr} {len cap : Nat} {d : DataW H} {p : List MemPlace}
    (ht : P.underlying t = some (.slice e)) (he : P.underlying e = some (.slice q)) (hq : P.underlying q = some (.int .u8)) (ce : P.cellsOf e = 1) (cq : P.cellsOf q = 1)
    (h : DataW.Trod enc P w base (fun _ => true) held t (.slice a len cap) d p) : ∃ ls, IsRows w a len cap ls := by
  obtain ⟨fuel, hf⟩ := h
  rcases Go.Deep.open_int_rows ht he hq ce cq hf with ⟨hcs, _⟩ | ⟨a', len', cap', A, L, C, Z, hcs, _, hl, hm, _, hall⟩
  · simp [Value.cells] at hcs
    obtain ⟨rfl, rfl, rfl⟩ := hcs
    exact ⟨[], rfl, fun _ => rfl, Nat.le_refl _, Nat.zero_le _, [], rfl, Rd.nil _ _, fun j l h => by simp at h⟩
  · simp [Value.cells] at hcs
    obtain ⟨rfl, rfl, rfl⟩ := hcs
    have each : ∀ r, ∃ l : List UInt8, r < cap → (l.length = L r ∧ Rd w (A r) (cb l) ∧ (A r = none → l = []) ∧ L r ≤ C r ∧ C r ≤ maxLen) := by
      intro r
      by_cases hr : r < cap
      · obtain ⟨_, h2, h3, h4, h5, h6, h7⟩ := hall r hr
        have hrow : IsRow .u8 w (A r) (L r) (C r) (Z r) := by
          rcases hA : A r with _ | x
          · have := h6 hA
            exact .inl ⟨rfl, by omega, this, List.eq_nil_of_length_eq_zero (by omega)⟩
          · exact .inr ⟨x, rfl, h2, h3, h4, fun i hi => (h7 x hA).2 i (by omega), h5⟩
        obtain ⟨l, k1, k2, k3, k4, k5⟩ := bytes_of_row hrow
        exact ⟨l, fun _ => ⟨k1, k2, k3, k4, k5⟩⟩
      · exact ⟨[], fun h => absurd h hr⟩
    obtain ⟨f, hf'⟩ := Classical.axiomOfChoice each
    refine ⟨(List.range len).map f, by simp, (fun h => (by cases h)), hl, hm, (List.range len).map fun r => .slice (A r) (L r) (C r), by simp, fun hp => ?_, fun j l hj => ?_⟩
    · simp at hp
      obtain ⟨h0, _⟩ := hall 0 (by omega)
      obtain ⟨b, o, spot⟩ := a'
      have hs : spot = none := by simpa [Addr.add] using World.cell?_spot h0
      subst hs
      refine ⟨b, o, rfl, World.block_lt_of_cell? w _ h0, fun j u hu => ?_⟩
      rw [List.getElem?_map] at hu
      have hjl : j < len := by
        rcases Nat.lt_or_ge j len with h | h
        · exact h
        · rw [List.getElem?_eq_none (by simpa using h)] at hu; cases hu
      rw [List.getElem?_range hjl] at hu
      simp at hu
      subst hu
      have e : (⟨b, o, none⟩ : Addr).add j = ⟨b, o + j, none⟩ := by unfold Addr.add; split <;> simp_all
      rw [← e]
      exact (hall j (by omega)).1
    · rw [List.getElem?_map] at hj
      have hjl : j < len := by
        rcases Nat.lt_or_ge j len with h | h
        · exact h
        · rw [List.getElem?_eq_none (by simpa using h)] at hj; cases hj
      rw [List.getElem?_range hjl] at hj
      simp at hj
      subst hj
      obtain ⟨k1, k2, k3, k4, k5⟩ := hf' j (by omega)
      refine ⟨A j, C j, ?_, k2, k3, by omega, k5⟩
      rw [List.getElem?_map, List.getElem?_range hjl, k1]
      rfl
end Go.Proofs.Ytcmbdbphddokmaa
