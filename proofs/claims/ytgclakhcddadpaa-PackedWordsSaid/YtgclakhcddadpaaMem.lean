/-
  MEMORY WORDS. 'Rd w A xs': the slice at the address A reads as the cells xs in the world w. 'Res ..': a call hands back a slice of its own that reads as xs, and nothing that was there has turned.
-/
import Derived.Test.YtgclakhcddadpaaPlainNum
import Derived.WalkKit
import Derived.WalkLawsBesides
import Derived.WalkSpells
import Derived.Laws.AppendOwnNone
import Derived.Maps.AppendAt
import Derived.Laws.BytesArg
namespace Go.Proofs.Ytgclakhcddadpaa
open Go.RowKit

theorem hid {p : Prop} (h : p) : Hid p := h

def Rd (w : World) (A : Option Addr) (xs : List Value) : Prop :=
  0 < xs.length → ∃ b o, A = some ⟨b, o, none⟩ ∧ b < w.heap.size ∧ ∀ j u, xs[j]? = some u → w.cell? ⟨b, o + j, none⟩ = some u

theorem Rd.nil (w : World) (A : Option Addr) : Rd w A [] := fun h => by simp at h

theorem Rd.below {w w' : World} {A : Option Addr} {xs : List Value} (h : Rd w A xs) (hb : Below w.heap.size w w') : Rd w' A xs := fun hp => by
  obtain ⟨b, o, e, hlt, hc⟩ := h hp
  exact ⟨b, o, e, Nat.lt_of_lt_of_le hlt hb.size, fun j u hu => (hb.cell hlt).trans (hc j u hu)⟩

/-- From an older world on. -/
theorem Rd.since {w0 w w' : World} {A : Option Addr} {xs : List Value} (h : Rd w A xs) {B : Nat} (hb : Below B w w') (hB : w.heap.size ≤ B) : Rd w' A xs :=
  h.below (hb.mono hB)

theorem Rd.alloc {w : World} {A : Option Addr} {xs : List Value} (h : Rd w A xs) (o : Obj) : Rd (w.alloc o) A xs :=
  h.below ((Below.refl _ w).alloc (Nat.le_refl _) o)

theorem Rd.drew {w : World} {A : Option Addr} {xs : List Value} (h : Rd w A xs) : Rd w.drew A xs := h

theorem Rd.take {w : World} {A : Option Addr} {xs : List Value} (h : Rd w A xs) (k : Nat) : Rd w A (xs.take k) := fun hp => by
  obtain ⟨b, o, e, hlt, hc⟩ := h (by rw [List.length_take] at hp; omega)
  refine ⟨b, o, e, hlt, fun j u hu => hc j u ?_⟩
  rw [List.getElem?_take] at hu
  split at hu
  · exact hu
  · simp at hu

/-- A slice cut at its head. -/
theorem Rd.drop {w : World} {A : Option Addr} {xs : List Value} (h : Rd w A xs) (k : Nat) : Rd w (A.map (·.add k)) (xs.drop k) := fun hp => by
  rw [List.length_drop] at hp
  obtain ⟨b, o, rfl, hlt, hc⟩ := h (by omega)
  refine ⟨b, o + k, ?_, hlt, fun j u hu => ?_⟩
  · simp only [Option.map, Addr.add]
    by_cases hk : k = 0 <;> simp [hk]
  · rw [Nat.add_assoc]
    exact hc (k + j) u (by rw [← hu, List.getElem?_drop])

theorem Rd.pre {w : World} {A : Option Addr} {xs ys : List Value} (h : Rd w A (xs ++ ys)) : Rd w A xs := by
  have := h.take xs.length
  simpa using this

/-- The cells as the append law asks for them. -/
theorem Rd.cells {w : World} {a : Addr} {xs : List Value} (h : Rd w (some a) xs) : ∀ j u, xs[j]? = some u → w.cell? (a.add j) = some u := fun j u hu => by
  have hl : j < xs.length := by
    rcases Nat.lt_or_ge j xs.length with hlt | hge
    · exact hlt
    · rw [List.getElem?_eq_none hge] at hu; cases hu
  obtain ⟨b, o, e, _, hc⟩ := h (by omega)
  injection e with e
  subst e
  have := hc j u hu
  simp only [Addr.add]
  by_cases hj : j = 0
  · subst hj; simpa using this
  · rw [if_neg hj]; exact this

theorem Rd.of_own {w : World} {base : Nat} {e : TypeId} {A : Option Addr} {c n : Nat} {xs : List Value} (h : w.ownsRow base e 1 (.slice A n c) n xs) : Rd w A xs := fun hp => by
  obtain ⟨hl, h2⟩ := h
  rcases h2 with ⟨hv, hn⟩ | ⟨g, cap, cur, hv, hb, hg, hn, hm, hs, ht⟩
  · subst hn; simp at hl; subst hl; simp at hp
  · injection hv with hA _ hc
    subst hA
    refine ⟨g, 0, rfl, (Array.getElem?_eq_some_iff.1 hg).1, fun j u hu => ?_⟩
    have hu' : cur.toList[j]? = some u := by
      rw [← ht, List.getElem?_take] at hu
      split at hu
      · exact hu
      · simp at hu
    simp only [World.cell?, hg]
    simpa using hu'

/-- The cells are one cell each. -/
theorem cb_one (l : List UInt8) : ∀ u ∈ cb l, u.oneCell' = true := by
  intro u hu
  simp [cb, u8c] at hu
  obtain ⟨x, _, rfl⟩ := hu
  rfl

/-- WHAT A CALL HANDS BACK: a slice of its own (element type e), from the first new block on, clipped or not; nothing that was there has turned. -/
def Res (e : TypeId) (n : Nat) (xs : List Value) (w : World) (en : Ending) (w' : World) : Prop :=
  ∃ A c, en = .returned (.slice A n c) ∧ w'.ownsRow w.heap.size e 1 (.slice A n c) n xs ∧ Below w.heap.size w w'

/-- The same, clipped: its capacity is its length. -/
def ResC (e : TypeId) (n : Nat) (xs : List Value) (w : World) (en : Ending) (w' : World) : Prop :=
  ∃ A c, en = .returned (.slice A n n) ∧ w'.ownsRow w.heap.size e 1 (.slice A n c) n xs ∧ Below w.heap.size w w'

/-- The shape of an owned slice. -/
theorem own_shape {w : World} {base : Nat} {e : TypeId} {v : Value} {n : Nat} {xs : List Value} (h : w.ownsRow base e 1 v n xs) : ∃ A c, v = .slice A n c := by
  rcases h.2 with ⟨rfl, rfl⟩ | ⟨g, cap, cur, rfl, _⟩
  · exact ⟨_, _, rfl⟩
  · exact ⟨_, _, rfl⟩

theorem own_addr {w : World} {base : Nat} {e : TypeId} {A : Option Addr} {n c : Nat} {xs : List Value} (h : w.ownsRow base e 1 (.slice A n c) n xs) (hn : 0 < n) :
    ∃ g, A = some ⟨g, 0, none⟩ ∧ base ≤ g ∧ g < w.heap.size := by
  rcases h.2 with ⟨_, h0⟩ | ⟨g, cap, cur, hv, hb, hg, _⟩
  · omega
  · injection hv with hA
    exact ⟨g, hA, hb, (Array.getElem?_eq_some_iff.1 hg).1⟩

theorem own_cap {w : World} {base : Nat} {e : TypeId} {A : Option Addr} {n c : Nat} {xs : List Value} (h : w.ownsRow base e 1 (.slice A n c) n xs) : n ≤ c ∧ c ≤ maxLen := by
  rcases h.2 with ⟨hv, rfl⟩ | ⟨g, cap, cur, hv, _, _, h1, h2, _⟩
  · injection hv with _ _ hc; subst hc; exact ⟨Nat.le_refl _, Nat.zero_le _⟩
  · injection hv with _ _ hc; subst hc; exact ⟨h1, h2⟩

theorem cb_take (l : List UInt8) (k : Nat) : (cb l).take k = cb (l.take k) := by simp [cb]
theorem cb_drop (l : List UInt8) (k : Nat) : (cb l).drop k = cb (l.drop k) := by simp [cb]
theorem cb_set (l : List UInt8) (k : Nat) (u : UInt8) : (cb l).set k (u8c u) = cb (l.set k u) := by simp [cb, List.map_set]
theorem u8_or_c (u v : UInt8) : bits BinOp.or IntKind.u8 (u.toNat : Int) (v.toNat : Int) = ((u ||| v).toNat : Int) := by
  rw [u8_or_nat _ _ u.toNat_lt v.toNat_lt, UInt8.toNat_or]

/-! ### append onto a row of the call's own, from whatever slice -/
section
variable {P : Program} (w : World)

theorem run_app_none (base : Nat) (t ty e : TypeId) (i : TypeInfo) (ht : P.underlying t = some (.slice e)) (hi : P.info? e = some i)
    (v : Value) (n : Nat) (xs : List Value) (hown : w.ownsRow base e 1 v n xs) (c : Nat) : (Builtin.append_ #[t, t] ty #[v, .slice none 0 c]).run P w = .ok v w := by
  rcases hown.2 with ⟨rfl, rfl⟩ | ⟨g, cap, cur, rfl, _, _, hnc, _⟩
  · simp [Builtin.append_, run_underlying ht, sizeOf, typeInfo, hi, Builtin.lenOf, Builtin.firstCells]
  · simp [Builtin.append_, run_underlying ht, sizeOf, typeInfo, hi, Builtin.lenOf, Builtin.firstCells, hnc, storeCells]

theorem run_app (base : Nat) (t ty e : TypeId) (i : TypeInfo) (z : Value) (bytes : Nat) (ht : P.underlying t = some (.slice e)) (hi : P.info? e = some i) (hz : i.zero = some z)
    (hsize : i.size = 1) (hby : i.bytes = bytes) (hzs : z.cells.size = 1)
    (A : Option Addr) (n c : Nat) (xs : List Value) (hown : w.ownsRow base e 1 (.slice A n c) n xs)
    (A2 : Option Addr) (m c2 : Nat) (news : List Value) (hr : Rd w A2 news) (hm : news.length = m) (h1 : ∀ u ∈ news, u.oneCell' = true)
    (h63 : n + m ≤ maxLen) (hbytes : (n + m) * bytes ≤ 140737488355328) (hbase : base ≤ w.heap.size) :
    ∃ A' c' w', (Builtin.append_ #[t, t] ty #[.slice A n c, .slice A2 m c2]).run P w = .ok (.slice A' (n + m) c') w' ∧ w'.ownsRow base e 1 (.slice A' (n + m) c') (n + m) (xs ++ news) ∧
      w.grownBy w' (Value.ownBlock (.slice A n c)) ∧ Below base w w' ∧ (A' = none ↔ A = none ∧ m = 0) := by
  rcases A2 with _ | ad
  · obtain rfl : news = [] := by
      rcases news with _ | ⟨x, r⟩
      · rfl
      · obtain ⟨b, o, h, _⟩ := hr (by simp)
        cases h
    simp at hm
    subst hm
    exact ⟨A, c, w, run_app_none w base t ty e i ht hi _ n xs hown c2, by simpa using hown, ⟨rfl, rfl, rfl, Nat.le_refl _, fun _ _ _ => rfl⟩, Below.refl _ _, by simp⟩
  · obtain ⟨v', w', hrun, h2, h3, h4⟩ := run_append_own (P := P) w base t ty e i z 1 bytes ht hi hz hsize hby hzs (by omega) _ n xs hown ad m c2 news (by omega) hr.cells h1 h63 hbytes hbase
    obtain ⟨A', c', rfl⟩ := own_shape h2
    have hcap := own_cap h2
    have hA0 : A' = none → n + m = 0 ∧ c' = 0 := by
      rintro rfl
      rcases h2.2 with ⟨hv, h0⟩ | ⟨g, cap, cur, hv, _⟩
      · injection hv with _ _ hc; exact ⟨h0, hc⟩
      · injection hv with hv; cases hv
    have hA1 : A = none → n = 0 ∧ c = 0 := by
      rintro rfl
      rcases hown.2 with ⟨hv, h0⟩ | ⟨g, cap, cur, hv, _⟩
      · injection hv with _ _ hc; exact ⟨h0, hc⟩
      · injection hv with hv; cases hv
    refine ⟨A', c', w', hrun, h2, h3, (Below.refl base w).grown h3 hbase (fun k hk => (hown.lt k hk).1), ?_⟩
    constructor
    · rintro rfl
      obtain ⟨h5, h6⟩ := hA0 rfl
      subst h6
      rw [h5] at h4
      have h7 := h4.1 rfl
      exact ⟨by injection h7.1, h7.2⟩
    · rintro ⟨rfl, rfl⟩
      obtain ⟨h5, h6⟩ := hA1 rfl
      subst h5 h6
      have h7 := h4.2 ⟨rfl, rfl⟩
      injection h7

theorem wpList_app {ops : Array Oper} {rest : List Oper} {o : Oper} {a : Act} {Q : Exit → Act → World → Prop} (hgd : o.guard = none) (s x : Operand) (t : TypeId)
    (ho : o.op = .call { callee := .builtin .append, args := #[s, x], argTypes := #[t, t] })
    (base : Nat) (e : TypeId) (i : TypeInfo) (z : Value) (bytes : Nat) (ht : P.underlying t = some (.slice e)) (hi : P.info? e = some i) (hz : i.zero = some z)
    (hsize : i.size = 1) (hby : i.bytes = bytes) (hzs : z.cells.size = 1)
    (A : Option Addr) (n c : Nat) (xs : List Value) (hs : a.eval s = .slice A n c) (hown : w.ownsRow base e 1 (.slice A n c) n xs)
    (A2 : Option Addr) (m c2 : Nat) (news : List Value) (hx : a.eval x = .slice A2 m c2) (hr : Rd w A2 news) (hm : news.length = m) (h1 : ∀ u ∈ news, u.oneCell' = true)
    (h63 : n + m ≤ maxLen) (hbytes : (n + m) * bytes ≤ 140737488355328) (hbase : base ≤ w.heap.size)
    (h : ∀ A' c' w', w'.ownsRow base e 1 (.slice A' (n + m) c') (n + m) (xs ++ news) → w.grownBy w' (Value.ownBlock (.slice A n c)) → Below base w w' → (A' = none ↔ A = none ∧ m = 0) →
      wpList P ops Q rest (a.put o.dst (.slice A' (n + m) c')) w') : wpList P ops Q (o :: rest) a w := by
  obtain ⟨A', c', w', hrun, h2, h3, h4, h5⟩ := run_app (P := P) w base t o.type e i z bytes ht hi hz hsize hby hzs A n c xs hown A2 m c2 news hr hm h1 h63 hbytes hbase
  refine wpList_plain hgd fun K hK => ?_
  unfold Oper.wp execOp
  simp only [ho, resolve, invoke, builtin, Sem.run_bind, Sem.run_pure, Result.andThen_ok, List.map_toArray, List.map_cons, List.map_nil, hs, hx, hrun]
  exact hK _ _ (h A' c' w' h2 h3 h4 h5)
end

/-! ### append onto a slice without spare room -/
section
variable {P : Program} (w : World)
theorem run_appC (t ty e : TypeId) (i : TypeInfo) (z : Value) (bytes : Nat) (ht : P.underlying t = some (.slice e)) (hi : P.info? e = some i) (hz : i.zero = some z)
    (hsize : i.size = 1) (hby : i.bytes = bytes) (hzs : z.cells.size = 1)
    (A : Option Addr) (n : Nat) (xs : List Value) (hd : Rd w A xs) (hn : xs.length = n) (hnone : A = none → n = 0)
    (A2 : Option Addr) (m c2 : Nat) (news : List Value) (hr : Rd w A2 news) (hm : news.length = m) (h1 : ∀ u ∈ news, u.oneCell' = true)
    (hmax : n ≤ maxLen) (h63 : n + m ≤ maxLen) (hbytes : (n + m) * bytes ≤ 140737488355328) :
    ∃ A' c' w', (Builtin.append_ #[t, t] ty #[.slice A n n, .slice A2 m c2]).run P w = .ok (.slice A' (n + m) c') w' ∧ Rd w' A' (xs ++ news) ∧ n + m ≤ c' ∧ c' ≤ maxLen ∧
      Below w.heap.size w w' ∧ (A' = none → n + m = 0) ∧ (0 < m → w'.ownsRow w.heap.size e 1 (.slice A' (n + m) c') (n + m) (xs ++ news)) := by
  by_cases h0 : m = 0
  · subst h0
    obtain rfl : news = [] := List.eq_nil_of_length_eq_zero hm
    refine ⟨A, n, w, ?_, by simpa using hd, by omega, hmax, Below.refl _ _, fun h => by have := hnone h; omega, fun h => by omega⟩
    rcases A2 with _ | ad
    · simp [Builtin.append_, run_underlying ht, sizeOf, typeInfo, hi, Builtin.lenOf, Builtin.firstCells, storeCells]
      split <;> simp_all
    · simp [Builtin.append_, run_underlying ht, sizeOf, typeInfo, hi, Builtin.lenOf, Builtin.firstCells, storeCells, loadCells, loadCellsFrom]
      split <;> simp_all
  · obtain ⟨ad, rfl⟩ : ∃ ad, A2 = some ad := by
      obtain ⟨b, o, h, _⟩ := hr (by omega)
      exact ⟨_, h⟩
    have hfin : ∀ v' w', w'.ownsRow w.heap.size e 1 v' (n + m) (xs ++ news) → w.grownBy w' none → (Builtin.append_ #[t, t] ty #[.slice A n n, .slice (some ad) m c2]).run P w = .ok v' w' →
        ∃ A' c' w', (Builtin.append_ #[t, t] ty #[.slice A n n, .slice (some ad) m c2]).run P w = .ok (.slice A' (n + m) c') w' ∧ Rd w' A' (xs ++ news) ∧ n + m ≤ c' ∧ c' ≤ maxLen ∧
          Below w.heap.size w w' ∧ (A' = none → n + m = 0) ∧ (0 < m → w'.ownsRow w.heap.size e 1 (.slice A' (n + m) c') (n + m) (xs ++ news)) := by
      intro v' w' hown hg hrun
      obtain ⟨A', c', rfl⟩ := own_shape hown
      have hcap := own_cap hown
      refine ⟨A', c', w', hrun, Rd.of_own hown, hcap.1, hcap.2, (Below.refl _ w).grown hg (Nat.le_refl _) (fun k h => by cases h), ?_, fun _ => hown⟩
      rintro rfl
      rcases hown.2 with ⟨_, h⟩ | ⟨g, cap, cur, hv, _⟩
      · omega
      · injection hv with hv; cases hv
    rcases A with _ | b
    · obtain rfl := hnone rfl
      obtain rfl : xs = [] := List.eq_nil_of_length_eq_zero hn
      obtain ⟨v', w', hrun, r1, r2, _⟩ := run_append_own (P := P) w w.heap.size t ty e i z 1 bytes ht hi hz hsize hby hzs (by omega) (.slice none 0 0) 0 [] (World.ownsRow_nil w _ e 1) ad m c2 news (by omega) hr.cells h1 h63 hbytes (Nat.le_refl _)
      exact hfin v' w' r1 r2 hrun
    · obtain ⟨v', w', hrun, r1, r2⟩ := run_append_arg_grows (P := P) w t ty e i z 1 bytes ht hi hz hsize hby hzs (by omega) b n n xs (by omega) hd.cells ad m c2 news (by omega) hr.cells (by omega) h63 hbytes
      exact hfin v' w' r1 r2 hrun

theorem wpList_appC {ops : Array Oper} {rest : List Oper} {o : Oper} {a : Act} {Q : Exit → Act → World → Prop} (hgd : o.guard = none) (s x : Operand) (t : TypeId)
    (ho : o.op = .call { callee := .builtin .append, args := #[s, x], argTypes := #[t, t] })
    (e : TypeId) (i : TypeInfo) (z : Value) (bytes : Nat) (ht : P.underlying t = some (.slice e)) (hi : P.info? e = some i) (hz : i.zero = some z)
    (hsize : i.size = 1) (hby : i.bytes = bytes) (hzs : z.cells.size = 1)
    (A : Option Addr) (n : Nat) (xs : List Value) (hs : a.eval s = .slice A n n) (hd : Rd w A xs) (hn : xs.length = n) (hnone : A = none → n = 0)
    (A2 : Option Addr) (m c2 : Nat) (news : List Value) (hx : a.eval x = .slice A2 m c2) (hr : Rd w A2 news) (hm : news.length = m) (h1 : ∀ u ∈ news, u.oneCell' = true)
    (hmax : n ≤ maxLen) (h63 : n + m ≤ maxLen) (hbytes : (n + m) * bytes ≤ 140737488355328)
    (h : ∀ A' c' w', Rd w' A' (xs ++ news) → n + m ≤ c' → c' ≤ maxLen → Below w.heap.size w w' → (A' = none → n + m = 0) → (0 < m → w'.ownsRow w.heap.size e 1 (.slice A' (n + m) c') (n + m) (xs ++ news)) →
      wpList P ops Q rest (a.put o.dst (.slice A' (n + m) c')) w') : wpList P ops Q (o :: rest) a w := by
  obtain ⟨A', c', w', hrun, h2, h3, h4, h5, h6, h7⟩ := run_appC (P := P) w t o.type e i z bytes ht hi hz hsize hby hzs A n xs hd hn hnone A2 m c2 news hr hm h1 hmax h63 hbytes
  refine wpList_plain hgd fun K hK => ?_
  unfold Oper.wp execOp
  simp only [ho, resolve, invoke, builtin, Sem.run_bind, Sem.run_pure, Result.andThen_ok, List.map_toArray, List.map_cons, List.map_nil, hs, hx, hrun]
  exact hK _ _ (h A' c' w' h2 h3 h4 h5 h6 h7)
end

/-- One new cell, read as a list of one. -/
theorem Rd.one (w : World) (v : Value) (t : TypeId) : Rd (w.alloc (.cells #[v] t)) (some ⟨w.heap.size, 0, none⟩) [v] := fun _ =>
  ⟨w.heap.size, 0, rfl, by simp, fun j u hu => by
    match j, hu with
    | 0, hu => simp at hu; subst hu; simp⟩

/-- A new block, read as a list. -/
theorem Rd.block (w : World) (cs : List Value) (t : TypeId) : Rd (w.alloc (.cells cs.toArray t)) (some ⟨w.heap.size, 0, none⟩) cs := fun _ =>
  ⟨w.heap.size, 0, rfl, by simp, fun j u hu => by simpa using hu⟩

theorem Rd.blk {w : World} {b : Nat} (h : w.heap.size = b) (cs : List Value) (t : TypeId) : Rd (w.alloc (.cells cs.toArray t)) (some ⟨b, 0, none⟩) cs := by
  subst h; exact Rd.block w cs t

theorem one_int (k : IntKind) (n : Int) : ∀ u ∈ [Value.int k n], u.oneCell' = true := by
  intro u hu
  simp at hu
  subst hu
  rfl

theorem own_empty (w : World) (t : TypeId) : (w.alloc (.cells #[] t)).ownsRow w.heap.size t 1 (.slice (some ⟨w.heap.size, 0, none⟩) 0 0) 0 [] :=
  World.ownsRow_made w #[] 0 (Nat.le_refl _) (Nat.zero_le _) rfl

/-! ### make -/
theorem wpList_mk {P : Program} (w : World) {ops : Array Oper} {rest : List Oper} {o : Oper} {a : Act} {Q : Exit → Act → World → Prop}
    (hg : o.guard = none) (l c : Operand) (t : TypeId) (hop : o.op = Op.makeSlice t l c)
    (base : Nat) (e : TypeId) (i : TypeInfo) (z : Value) (h1 : P.underlying t = some (.slice e)) (h2 : P.info? e = some i) (h3 : i.zero = some z) (h4 : i.size = 1) (hzc : z.cells = #[z])
    (kl kc : IntKind) (L C : Int) (n : Nat) (hl : a.eval l = .int kl L) (hc : a.eval c = .int kc C) (hL : L = (n : Int)) (hC : C = (n : Int)) (b2 : i.bytes * n ≤ 281474976710656) (b3 : n ≤ maxLen) (b4 : base ≤ w.heap.size)
    (hK : ∀ w', w'.ownsRow base e 1 (.slice (some ⟨w.heap.size, 0, none⟩) n n) n (List.replicate n z) → Below base w w' → Below w.heap.size w w' → wpList P ops Q rest (a.put o.dst (.slice (some ⟨w.heap.size, 0, none⟩) n n)) w') :
    wpList P ops Q (o :: rest) a w := by
  refine wpList_make_full w hg l c t hop base e i z 1 h1 h2 h3 h4 kl kc L C n hl hc hL hC b2 b3 b4 ?_
  intro w' r1 r2
  rw [hzc, toList_madeCells_one, Nat.mul_one] at r1
  exact hK w' r1 ((Below.refl _ _).grown r2 b4 (fun k h => by cases h)) ((Below.refl _ _).grown r2 (Nat.le_refl _) (fun k h => by cases h))

theorem cb_replicate (n : Nat) : cb (List.replicate n 0) = List.replicate n (.int .u8 0) := by simp [cb, u8c]

/-! ### bytes to a string -/
theorem run_str {P : Program} (w : World) (src dst e : TypeId) (hs : P.underlying src = some (.slice e)) (he : P.underlying e = some (.int .u8)) (hd : P.underlying dst = some .string)
    (A : Option Addr) (l : List UInt8) (c : Nat) (hr : Rd w A (cb l)) : (convert src dst (.slice A l.length c)).run P w = .ok (.string ⟨l.toArray⟩) w := by
  rcases l with _ | ⟨x, l⟩
  · rcases A with _ | a
    · rw [run_convert_bytes_nil w src e hs he _ c dst hd]; rfl
    · rw [run_convert_bytes_string w src dst e _ _ c hs he hd, run_bytesToString w a _ c [] (by simp [loadCells, loadCellsFrom])]; rfl
  · obtain ⟨b, o, rfl, _, hc⟩ := hr (by simp [cb])
    rw [run_convert_bytes_arg w src e hs he b o _ c ((x :: l).map fun u => (u.toNat : Int)) (by simp) (fun i hi => ?_) dst hd]
    · congr 2
      unfold strOfNums
      congr 2
      rw [List.map_map]
      have : ((fun n : Int => UInt8.ofNat n.toNat) ∘ fun u : UInt8 => (u.toNat : Int)) = id := by funext u; simp
      rw [this, List.map_id]
    · have := hc i _ (cb_get (x :: l) i hi)
      rw [this, u8c]
      have e : ((x :: l).map fun u => (u.toNat : Int)).getD i 0 = ((x :: l)[i].toNat : Int) := by
        rw [List.getD_eq_getElem?_getD, List.getElem?_map, List.getElem?_eq_getElem hi]
        rfl
      rw [e]

theorem run_strn {P : Program} (w : World) (src dst e : TypeId) (hs : P.underlying src = some (.slice e)) (he : P.underlying e = some (.int .u8)) (hd : P.underlying dst = some .string)
    (A : Option Addr) (n : Nat) (l : List UInt8) (c : Nat) (hn : l.length = n) (hr : Rd w A (cb l)) : (convert src dst (.slice A n c)).run P w = .ok (.string ⟨l.toArray⟩) w := by
  subst hn
  exact run_str w src dst e hs he hd A l c hr

/-! ### What comes in -/
/-- A slice of integers that came in: it is nil; or it leads to a row of 'cap' cells, the numbers 'zs' (the first 'len' are its elements). -/
def IsRow (k : IntKind) (w : World) (a : Option Addr) (len cap : Nat) (zs : List Int) : Prop :=
  (a = none ∧ len = 0 ∧ cap = 0 ∧ zs = []) ∨
  ∃ x, a = some x ∧ len ≤ cap ∧ cap ≤ maxLen ∧ zs.length = cap ∧ (∀ i, i < zs.length → w.cell? (x.add i) = some (.int k (zs.getD i 0))) ∧ ∀ n ∈ zs, (Lit.int k n).wf = true

theorem byte_wf {x : Int} (h : (Lit.int .u8 x).wf = true) : 0 ≤ x ∧ x < 256 := by
  simp [Lit.wf, IntKind.min, IntKind.max, IntKind.signed, IntKind.bits] at h
  omega

/-- A row of integers that came in, read as values. -/
theorem rd_of_row {k : IntKind} {w : World} {a : Option Addr} {len cap : Nat} {zs : List Int} (h : IsRow k w a len cap zs) :
    Rd w a ((zs.take len).map (.int k)) ∧ (zs.take len).length = len ∧ (a = none → len = 0) ∧ len ≤ cap ∧ cap ≤ maxLen ∧ ∀ n ∈ zs.take len, (Lit.int k n).wf = true := by
  rcases h with ⟨rfl, rfl, rfl, rfl⟩ | ⟨x, rfl, hl, hm, hz, hc, hw⟩
  · exact ⟨fun h => by simp at h, rfl, fun _ => rfl, Nat.le_refl _, Nat.zero_le _, fun n hn => by simp at hn⟩
  · refine ⟨fun hp => ?_, by rw [List.length_take]; omega, fun h => (by cases h), hl, hm, fun n hn => hw n (List.mem_of_mem_take hn)⟩
    rw [List.length_map, List.length_take] at hp
    have h0 := hc 0 (by omega)
    obtain ⟨b, o, spot⟩ := x
    have hs : spot = none := by simpa [Addr.add] using World.cell?_spot h0
    subst hs
    refine ⟨b, o, rfl, World.block_lt_of_cell? w _ h0, fun j u hu => ?_⟩
    rw [List.getElem?_map, List.getElem?_take] at hu
    split at hu
    · rename_i hj
      have hjz : j < zs.length := by omega
      rw [List.getElem?_eq_getElem hjz] at hu
      simp at hu
      subst hu
      have := hc j hjz
      rw [List.getD_eq_getElem?_getD, List.getElem?_eq_getElem hjz] at this
      have e : (⟨b, o, none⟩ : Addr).add j = ⟨b, o + j, none⟩ := by unfold Addr.add; split <;> simp_all
      rw [e] at this
      exact this
    · simp at hu

/-- Bytes that came in. -/
theorem bytes_of_row {w : World} {a : Option Addr} {len cap : Nat} {zs : List Int} (h : IsRow .u8 w a len cap zs) :
    ∃ l : List UInt8, l.length = len ∧ Rd w a (cb l) ∧ (a = none → l = []) ∧ len ≤ cap ∧ cap ≤ maxLen := by
  obtain ⟨h1, h2, h3, h4, h5, h6⟩ := rd_of_row h
  refine ⟨(zs.take len).map fun z => UInt8.ofNat z.toNat, by rw [List.length_map]; exact h2, ?_, fun ha => ?_, h4, h5⟩
  · have e : cb ((zs.take len).map fun z => UInt8.ofNat z.toNat) = (zs.take len).map (.int .u8) := by
      unfold cb
      rw [List.map_map]
      apply List.map_congr_left
      intro n hn
      have := byte_wf (h6 n hn)
      simp only [Function.comp, u8c, UInt8.toNat_ofNat']
      congr 1
      omega
    rw [e]
    exact h1
  · apply List.eq_nil_of_length_eq_zero
    rw [List.length_map, h2]
    exact h3 ha

end Go.Proofs.Ytgclakhcddadpaa
