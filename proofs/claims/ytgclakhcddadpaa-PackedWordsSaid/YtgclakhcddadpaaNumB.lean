/-
  THE WALK of num.Take.
-/
import Derived.Test.YtgclakhcddadpaaNumA
namespace Go.Proofs.Ytgclakhcddadpaa
open Go.RowKit

/-- What Take hands back. -/
def tup3 (t : Nat × Nat × Nat) : Value := .tuple #[.int .u64 (t.1 : Int), .int .i64 (t.2.1 : Int), .int .i64 (t.2.2 : Int)]

theorem ret3 {t : Nat × Nat × Nat} {a b c : Int} (h : ∃ x y z : Nat, t = (x, y, z) ∧ a = x ∧ b = y ∧ c = z) :
    Ending.returned (.tuple #[.int .u64 a, .int .i64 b, .int .i64 c]) = .returned (tup3 t) := by
  obtain ⟨x, y, z, rfl, rfl, rfl, rfl⟩ := h
  rfl

set_option maxHeartbeats 1000000 in
set_option maxRecDepth 100000 in
theorem take_any (A : Option Addr) (l : List UInt8) (c : Nat) (w : World) (hr : Rd w A (cb l)) (hl : l.length ≤ 140737488355328) :
    Calls Try.prog 66 #[.slice A l.length c] w fun e w' => e = .returned (tup3 (take l)) ∧ w = w' := by
  have hl2 := hid hl
  clear hl
  go_enter Try.func66, Try.ntmps66
  go_wp2
  go_loop [2, 7] (fun n i => ∃ (k acc : Nat), k ≤ 10 ∧ k ≤ l.length ∧ i = .int .i64 k ∧ n = .int .u64 acc ∧ Hid (acc < 2 ^ (7 * k)) ∧ Hid (takeG (10 - k) k acc (l.drop k) = take l)) (fun _ i => 10 - (intOf i).toNat)
  case atStart => exact ⟨0, 0, by omega, by omega, rfl, rfl, hid (by simp), hid rfl⟩
  case round =>
    obtain ⟨k, acc, hk10, hkl, rfl, rfl, hacc, ht⟩ := hrel
    by_cases h10 : k < 10
    · by_cases hi : k < l.length
      · obtain ⟨b, o, rfl, hb, hc⟩ := hr (by rw [cb_length]; omega)
        have hck := hc k _ (cb_get l k hi)
        unfold u8c at hck
        generalize hu0 : l[k] = u at hck
        have hu := hid hu0
        clear hu0
        have hult := u.toNat_lt
        clear hr hc
        have hst := hid (takeG_at l k acc h10 hi)
        rw [ht.out, hu.out] at hst
        by_cases h9 : k = 9
        · subst h9
          simp only [Nat.reduceMul, Nat.reducePow] at hst
          by_cases h1 : 1 < u.toNat
          · go_wp2
            go_ret3
            exact ⟨ret3 ⟨0, 0, 3, by rw [hst.out, if_pos ⟨trivial, h1⟩], rfl, rfl, rfl⟩, rfl⟩
          · have h128 : u.toNat < 128 := by omega
            by_cases h0 : u.toNat = 0
            · obtain rfl : u = 0 := UInt8.toNat_inj.1 (by rw [h0]; rfl)
              clear h0 h1 h128 hult
              go_wp2
              go_ret3
              exact ⟨ret3 ⟨0, 0, 3, by rw [hst.out]; rfl, rfl, rfl, rfl⟩, rfl⟩
            · have h0b : ((u.toNat : Int) == 0) = false := by simp; omega
              have h127 := u8_and127 u
              go_wp2
              go_ret3
              exact ⟨ret3 ⟨_, _, _, by rw [hst.out, if_neg (fun h => h1 h.2), if_pos h128, if_neg (fun h => h0 h.1)], or_shift9 acc u.toNat hacc.out (by omega), rfl, rfl⟩, rfl⟩
        · have h9b : ((k : Int) == 9) = false := by simp; omega
          by_cases h128 : u.toNat < 128
          · by_cases h0 : u.toNat = 0
            · obtain rfl : u = 0 := UInt8.toNat_inj.1 (by rw [h0]; rfl)
              clear h0 h128 hult
              by_cases hk0 : 0 < k
              · go_wp2
                go_ret3
                exact ⟨ret3 ⟨0, 0, 3, by rw [hst.out, if_neg (fun h => h9 h.1)]; simp [hk0], rfl, rfl, rfl⟩, rfl⟩
              · obtain rfl : k = 0 := by omega
                obtain rfl : acc = 0 := by have := hacc.out; simpa using this
                have hz : bits BinOp.and IntKind.u8 0 127 = 0 := by kernel_rfl
                have hck : w.cell? ⟨b, o, none⟩ = some (.int .u8 0) := by simpa using hck
                have hne : ¬ l = [] := by rintro rfl; simp at hi
                have hz2 : bits BinOp.or IntKind.u64 0 0 = 0 := by kernel_rfl
                go_wp2
                go_ret3
                exact ⟨ret3 ⟨0, 1, 0, by rw [hst.out]; rfl, rfl, rfl, rfl⟩, rfl⟩
            · have h0b : ((u.toNat : Int) == 0) = false := by simp; omega
              have h127 := u8_and127 u
              go_wp2
              go_ret3
              exact ⟨ret3 ⟨_, _, _, by rw [hst.out, if_neg (fun h => h9 h.1), if_pos h128, if_neg (fun h => h0 h.1)], or_shift acc k u.toNat hacc.out h10 (by omega), rfl, rfl⟩, rfl⟩
          · have h127 := u8_and127 u
            go_wp2
            go_round
            case rel => exact ⟨k + 1, _, by omega, by omega, by go_num, by rw [or_shift acc k u.toNat hacc.out h10 (by omega)], hid (acc_lt acc k _ hacc.out), hid (by rw [hst.out, if_neg (fun h => h9 h.1), if_neg h128])⟩
            case measure => simp [intOf]; omega
      · go_wp2
        go_ret3
        exact ⟨ret3 ⟨0, 0, 4, by rw [← ht.out, takeG_end l k acc h10 (by omega)], rfl, rfl, rfl⟩, rfl⟩
    · go_wp2
      go_ret3
      exact ⟨ret3 ⟨0, 0, 3, by rw [← ht.out, show 10 - k = 0 from by omega]; rfl, rfl, rfl, rfl⟩, rfl⟩

theorem take_n (A : Option Addr) (n : Nat) (l : List UInt8) (c : Nat) (w : World) (hn : l.length = n) (hr : Rd w A (cb l)) (hl : n ≤ 140737488355328) :
    Calls Try.prog 66 #[.slice A n c] w fun e w' => e = .returned (tup3 (take l)) ∧ w = w' := by
  subst hn
  exact take_any A l c w hr hl
end Go.Proofs.Ytgclakhcddadpaa
