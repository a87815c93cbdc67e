/-
  THE WALKS: bits.Len64, packed.bit, packed.header.
-/
import Derived.Test.YtgclakhcddadpaaPlainPck
import Derived.Test.YtgclakhcddadpaaNumB
import Derived.Laws.ShiftsVarLaws
import Derived.Laws.BitsAllLaws
namespace Go.Proofs.Ytgclakhcddadpaa
open Go.RowKit

theorem blen_shift (x k q : Nat) (hq : q = 2 ^ k) (h : q ≤ x) : blen x = k + blen (x / q) := by
  subst hq
  have hp : 0 < 2 ^ k := Nat.pow_pos (by omega)
  have h1 : k < blen x := by
    rcases Nat.lt_or_ge k (blen x) with h2 | h2
    · exact h2
    · have := blen_le.1 h2; omega
  apply Nat.le_antisymm
  · rw [blen_le, Nat.pow_add]
    have := blen_lt (x / 2 ^ k)
    have := (Nat.div_lt_iff_lt_mul hp).1 this
    rw [Nat.mul_comm]; exact this
  · have h2 : blen (x / 2 ^ k) ≤ blen x - k := by
      rw [blen_le, Nat.div_lt_iff_lt_mul hp, ← Nat.pow_add, show blen x - k + k = blen x from by omega]
      exact blen_lt x
    omega

def lenTab : List UInt8 := [0, 1, 2, 2, 3, 3, 3, 3, 4, 4, 4, 4, 4, 4, 4, 4, 5, 5, 5, 5, 5, 5, 5, 5, 5, 5, 5, 5, 5, 5, 5, 5, 6, 6, 6, 6, 6, 6, 6, 6, 6, 6, 6, 6, 6, 6, 6, 6, 6, 6, 6, 6, 6, 6, 6, 6, 6, 6, 6, 6, 6, 6, 6, 6, 7, 7, 7, 7, 7, 7, 7, 7, 7, 7, 7, 7, 7, 7, 7, 7, 7, 7, 7, 7, 7, 7, 7, 7, 7, 7, 7, 7, 7, 7, 7, 7, 7, 7, 7, 7, 7, 7, 7, 7, 7, 7, 7, 7, 7, 7, 7, 7, 7, 7, 7, 7, 7, 7, 7, 7, 7, 7, 7, 7, 7, 7, 7, 7, 8, 8, 8, 8, 8, 8, 8, 8, 8, 8, 8, 8, 8, 8, 8, 8, 8, 8, 8, 8, 8, 8, 8, 8, 8, 8, 8, 8, 8, 8, 8, 8, 8, 8, 8, 8, 8, 8, 8, 8, 8, 8, 8, 8, 8, 8, 8, 8, 8, 8, 8, 8, 8, 8, 8, 8, 8, 8, 8, 8, 8, 8, 8, 8, 8, 8, 8, 8, 8, 8, 8, 8, 8, 8, 8, 8, 8, 8, 8, 8, 8, 8, 8, 8, 8, 8, 8, 8, 8, 8, 8, 8, 8, 8, 8, 8, 8, 8, 8, 8, 8, 8, 8, 8, 8, 8, 8, 8, 8, 8, 8, 8, 8, 8, 8, 8, 8, 8, 8, 8, 8, 8, 8, 8, 8, 8, 8, 8]

set_option maxRecDepth 100000 in
theorem lenTab_ok : ∀ y, y < 256 → (lenTab.getD y 0).toNat = blen y := by decide +kernel

theorem tabB (l : List UInt8) (y : Nat) (h : y < (⟨l.toArray⟩ : ByteArray).size) : (⟨l.toArray⟩ : ByteArray)[y]'h = l.getD y 0 := by
  have h2 : y < l.length := by simpa [ByteArray.size] using h
  rw [List.getD_eq_getElem?_getD, List.getElem?_eq_getElem h2]
  rfl

theorem len_end (y a : Nat) (h : y < 256) (ha : a ≤ 56) (h2 : y < (⟨lenTab.toArray⟩ : ByteArray).size) : wrap64 ((a : Int) + wrap64 (((⟨lenTab.toArray⟩ : ByteArray)[y]'h2).toNat : Int)) = ((a + blen y : Nat) : Int) := by
  rw [tabB, lenTab_ok y h]
  have : blen y ≤ 8 := blen_le.2 h
  unfold wrap64
  omega

theorem len_end0 (y : Nat) (h : y < 256) (h2 : y < (⟨lenTab.toArray⟩ : ByteArray).size) : wrap64 (wrap64 (((⟨lenTab.toArray⟩ : ByteArray)[y]'h2).toNat : Int)) = ((blen y : Nat) : Int) := by
  rw [tabB, lenTab_ok y h]
  have : blen y ≤ 8 := blen_le.2 h
  unfold wrap64
  omega

theorem ret_i64 {a b : Int} (h : a = b) : Ending.returned (.int .i64 a) = .returned (.int .i64 b) := by rw [h]

set_option maxRecDepth 100000 in
set_option maxHeartbeats 1000000 in
theorem len64_any (x : Nat) (w : World) (hx : Hid (x < 18446744073709551616)) :
    Calls Try.prog 47 #[.int .u64 x] w fun e w' => e = .returned (.int .i64 (blen x : Int)) ∧ w = w' := by
  have hxx := hx.out
  by_cases p0 : 4294967296 ≤ x
  · obtain ⟨y, hy⟩ : ∃ y, x / 4294967296 = y := ⟨_, rfl⟩
    have hyi : (x : Int) / 4294967296 = (y : Int) := by omega
    have ky : Hid (blen x = 32 + blen y) := hid (by rw [← hy]; exact blen_shift x 32 4294967296 (by decide) p0)
    have g0 : (4294967296 : Int) ≤ (x : Int) := by omega
    have my : y < 4294967296 := by omega
    by_cases p1 : 65536 ≤ y
    · obtain ⟨z, hz⟩ : ∃ z, y / 65536 = z := ⟨_, rfl⟩
      have hzi : (y : Int) / 65536 = (z : Int) := by omega
      have kz : Hid (blen y = 16 + blen z) := hid (by rw [← hz]; exact blen_shift y 16 65536 (by decide) p1)
      have g1 : (65536 : Int) ≤ (y : Int) := by omega
      have mz : z < 65536 := by omega
      by_cases p2 : 256 ≤ z
      · obtain ⟨u, hu⟩ : ∃ u, z / 256 = u := ⟨_, rfl⟩
        have hui : (z : Int) / 256 = (u : Int) := by omega
        have ku : Hid (blen z = 8 + blen u) := hid (by rw [← hu]; exact blen_shift z 8 256 (by decide) p2)
        have g2 : (256 : Int) ≤ (z : Int) := by omega
        have mu : u < 256 := by omega
        have h256 : u < 256 := by omega
        have hb : Hid (blen x = 56 + blen u) := hid (by rw [ky.out, kz.out, ku.out]; omega)
        replace hy := hid hy
        replace my := hid my
        replace hz := hid hz
        replace mz := hid mz
        replace hu := hid hu
        replace mu := hid mu
        replace p0 := hid p0
        replace p1 := hid p1
        replace p2 := hid p2
        replace hxx := hid hxx
        clear ky kz ku
        go_enter Try.func47, Try.ntmps47
        go_wp2
        go_ret
        rw [hb.out]
        exact ⟨ret_i64 (len_end u 56 h256 (by omega) _), rfl⟩
      · have g2 : decide ((256 : Int) ≤ (z : Int)) = false := decide_eq_false (by omega)
        have h256 : z < 256 := by omega
        have hb : Hid (blen x = 48 + blen z) := hid (by rw [ky.out, kz.out]; omega)
        replace hy := hid hy
        replace my := hid my
        replace hz := hid hz
        replace mz := hid mz
        replace p0 := hid p0
        replace p1 := hid p1
        replace p2 := hid p2
        replace hxx := hid hxx
        clear ky kz
        go_enter Try.func47, Try.ntmps47
        go_wp2
        go_ret
        rw [hb.out]
        exact ⟨ret_i64 (len_end z 48 h256 (by omega) _), rfl⟩
    · have g1 : decide ((65536 : Int) ≤ (y : Int)) = false := decide_eq_false (by omega)
      by_cases p2 : 256 ≤ y
      · obtain ⟨u, hu⟩ : ∃ u, y / 256 = u := ⟨_, rfl⟩
        have hui : (y : Int) / 256 = (u : Int) := by omega
        have ku : Hid (blen y = 8 + blen u) := hid (by rw [← hu]; exact blen_shift y 8 256 (by decide) p2)
        have g2 : (256 : Int) ≤ (y : Int) := by omega
        have mu : u < 256 := by omega
        have h256 : u < 256 := by omega
        have hb : Hid (blen x = 40 + blen u) := hid (by rw [ky.out, ku.out]; omega)
        replace hy := hid hy
        replace my := hid my
        replace hu := hid hu
        replace mu := hid mu
        replace p0 := hid p0
        replace p1 := hid p1
        replace p2 := hid p2
        replace hxx := hid hxx
        clear ky ku
        go_enter Try.func47, Try.ntmps47
        go_wp2
        go_ret
        rw [hb.out]
        exact ⟨ret_i64 (len_end u 40 h256 (by omega) _), rfl⟩
      · have g2 : decide ((256 : Int) ≤ (y : Int)) = false := decide_eq_false (by omega)
        have h256 : y < 256 := by omega
        have hb : Hid (blen x = 32 + blen y) := hid (by rw [ky.out])
        replace hy := hid hy
        replace my := hid my
        replace p0 := hid p0
        replace p1 := hid p1
        replace p2 := hid p2
        replace hxx := hid hxx
        clear ky
        go_enter Try.func47, Try.ntmps47
        go_wp2
        go_ret
        rw [hb.out]
        exact ⟨ret_i64 (len_end y 32 h256 (by omega) _), rfl⟩
  · have g0 : decide ((4294967296 : Int) ≤ (x : Int)) = false := decide_eq_false (by omega)
    by_cases p1 : 65536 ≤ x
    · obtain ⟨z, hz⟩ : ∃ z, x / 65536 = z := ⟨_, rfl⟩
      have hzi : (x : Int) / 65536 = (z : Int) := by omega
      have kz : Hid (blen x = 16 + blen z) := hid (by rw [← hz]; exact blen_shift x 16 65536 (by decide) p1)
      have g1 : (65536 : Int) ≤ (x : Int) := by omega
      have mz : z < 65536 := by omega
      by_cases p2 : 256 ≤ z
      · obtain ⟨u, hu⟩ : ∃ u, z / 256 = u := ⟨_, rfl⟩
        have hui : (z : Int) / 256 = (u : Int) := by omega
        have ku : Hid (blen z = 8 + blen u) := hid (by rw [← hu]; exact blen_shift z 8 256 (by decide) p2)
        have g2 : (256 : Int) ≤ (z : Int) := by omega
        have mu : u < 256 := by omega
        have h256 : u < 256 := by omega
        have hb : Hid (blen x = 24 + blen u) := hid (by rw [kz.out, ku.out]; omega)
        replace hz := hid hz
        replace mz := hid mz
        replace hu := hid hu
        replace mu := hid mu
        replace p0 := hid p0
        replace p1 := hid p1
        replace p2 := hid p2
        replace hxx := hid hxx
        clear kz ku
        go_enter Try.func47, Try.ntmps47
        go_wp2
        go_ret
        rw [hb.out]
        exact ⟨ret_i64 (len_end u 24 h256 (by omega) _), rfl⟩
      · have g2 : decide ((256 : Int) ≤ (z : Int)) = false := decide_eq_false (by omega)
        have h256 : z < 256 := by omega
        have hb : Hid (blen x = 16 + blen z) := hid (by rw [kz.out])
        replace hz := hid hz
        replace mz := hid mz
        replace p0 := hid p0
        replace p1 := hid p1
        replace p2 := hid p2
        replace hxx := hid hxx
        clear kz
        go_enter Try.func47, Try.ntmps47
        go_wp2
        go_ret
        rw [hb.out]
        exact ⟨ret_i64 (len_end z 16 h256 (by omega) _), rfl⟩
    · have g1 : decide ((65536 : Int) ≤ (x : Int)) = false := decide_eq_false (by omega)
      by_cases p2 : 256 ≤ x
      · obtain ⟨u, hu⟩ : ∃ u, x / 256 = u := ⟨_, rfl⟩
        have hui : (x : Int) / 256 = (u : Int) := by omega
        have ku : Hid (blen x = 8 + blen u) := hid (by rw [← hu]; exact blen_shift x 8 256 (by decide) p2)
        have g2 : (256 : Int) ≤ (x : Int) := by omega
        have mu : u < 256 := by omega
        have h256 : u < 256 := by omega
        have hb : Hid (blen x = 8 + blen u) := hid (by rw [ku.out])
        replace hu := hid hu
        replace mu := hid mu
        replace p0 := hid p0
        replace p1 := hid p1
        replace p2 := hid p2
        replace hxx := hid hxx
        clear ku
        go_enter Try.func47, Try.ntmps47
        go_wp2
        go_ret
        rw [hb.out]
        exact ⟨ret_i64 (len_end u 8 h256 (by omega) _), rfl⟩
      · have g2 : decide ((256 : Int) ≤ (x : Int)) = false := decide_eq_false (by omega)
        have h256 : x < 256 := by omega
        replace p0 := hid p0
        replace p1 := hid p1
        replace p2 := hid p2
        replace hxx := hid hxx
        go_enter Try.func47, Try.ntmps47
        go_wp2
        go_ret
        exact ⟨ret_i64 (len_end0 x h256 _), rfl⟩
end Go.Proofs.Ytgclakhcddadpaa
