/- Plain laws on words of eight bytes for chapter 7: no program in sight. -/
import Derived.Test.YtkkijcnipjojoaaPlain9
namespace Go.Proofs.Ytkkijcnipjojoaa
open Go.RowKit

/-- A word's byte, and the word with a byte set. -/
def bytI (x : Int) (i : Nat) : Int := x / 256 ^ i % 256
def setI (x : Int) (i : Nat) (c : Int) : Int := x + (c - bytI x i) * 256 ^ i

theorem byt_bd (x : Int) (i : Nat) : 0 ≤ bytI x i ∧ bytI x i < 256 := by unfold bytI; omega

theorem lt8 {i : Nat} (h : i < 8) : i = 0 ∨ i = 1 ∨ i = 2 ∨ i = 3 ∨ i = 4 ∨ i = 5 ∨ i = 6 ∨ i = 7 := by omega

theorem byt_set_same (x : Int) (i : Nat) (c : Int) (hi : i < 8) (c0 : 0 ≤ c) (c1 : c < 256) : bytI (setI x i c) i = c := by
  rcases lt8 hi with rfl | rfl | rfl | rfl | rfl | rfl | rfl | rfl <;> (simp [bytI, setI]; try omega)

theorem byt_set_other (x : Int) (i j : Nat) (c : Int) (hi : i < 8) (hj : j < 8) (h : j ≠ i) (c0 : 0 ≤ c) (c1 : c < 256) : bytI (setI x i c) j = bytI x j := by
  rcases lt8 hi with rfl | rfl | rfl | rfl | rfl | rfl | rfl | rfl <;> rcases lt8 hj with rfl | rfl | rfl | rfl | rfl | rfl | rfl | rfl <;>
    first
      | exact absurd rfl h
      | (simp [bytI, setI]; try omega)

theorem set_bd (x : Int) (i : Nat) (c : Int) (hi : i < 8) (x0 : 0 ≤ x) (x1 : x < 18446744073709551616) (c0 : 0 ≤ c) (c1 : c < 256) : 0 ≤ setI x i c ∧ setI x i c < 18446744073709551616 := by
  rcases lt8 hi with rfl | rfl | rfl | rfl | rfl | rfl | rfl | rfl <;> simp [bytI, setI] <;> omega

theorem byt_sum (x : Int) (x0 : 0 ≤ x) (x1 : x < 18446744073709551616) :
    x = bytI x 0 + 256 * bytI x 1 + 65536 * bytI x 2 + 16777216 * bytI x 3 + 4294967296 * bytI x 4 + 1099511627776 * bytI x 5 + 281474976710656 * bytI x 6 + 72057594037927936 * bytI x 7 := by
  simp only [bytI]
  simp
  omega

theorem byt_ext (x y : Int) (x0 : 0 ≤ x) (x1 : x < 18446744073709551616) (y0 : 0 ≤ y) (y1 : y < 18446744073709551616) (h : ∀ i, i < 8 → bytI x i = bytI y i) : x = y := by
  rw [byt_sum x x0 x1, byt_sum y y0 y1, h 0 (by omega), h 1 (by omega), h 2 (by omega), h 3 (by omega), h 4 (by omega), h 5 (by omega), h 6 (by omega), h 7 (by omega)]

/-- The bits of a set. -/
theorem bits_andNot_bv (x y : BitVec 64) : bits .andNot .u64 (x.toNat : Int) (y.toNat : Int) = ((x &&& ~~~ y).toNat : Int) := by
  show IntKind.u64.wrap ((BitVec.ofInt 64 (x.toNat : Int) &&& ~~~ BitVec.ofInt 64 (y.toNat : Int)).toNat : Int) = _
  rw [ofInt_toNat, ofInt_toNat, wrap_toNat]
theorem byt_bv (x : BitVec 64) (j : Nat) : bytI (x.toNat : Int) j = ((x.toNat / 2 ^ (8 * j) % 256 : Nat) : Int) := by
  unfold bytI
  have : (2 : Nat) ^ (8 * j) = 256 ^ j := by rw [Nat.pow_mul]
  rw [this]; simp
theorem bv_set_byte (x c : BitVec 64) (i j : Nat) (hi : i < 8) (hj : j < 8) (hc : c.toNat < 256) :
    ((x &&& ~~~ (255#64 <<< (8 * i))) ||| (c <<< (8 * i))).toNat / 2 ^ (8 * j) % 256 = if i = j then c.toNat else x.toNat / 2 ^ (8 * j) % 256 := by
  have hm : ∀ m, m < 64 → (255#64).getLsbD m = decide (m < 8) := by decide
  have hcm : ∀ m, 8 ≤ m → c.getLsbD m = false := fun m h => by
    rw [BitVec.getLsbD]; exact Nat.testBit_lt_two_pow (Nat.lt_of_lt_of_le hc (by have : 2 ^ 8 ≤ 2 ^ m := Nat.pow_le_pow_right (by omega) h; omega))
  apply Nat.eq_of_testBit_eq
  intro b
  rw [show (256 : Nat) = 2 ^ 8 from rfl, Nat.testBit_mod_two_pow, ← Nat.shiftRight_eq_div_pow, Nat.testBit_shiftRight]
  by_cases hb : b < 8
  · have e : ∀ y : BitVec 64, y.toNat.testBit (8 * j + b) = y.getLsbD (8 * j + b) := fun y => rfl
    have hlt : 8 * j + b < 64 := by omega
    have rx : (x.toNat / 2 ^ (8 * j) % 256).testBit b = x.getLsbD (8 * j + b) := by
      rw [show (256 : Nat) = 2 ^ 8 from rfl, Nat.testBit_mod_two_pow, ← Nat.shiftRight_eq_div_pow, Nat.testBit_shiftRight]
      simp [hb]; rfl
    rw [e]
    simp only [BitVec.getLsbD_or, BitVec.getLsbD_and, BitVec.getLsbD_not, BitVec.getLsbD_shiftLeft, hlt, decide_true, Bool.true_and, hb]
    by_cases hij : i = j
    · subst hij
      rw [if_pos rfl, hm _ (by omega)]
      have e2 : 8 * i + b - 8 * i = b := by omega
      simp [hb, e2, show ¬ 8 * i + b < 8 * i from by omega]
      rfl
    · rw [if_neg hij]
      by_cases hlo : 8 * j + b < 8 * i
      · simp [hlo, rx]
      · rw [hm _ (by omega), hcm _ (by omega)]
        simp [hlo, show ¬ 8 * j + b - 8 * i < 8 from by omega, rx]
  · simp only [hb, decide_false, Bool.false_and]
    split
    · exact (Nat.testBit_lt_two_pow (Nat.lt_of_lt_of_le hc (by have : 2 ^ 8 ≤ 2 ^ b := Nat.pow_le_pow_right (by omega) (by omega); omega))).symm
    · rw [Nat.testBit_mod_two_pow]; simp [hb]

/-- What At and Set answer. -/
def atI (x i : Int) : Int := if 0 ≤ i ∧ i < 8 then bytI x i.toNat else 128
def putI (x i c : Int) : Int := if 0 ≤ i ∧ i < 8 then setI x i.toNat c else x
theorem at_in (x i : Int) (h0 : 0 ≤ i) (h1 : i < 8) : x / 2 ^ (8 * i).toNat % 256 = atI x i := by
  obtain ⟨k, rfl⟩ := Int.eq_ofNat_of_zero_le h0
  rw [atI, if_pos ⟨h0, h1⟩, bytI, Int.toNat_natCast, show (8 * (k : Int)).toNat = 8 * k from by omega, Int.pow_mul]; rfl

theorem put_in (x i c : Int) (h0 : 0 ≤ i) (h1 : i < 8) (x0 : 0 ≤ x) (x1 : x < 18446744073709551616) (c0 : 0 ≤ c) (c1 : c < 256) :
    bits .or .u64 (bits .andNot .u64 x (IntKind.u64.wrap (255 * 2 ^ (8 * i).toNat))) (IntKind.u64.wrap (c * 2 ^ (8 * i).toNat)) = putI x i c := by
  obtain ⟨k, rfl⟩ := Int.eq_ofNat_of_zero_le h0
  have hk : k < 8 := by omega
  rw [putI, if_pos ⟨h0, h1⟩, Int.toNat_natCast, show (8 * (k : Int)).toNat = 8 * k from by omega]
  obtain ⟨X, rfl⟩ : ∃ X : BitVec 64, x = (X.toNat : Int) := ⟨BitVec.ofNat 64 x.toNat, by rw [BitVec.toNat_ofNat, Nat.mod_eq_of_lt (by omega)]; omega⟩
  obtain ⟨C, rfl⟩ : ∃ C : BitVec 64, c = (C.toNat : Int) := ⟨BitVec.ofNat 64 c.toNat, by rw [BitVec.toNat_ofNat, Nat.mod_eq_of_lt (by omega)]; omega⟩
  have e : ((2 : Int) ^ (8 * k)) = ((2 ^ (8 * k) : Nat) : Int) := by simp
  rw [e, show (255 : Int) = ((255#64).toNat : Int) from by decide, shl_bv _ (8 * k) _ rfl, shl_bv _ (8 * k) _ rfl, bits_andNot_bv, bits_or_bv]
  have hc : C.toNat < 256 := by omega
  obtain ⟨s0, s1⟩ := set_bd (X.toNat : Int) k (C.toNat : Int) hk x0 x1 c0 c1
  refine byt_ext _ _ (by omega) (by have := (X &&& ~~~ (255#64 <<< (8 * k)) ||| C <<< (8 * k)).isLt; omega) s0 s1 fun j hj => ?_
  rw [byt_bv, bv_set_byte X C k j hk hj hc]
  by_cases h : k = j
  · subst h
    rw [if_pos rfl, byt_set_same _ _ _ hk c0 c1]
  · rw [if_neg h, byt_set_other _ _ _ _ hk hj (fun e => h e.symm) c0 c1, byt_bv]
theorem at_out (x i : Int) (h : ¬ (0 ≤ i ∧ i < 8)) : (128 : Int) = atI x i := by rw [atI, if_neg h]
theorem put_out (x i c : Int) (h : ¬ (0 ≤ i ∧ i < 8)) : x = putI x i c := by rw [putI, if_neg h]
theorem at_bd (x i : Int) : 0 ≤ atI x i ∧ atI x i < 256 := by
  unfold atI; split
  · exact byt_bd _ _
  · omega
theorem put_bd (x i c : Int) (x0 : 0 ≤ x) (x1 : x < 18446744073709551616) (c0 : 0 ≤ c) (c1 : c < 256) : 0 ≤ putI x i c ∧ putI x i c < 18446744073709551616 := by
  unfold putI; split
  · exact set_bd _ _ _ (by omega) x0 x1 c0 c1
  · omega
theorem at_put_same (x k c : Int) (h0 : 0 ≤ k) (h1 : k ≤ 7) (c0 : 0 ≤ c) (c1 : c < 256) : atI (putI x k c) k = c := by
  rw [atI, putI, if_pos ⟨h0, by omega⟩, if_pos ⟨h0, by omega⟩, byt_set_same _ _ _ (by omega) c0 c1]
theorem at_put_other (x k c j : Int) (h0 : 0 ≤ k) (h1 : k ≤ 7) (j0 : 0 ≤ j) (j1 : j < 8) (h : j ≠ k) (c0 : 0 ≤ c) (c1 : c < 256) : atI (putI x k c) j = atI x j := by
  rw [atI, putI, if_pos ⟨j0, j1⟩, if_pos ⟨h0, by omega⟩, atI, if_pos ⟨j0, j1⟩, byt_set_other _ _ _ _ (by omega) (by omega) (by omega) c0 c1]
theorem put_back (x k c : Int) (h0 : 0 ≤ k) (h1 : k ≤ 7) (x0 : 0 ≤ x) (x1 : x < 18446744073709551616) (c0 : 0 ≤ c) (c1 : c < 256) : putI (putI x k c) k (atI x k) = x := by
  obtain ⟨p0, p1⟩ := put_bd x k c x0 x1 c0 c1
  obtain ⟨a0, a1⟩ := at_bd x k
  obtain ⟨q0, q1⟩ := put_bd (putI x k c) k (atI x k) p0 p1 a0 a1
  apply byt_ext _ _ q0 q1 x0 x1
  intro i hi
  have e : ∀ y, atI y i = bytI y i := fun y => by rw [atI, if_pos ⟨by omega, by omega⟩, Int.toNat_natCast]
  rw [← e, ← e]
  by_cases h : (i : Int) = k
  · rw [h, at_put_same _ _ _ h0 h1 a0 a1]
  · rw [at_put_other _ _ _ _ h0 h1 (by omega) (by omega) h a0 a1, at_put_other _ _ _ _ h0 h1 (by omega) (by omega) h c0 c1]
end Go.Proofs.Ytkkijcnipjojoaa
