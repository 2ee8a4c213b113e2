/- Plain functions and laws on numbers for chapter 6: no program in sight. -/
import Derived.WalkKit
import Derived.Deep.Draws
namespace Go.Proofs.Ytkkijcnipjojoaa
open Go.RowKit

theorem ret_int {k : IntKind} {a b : Int} (h : a = b) : Ending.returned (.int k a) = .returned (.int k b) := by rw [h]
theorem take_snoc (s : ByteArray) (k : Nat) (h : k < s.size) : s.data.toList.take (k + 1) = s.data.toList.take k ++ [s[k]] := by
  rw [List.take_succ_eq_append_getElem (by simpa using h)]; rfl

/-- A world after some draws. -/
def IsDrew (a b : World) : Prop := ∃ m, b = a.drewN m
theorem IsDrew.refl (a : World) : IsDrew a a := ⟨0, rfl⟩
theorem IsDrew.one (a : World) (m : Nat) : IsDrew a (a.drewN m) := ⟨m, rfl⟩
theorem IsDrew.two (a : World) (m n : Nat) : IsDrew a ((a.drewN m).drewN n) := ⟨m + n, by rw [World.drewN_drewN]⟩
theorem IsDrew.trans {a b c : World} (h : IsDrew a b) (k : IsDrew b c) : IsDrew a c := by
  obtain ⟨m, rfl⟩ := h
  obtain ⟨n, rfl⟩ := k
  exact IsDrew.two _ _ _
theorem IsDrew.below {a b : World} (h : IsDrew a b) (B : Nat) : Below B a b := by
  obtain ⟨m, rfl⟩ := h
  exact (Below.refl B a).trans ⟨rfl, rfl, rfl, Nat.le_refl _, fun _ _ => rfl⟩

def sevenI (h : Int) : Int := h / 144115188075855872 % 256
def clampI (n : Int) : Int := if n < 0 then 0 else if 16 < n then 16 else n
def lowI (h n : Int) : Int := h % 2 ^ (clampI n).toNat

def hstep (h : Int) (c : UInt8) : Int := IntKind.u64.wrap (bits .xor .u64 h (IntKind.u64.wrap (c.toNat : Int)) * 1099511628211)
def hfold (seed : Int) (l : List UInt8) : Int := l.foldl hstep (bits .xor .u64 14695981039346656037 seed)
def hend (h : Int) : Int := IntKind.u64.wrap (bits .xor .u64 h (h / 4294967296) * 11400714819323198485)
def hof (seed : Int) (l : List UInt8) : Int := bits .xor .u64 (hend (hfold seed l)) (hend (hfold seed l) / 536870912)
theorem hfold_snoc (seed : Int) (l : List UInt8) (c : UInt8) : hfold seed (l ++ [c]) = hstep (hfold seed l) c := by
  simp [hfold]

theorem bits_and_u64_nat (a b : Nat) (ha : a < 18446744073709551616) (hb : b < 18446744073709551616) :
    bits .and .u64 (a : Int) (b : Int) = ((a &&& b : Nat) : Int) := by
  have hx : a &&& b < 2 ^ 64 := Nat.and_lt_two_pow _ (by omega)
  have h1 : (BitVec.ofInt 64 (a : Int)).toNat = a := by
    rw [BitVec.ofInt_natCast, BitVec.toNat_ofNat]; exact Nat.mod_eq_of_lt (by omega)
  have h2 : (BitVec.ofInt 64 (b : Int)).toNat = b := by
    rw [BitVec.ofInt_natCast, BitVec.toNat_ofNat]; exact Nat.mod_eq_of_lt (by omega)
  show IntKind.u64.wrap ((BitVec.ofInt 64 (a : Int) &&& BitVec.ofInt 64 (b : Int)).toNat : Int) = _
  rw [BitVec.toNat_and, h1, h2, IntKind.wrap_u64]
  omega

/-- A number's lowest k bits. -/
theorem and_mask (h : Int) (k : Nat) (h0 : 0 ≤ h) (h1 : h < 18446744073709551616) (hk : k ≤ 63) :
    bits .and .u64 h (IntKind.u64.wrap (IntKind.u64.wrap (2 ^ k) - 1)) = h % 2 ^ k := by
  obtain ⟨n, rfl⟩ := Int.eq_ofNat_of_zero_le h0
  have hp : (2 : Nat) ^ k ≤ 2 ^ 63 := Nat.pow_le_pow_right (by omega) hk
  have hp0 : (0 : Nat) < 2 ^ k := Nat.two_pow_pos k
  have e : ((2 : Int) ^ k) = ((2 ^ k : Nat) : Int) := by simp
  have e2 : (IntKind.u64.wrap (IntKind.u64.wrap (2 ^ k) - 1)) = ((2 ^ k - 1 : Nat) : Int) := by
    rw [e]; generalize (2 : Nat) ^ k = p at *; rw [IntKind.wrap_u64, IntKind.wrap_u64]; omega
  rw [e2, bits_and_u64_nat _ _ (by omega) (by generalize (2 : Nat) ^ k = p at *; omega), Nat.and_two_pow_sub_one_eq_mod, e]
  omega

theorem low_neg (h n : Int) (h0 : 0 ≤ h) (h1 : h < 18446744073709551616) (c : n < 0) :
    bits .and .u64 h (IntKind.u64.wrap (IntKind.u64.wrap 1 - 1)) = lowI h n := by
  have := and_mask h 0 h0 h1 (by omega)
  rw [show (2 : Int) ^ 0 = 1 from rfl] at this
  rw [this]; simp [lowI, clampI, c]
theorem low_big (h n : Int) (h0 : 0 ≤ h) (h1 : h < 18446744073709551616) (c : 16 < n) :
    bits .and .u64 h (IntKind.u64.wrap (IntKind.u64.wrap 65536 - 1)) = lowI h n := by
  have := and_mask h 16 h0 h1 (by omega)
  rw [show (2 : Int) ^ 16 = 65536 from rfl] at this
  rw [this]; simp [lowI, clampI, c, show ¬ n < 0 from by omega]
theorem low_mid (h n : Int) (h0 : 0 ≤ h) (h1 : h < 18446744073709551616) (c1 : 0 ≤ n) (c2 : n ≤ 16) :
    bits .and .u64 h (IntKind.u64.wrap (IntKind.u64.wrap (2 ^ n.toNat) - 1)) = lowI h n := by
  rw [and_mask h n.toNat h0 h1 (by omega)]; simp [lowI, clampI, show ¬ n < 0 from by omega, show ¬ 16 < n from by omega]

def cutB (s : ByteArray) (n : Nat) : ByteArray := if n < s.size then s.extract 0 n else s
def within (n lo hi : Int) : Int := lo + n % (hi - lo + 1)
theorem tmod_bd (n m : Int) (h : 0 < m) : -m < n.tmod m ∧ n.tmod m < m :=
  ⟨by have := Int.lt_tmod_of_pos n h; omega, Int.tmod_lt_of_pos n h⟩
theorem within_neg (n lo hi : Int) (h : lo ≤ hi) (c : n.tmod (hi - lo + 1) < 0) : lo + (n.tmod (hi - lo + 1) + hi - lo + 1) = within n lo hi := by
  unfold within
  have h1 := Int.emod_nonneg n (show hi - lo + 1 ≠ 0 by omega)
  have h2 := Int.emod_lt_of_pos n (show 0 < hi - lo + 1 by omega)
  have h3 := @Int.tmod_eq_emod n (hi - lo + 1)
  split at h3 <;> omega
theorem within_pos (n lo hi : Int) (h : lo ≤ hi) (c : ¬ n.tmod (hi - lo + 1) < 0) : lo + n.tmod (hi - lo + 1) = within n lo hi := by
  unfold within
  have h1 := Int.emod_nonneg n (show hi - lo + 1 ≠ 0 by omega)
  have h2 := Int.emod_lt_of_pos n (show 0 < hi - lo + 1 by omega)
  have h3 := @Int.tmod_eq_emod n (hi - lo + 1)
  split at h3 <;> omega
theorem within_bd (n lo hi : Int) (h : lo ≤ hi) : lo ≤ within n lo hi ∧ within n lo hi ≤ hi := by
  unfold within
  have h1 := Int.emod_nonneg n (show hi - lo + 1 ≠ 0 by omega)
  have h2 := Int.emod_lt_of_pos n (show 0 < hi - lo + 1 by omega)
  omega
theorem wrap_pow_eq (k : Int) (h1 : 0 ≤ k) (h2 : k ≤ 16) : IntKind.u64.wrap (2 ^ k.toNat) = 2 ^ k.toNat ∧ (0 : Int) < 2 ^ k.toNat := by
  have hp : (2 : Nat) ^ k.toNat ≤ 2 ^ 16 := Nat.pow_le_pow_right (by omega) (by omega)
  have hp0 : (0 : Nat) < 2 ^ k.toNat := Nat.two_pow_pos _
  have e : ((2 : Int) ^ k.toNat) = ((2 ^ k.toNat : Nat) : Int) := by simp
  rw [e, IntKind.wrap_u64]; generalize (2 : Nat) ^ k.toNat = p at *; omega
theorem wrap_pow (k : Int) (h1 : 0 ≤ k) (h2 : k ≤ 16) : ¬ IntKind.u64.wrap (2 ^ k.toNat) = 0 := by
  have := wrap_pow_eq k h1 h2; omega
theorem clamp_in (k : Int) (h1 : 0 ≤ k) (h2 : k ≤ 16) : clampI k = k := by
  simp [clampI, show ¬ k < 0 from by omega, show ¬ 16 < k from by omega]
theorem low_bd (h n : Int) (h0 : 0 ≤ h) (h1 : h < 18446744073709551616) : 0 ≤ lowI h n ∧ lowI h n < 18446744073709551616 := by
  unfold lowI
  have hp : (0 : Int) < 2 ^ (clampI n).toNat := Int.pow_pos (by omega)
  have a := Int.emod_nonneg h (show (2 : Int) ^ (clampI n).toNat ≠ 0 by omega)
  have b : h % 2 ^ (clampI n).toNat ≤ h := by
    have := Int.emod_add_mul_ediv h (2 ^ (clampI n).toNat)
    have q := Int.mul_nonneg (Int.le_of_lt hp) (Int.ediv_nonneg h0 (Int.le_of_lt hp))
    omega
  omega
theorem low_eq (h k : Int) (h1 : 0 ≤ k) (h2 : k ≤ 16) : (lowI h k == h % IntKind.u64.wrap (2 ^ k.toNat)) = true := by
  rw [(wrap_pow_eq k h1 h2).1, lowI, clamp_in k h1 h2]; simp
end Go.Proofs.Ytkkijcnipjojoaa
