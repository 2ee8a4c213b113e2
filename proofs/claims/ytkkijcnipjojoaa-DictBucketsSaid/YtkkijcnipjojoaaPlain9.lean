/- Plain laws on bits for chapter 9: a number's lowest bits read the other way round: no program in sight. -/
import Derived.Test.YtkkijcnipjojoaaPlain6
namespace Go.Proofs.Ytkkijcnipjojoaa
open Go.RowKit

/-- The d lowest bits of c, read the other way round. -/
def trn (c : Nat) : Nat → Nat
  | 0 => 0
  | d + 1 => 2 * trn c d + c / 2 ^ d % 2

theorem trn_lt (c d : Nat) : trn c d < 2 ^ d := by
  induction d with
  | zero => simp [trn]
  | succ d ih => rw [trn, Nat.pow_succ]; have := Nat.mod_lt (c / 2 ^ d) (show 2 > 0 by omega); omega

theorem trn_bit (c d j : Nat) : (trn c d).testBit j = (decide (j < d) && c.testBit (d - 1 - j)) := by
  induction d generalizing j with
  | zero => simp [trn]
  | succ d ih =>
    cases j with
    | zero =>
      rw [trn, Nat.testBit_zero]
      have e : (2 * trn c d + c / 2 ^ d % 2) % 2 = c / 2 ^ d % 2 := by omega
      rw [e]
      rw [Bool.eq_iff_iff]; simp [Nat.testBit, Nat.shiftRight_eq_div_pow]
    | succ j =>
      rw [trn, Nat.testBit_succ]
      have e : (2 * trn c d + c / 2 ^ d % 2) / 2 = trn c d := by omega
      rw [e, ih]
      by_cases h : j < d
      · have e2 : d - 1 - j = d + 1 - 1 - (j + 1) := by omega
        simp [h, e2]
      · simp [h]

theorem trn_mod (c d : Nat) : trn (c % 2 ^ d) d = trn c d := by
  apply Nat.eq_of_testBit_eq
  intro j
  rw [trn_bit, trn_bit]
  by_cases h : j < d
  · simp [h, Nat.testBit_mod_two_pow]; omega
  · simp [h]

theorem trn_trn (c d : Nat) : trn (trn c d) d = c % 2 ^ d := by
  apply Nat.eq_of_testBit_eq
  intro j
  rw [trn_bit, trn_bit, Nat.testBit_mod_two_pow]
  by_cases h : j < d
  · have e : d - 1 - (d - 1 - j) = j := by omega
    have h2 : d - 1 - j < d := by omega
    simp [h, e, h2]
  · simp [h]

theorem trn_inj (a b d : Nat) (ha : a < 2 ^ d) (hb : b < 2 ^ d) (h : trn a d = trn b d) : a = b := by
  have := congrArg (fun x => trn x d) h
  simp only [trn_trn] at this
  rwa [Nat.mod_eq_of_lt ha, Nat.mod_eq_of_lt hb] at this

theorem trn_zero (d : Nat) : trn 0 d = 0 := by
  induction d with
  | zero => rfl
  | succ d ih => rw [trn, ih]; simp

theorem trn_full (d : Nat) : trn (2 ^ d) d = 0 := by rw [← trn_mod, Nat.mod_self, trn_zero]

/-- A number of k bits, read with e bits more. -/
theorem trn_more (x k e : Nat) (hx : x < 2 ^ k) : trn x (k + e) = 2 ^ e * trn x k := by
  induction e with
  | zero => simp
  | succ e ih =>
    rw [← Nat.add_assoc, trn, ih]
    have : x / 2 ^ (k + e) = 0 := Nat.div_eq_of_lt (Nat.lt_of_lt_of_le hx (Nat.pow_le_pow_right (by omega) (by omega)))
    rw [this, Nat.pow_succ]; simp; rw [← Nat.mul_assoc, Nat.mul_comm 2]

theorem trn_most (h k e : Nat) : ∃ r, r < 2 ^ e ∧ trn h (k + e) = 2 ^ e * trn h k + r := by
  induction e with
  | zero => exact ⟨0, by simp, by simp⟩
  | succ e ih =>
    obtain ⟨r, hr, he⟩ := ih
    refine ⟨2 * r + h / 2 ^ (k + e) % 2, ?_, ?_⟩
    · rw [Nat.pow_succ]; omega
    · have e2 : 2 ^ e * 2 * trn h k = 2 * (2 ^ e * trn h k) := by rw [Nat.mul_comm (2 ^ e) 2, Nat.mul_assoc]
      rw [← Nat.add_assoc, trn, he, Nat.pow_succ, Nat.mul_add, e2]; omega

/-- What was seen ahead of a cursor is seen at each greater depth. -/
theorem seen_more (x h k e : Nat) (hx : x < 2 ^ k) : (trn h (k + e) < trn x (k + e)) ↔ (trn h k < trn x k) := by
  rw [trn_more x k e hx]
  obtain ⟨r, hr, he⟩ := trn_most h k e
  rw [he]
  constructor
  · intro hlt
    apply Nat.lt_of_not_le
    intro hge
    have := Nat.mul_le_mul_left (2 ^ e) hge
    omega
  · intro hlt
    have := Nat.mul_le_mul_left (2 ^ e) (Nat.succ_le_of_lt hlt)
    rw [Nat.mul_succ] at this
    omega

/-! ### The next cursor -/
def nxt (c d : Nat) : Nat := trn (trn c d + 1) d

theorem nxt_last (c d : Nat) (h : trn c d + 1 = 2 ^ d) : nxt c d = 0 := by rw [nxt, h, trn_full]
theorem trn_nxt (c d : Nat) (h : trn c d + 1 < 2 ^ d) : trn (nxt c d) d = trn c d + 1 := by rw [nxt, trn_trn, Nat.mod_eq_of_lt h]
theorem nxt_zero (c d : Nat) (h : nxt c d = 0) : trn c d + 1 = 2 ^ d := by
  apply Nat.le_antisymm (trn_lt c d)
  apply Nat.le_of_not_lt
  intro hlt
  have := trn_nxt c d hlt
  rw [h, trn_zero] at this
  omega
theorem nxt_trn (i d : Nat) (h : i < 2 ^ d) : nxt (trn i d) d = trn (i + 1) d := by rw [nxt, trn_trn, Nat.mod_eq_of_lt h]
theorem nxt_lt (c d : Nat) : nxt c d < 2 ^ d := trn_lt _ _

/-! ### A word turned round, by swaps of bits that are 1, 2, 4, .. apart -/
def stage (s : Nat) (m x : BitVec 64) : BitVec 64 := (x >>> s) &&& m ||| (x &&& m) <<< s

theorem stage_bit (s : Nat) (m x : BitVec 64)
    (H : ∀ i, i < 64 → (m.getLsbD i = true → i ^^^ s = i + s ∧ i + s < 64 ∧ ¬ (s ≤ i ∧ m.getLsbD (i - s) = true)) ∧ (m.getLsbD i = false → s ≤ i ∧ m.getLsbD (i - s) = true ∧ i ^^^ s = i - s))
    (i : Nat) (hi : i < 64) : (stage s m x).getLsbD i = x.getLsbD (i ^^^ s) := by
  obtain ⟨h1, h2⟩ := H i hi
  simp only [stage, BitVec.getLsbD_or, BitVec.getLsbD_and, BitVec.getLsbD_ushiftRight, BitVec.getLsbD_shiftLeft, hi, decide_true, Bool.true_and]
  cases hm : m.getLsbD i with
  | true =>
    obtain ⟨e, hl, hn⟩ := h1 hm
    rw [e, Nat.add_comm s i]
    by_cases hs : s ≤ i
    · have : m.getLsbD (i - s) = false := by cases hq : m.getLsbD (i - s) with | false => rfl | true => exact absurd ⟨hs, hq⟩ hn
      simp [this]
    · simp [show i < s from by omega]
  | false =>
    obtain ⟨hs, hq, e⟩ := h2 hm
    rw [e]
    simp [hq, show ¬ i < s from by omega]

def rev64 (x : BitVec 64) : BitVec 64 :=
  stage 32 4294967295#64 (stage 16 281470681808895#64 (stage 8 71777214294589695#64 (stage 4 1085102592571150095#64 (stage 2 3689348814741910323#64 (stage 1 6148914691236517205#64 x)))))

theorem rev64_bit (x : BitVec 64) (i : Nat) (hi : i < 64) : (rev64 x).getLsbD i = x.getLsbD (63 - i) := by
  have b : ∀ i s : Nat, i < 64 → s < 64 → i ^^^ s < 64 := fun i s h1 h2 => Nat.xor_lt_two_pow (n := 6) h1 h2
  have e : ∀ i, i < 64 → i ^^^ 32 ^^^ 16 ^^^ 8 ^^^ 4 ^^^ 2 ^^^ 1 = 63 - i := by decide
  rw [rev64, stage_bit 32 _ _ (by decide) i hi]
  rw [stage_bit 16 _ _ (by decide) _ (b _ _ hi (by omega))]
  rw [stage_bit 8 _ _ (by decide) _ (b _ _ (b _ _ hi (by omega)) (by omega))]
  rw [stage_bit 4 _ _ (by decide) _ (b _ _ (b _ _ (b _ _ hi (by omega)) (by omega)) (by omega))]
  rw [stage_bit 2 _ _ (by decide) _ (b _ _ (b _ _ (b _ _ (b _ _ hi (by omega)) (by omega)) (by omega)) (by omega))]
  rw [stage_bit 1 _ _ (by decide) _ (b _ _ (b _ _ (b _ _ (b _ _ (b _ _ hi (by omega)) (by omega)) (by omega)) (by omega)) (by omega))]
  rw [e i hi]

/-- The highest d bits of the word turned round are its lowest, turned round. -/
theorem rev64_trn (x : BitVec 64) (d : Nat) (hd : d ≤ 64) : (rev64 x).toNat / 2 ^ (64 - d) = trn x.toNat d := by
  apply Nat.eq_of_testBit_eq
  intro j
  rw [trn_bit, ← Nat.shiftRight_eq_div_pow, Nat.testBit_shiftRight]
  by_cases h : j < d
  · have := rev64_bit x (64 - d + j) (by omega)
    simp only [BitVec.getLsbD] at this
    rw [this, show 63 - (64 - d + j) = d - 1 - j from by omega]
    simp [h]
  · have : (rev64 x).toNat < 2 ^ (64 - d + j) := Nat.lt_of_lt_of_le (rev64 x).isLt (Nat.pow_le_pow_right (by omega) (by omega))
    rw [Nat.testBit_lt_two_pow this]
    simp [h]

theorem ofInt_toNat (x : BitVec 64) : BitVec.ofInt 64 (x.toNat : Int) = x := by
  apply BitVec.eq_of_toNat_eq
  rw [BitVec.ofInt_natCast, BitVec.toNat_ofNat]
  exact Nat.mod_eq_of_lt x.isLt
theorem wrap_toNat (x : BitVec 64) : IntKind.u64.wrap (x.toNat : Int) = x.toNat := by
  have := x.isLt
  rw [IntKind.wrap_u64]; omega
theorem bits_and_bv (x y : BitVec 64) : bits .and .u64 (x.toNat : Int) (y.toNat : Int) = ((x &&& y).toNat : Int) := by
  show IntKind.u64.wrap ((BitVec.ofInt 64 (x.toNat : Int) &&& BitVec.ofInt 64 (y.toNat : Int)).toNat : Int) = _
  rw [ofInt_toNat, ofInt_toNat, wrap_toNat]
theorem bits_or_bv (x y : BitVec 64) : bits .or .u64 (x.toNat : Int) (y.toNat : Int) = ((x ||| y).toNat : Int) := by
  show IntKind.u64.wrap ((BitVec.ofInt 64 (x.toNat : Int) ||| BitVec.ofInt 64 (y.toNat : Int)).toNat : Int) = _
  rw [ofInt_toNat, ofInt_toNat, wrap_toNat]
theorem shr_bv (x : BitVec 64) (s : Nat) (c : Int) (hc : c = ((2 ^ s : Nat) : Int)) : (x.toNat : Int) / c = ((x >>> s).toNat : Int) := by
  rw [hc, BitVec.toNat_ushiftRight, Nat.shiftRight_eq_div_pow]; rfl
theorem shl_bv (x : BitVec 64) (s : Nat) (c : Int) (hc : c = ((2 ^ s : Nat) : Int)) : IntKind.u64.wrap ((x.toNat : Int) * c) = ((x <<< s).toNat : Int) := by
  rw [hc, BitVec.toNat_shiftLeft, Nat.shiftLeft_eq, IntKind.wrap_u64]; rfl
theorem stage_int (x m : BitVec 64) (s : Nat) (c M : Int) (hc : c = ((2 ^ s : Nat) : Int)) (hM : M = (m.toNat : Int)) :
    bits .or .u64 (bits .and .u64 ((x.toNat : Int) / c) M) (IntKind.u64.wrap (bits .and .u64 (x.toNat : Int) M * c)) = ((stage s m x).toNat : Int) := by
  rw [hM, shr_bv x s c hc, bits_and_bv, bits_and_bv, shl_bv _ s c hc, bits_or_bv]; rfl
theorem stage_half (x : BitVec 64) : x >>> 32 ||| x <<< 32 = stage 32 4294967295#64 x := by
  have hm : ∀ i, i < 64 → (4294967295#64).getLsbD i = decide (i < 32) := by decide
  apply BitVec.eq_of_getLsbD_eq
  intro i hi
  simp only [stage, BitVec.getLsbD_or, BitVec.getLsbD_and, BitVec.getLsbD_ushiftRight, BitVec.getLsbD_shiftLeft, hi, decide_true, Bool.true_and]
  rw [hm i hi]
  by_cases h : i < 32
  · simp [h]
  · rw [hm (i - 32) (by omega)]
    simp [h, show i - 32 < 32 from by omega]
    intro hx
    rw [BitVec.getLsbD_of_ge _ _ (by omega)] at hx
    exact absurd hx (by simp)
theorem half_int (x : BitVec 64) (c : Int) (hc : c = ((2 ^ 32 : Nat) : Int)) : bits .or .u64 ((x.toNat : Int) / c) (IntKind.u64.wrap ((x.toNat : Int) * c)) = ((stage 32 4294967295#64 x).toNat : Int) := by
  rw [shr_bv x 32 c hc, shl_bv x 32 c hc, bits_or_bv, stage_half]
theorem bv_lt (x : BitVec 64) : 0 ≤ (x.toNat : Int) ∧ (x.toNat : Int) < 18446744073709551616 := by have := x.isLt; omega
theorem turned_int (x : BitVec 64) (k : Nat) (_h1 : 0 < k) (h2 : k ≤ 16) : ((rev64 x).toNat : Int) / 2 ^ (64 - k) = (trn x.toNat k : Nat) := by
  rw [← rev64_trn x k (by omega)]; simp
def seenB (c h d : Int) : Bool := decide (trn h.toNat (clampI d).toNat < trn c.toNat (clampI d).toNat)
theorem trn_step (c j : Nat) (hc : c < 18446744073709551616) (hj : j < 16) :
    bits .or .u64 ((trn c j : Int) * 2) (bits .and .u64 ((c : Int) / 2 ^ j) 1) = (trn c (j + 1) : Nat) := by
  have h := trn_lt c j
  have hp : 2 ^ j ≤ 2 ^ 16 := Nat.pow_le_pow_right (by omega) (by omega)
  have hd : c / 2 ^ j ≤ c := Nat.div_le_self _ _
  have e1 : ((c : Int) / 2 ^ j) = ((c / 2 ^ j : Nat) : Int) := by simp
  have e2 : ((trn c j : Int) * 2) = ((2 * trn c j : Nat) : Int) := by omega
  rw [e1, show (1 : Int) = ((1 : Nat) : Int) from rfl, bits_and_u64_nat _ _ (by omega) (by omega), Nat.and_one_is_mod, e2]
  have hb : c / 2 ^ j % 2 < 2 := Nat.mod_lt _ (by omega)
  have ho : 2 * trn c j ||| c / 2 ^ j % 2 = 2 * trn c j + c / 2 ^ j % 2 := by
    have := Nat.two_pow_add_eq_or_of_lt (i := 1) (b := c / 2 ^ j % 2) (by omega) (trn c j)
    rw [Nat.pow_one] at this
    exact this.symm
  have hx : bits .or .u64 ((2 * trn c j : Nat) : Int) ((c / 2 ^ j % 2 : Nat) : Int) = ((2 * trn c j ||| c / 2 ^ j % 2 : Nat) : Int) := by
    have := bits_or_bv (BitVec.ofNat 64 (2 * trn c j)) (BitVec.ofNat 64 (c / 2 ^ j % 2))
    rw [BitVec.toNat_or, BitVec.toNat_ofNat, BitVec.toNat_ofNat, Nat.mod_eq_of_lt (by omega), Nat.mod_eq_of_lt (by omega)] at this
    exact this
  rw [hx, ho, trn]
theorem wrap_pow_nat (k : Int) (h1 : 0 ≤ k) (h2 : k ≤ 16) : IntKind.u64.wrap (2 ^ k.toNat) = ((2 ^ k.toNat : Nat) : Int) := by
  rw [(wrap_pow_eq k h1 h2).1]; simp
theorem wrap_pow64 (k : Int) (h1 : 0 ≤ k) (h2 : k ≤ 16) : wrap64 (2 ^ k.toNat) = ((2 ^ k.toNat : Nat) : Int) := by
  have hp : (2 : Nat) ^ k.toNat ≤ 2 ^ 16 := Nat.pow_le_pow_right (by omega) (by omega)
  have e : ((2 : Int) ^ k.toNat) = ((2 ^ k.toNat : Nat) : Int) := by simp
  rw [e]; generalize (2 : Nat) ^ k.toNat = p at *; unfold wrap64; omega
theorem low_toNat (c k : Int) (h0 : 0 ≤ c) (k0 : 0 ≤ k) (k1 : k ≤ 16) : (lowI c k).toNat = c.toNat % 2 ^ k.toNat ∧ lowI c k = ((c.toNat % 2 ^ k.toNat : Nat) : Int) := by
  obtain ⟨n, rfl⟩ := Int.eq_ofNat_of_zero_le h0
  have e : lowI (n : Int) k = ((n % 2 ^ k.toNat : Nat) : Int) := by
    rw [lowI, clamp_in k k0 k1]; simp
  rw [e, Int.toNat_natCast]; exact ⟨rfl, rfl⟩
theorem deeper_same (c h k m : Int) (c0 : 0 ≤ c) (k0 : 0 ≤ k) (km : k ≤ m) (m1 : m ≤ 16) : seenB (lowI c k) h k = seenB (lowI c k) h m := by
  unfold seenB
  rw [clamp_in k k0 (by omega), clamp_in m (by omega) m1, (low_toNat c k c0 k0 (by omega)).1]
  have e : m.toNat = k.toNat + (m.toNat - k.toNat) := by omega
  have := seen_more (c.toNat % 2 ^ k.toNat) h.toNat k.toNat (m.toNat - k.toNat) (Nat.mod_lt _ (Nat.two_pow_pos _))
  rw [← e] at this
  rw [Bool.eq_iff_iff]
  simp only [decide_eq_true_eq]
  exact this.symm
theorem not_ahead (h k x : Int) (h0 : 0 ≤ h) (k0 : 0 ≤ k) (k1 : k ≤ 16) (hx : lowI h k = x) : seenB x h k = false := by
  subst hx
  unfold seenB
  rw [clamp_in k k0 k1, (low_toNat h k h0 k0 k1).1, trn_mod]
  simp
theorem behind_next (x h k : Int) (x0 : 0 ≤ x) (xl : x.toNat < 2 ^ k.toNat) (h0 : 0 ≤ h) (k0 : 0 ≤ k) (k1 : k ≤ 16) (hn : nxt x.toNat k.toNat ≠ 0) :
    seenB (nxt x.toNat k.toNat : Nat) h k = (seenB x h k || decide (lowI h k = x)) := by
  unfold seenB
  rw [clamp_in k k0 k1, Int.toNat_natCast]
  have hlt : trn x.toNat k.toNat + 1 < 2 ^ k.toNat := by
    have := trn_lt x.toNat k.toNat
    apply Nat.lt_of_le_of_ne this
    intro e
    exact hn (nxt_last _ _ e)
  rw [trn_nxt _ _ hlt, Bool.eq_iff_iff]
  simp only [Bool.or_eq_true, decide_eq_true_eq]
  have e : lowI h k = x ↔ trn h.toNat k.toNat = trn x.toNat k.toNat := by
    rw [(low_toNat h k h0 k0 k1).2]
    constructor
    · intro e; rw [← e, Int.toNat_natCast, trn_mod]
    · intro e
      have := trn_inj (h.toNat % 2 ^ k.toNat) x.toNat k.toNat (Nat.mod_lt _ (Nat.two_pow_pos _)) xl (by rw [trn_mod]; exact e)
      omega
  rw [e]
  omega
end Go.Proofs.Ytkkijcnipjojoaa
