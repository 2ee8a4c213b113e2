/- The slots of a word whose byte is one that is asked for: plain lists. -/
import Derived.Test.YtkkijcnipjojoaaPlain7
namespace Go.Proofs.Ytkkijcnipjojoaa
open Go.RowKit

def slotsI (p : Int → Bool) (x : Int) (n : Nat) : List Int := ((List.range n).filter fun i => p (bytI x i)).map fun i : Nat => (i : Int)
theorem slots_zero (p : Int → Bool) (x : Int) : slotsI p x 0 = [] := rfl
theorem slots_yes (p : Int → Bool) (x : Int) (n : Nat) (h : p (bytI x n) = true) : slotsI p x (n + 1) = slotsI p x n ++ [(n : Int)] := by
  simp [slotsI, List.range_succ, h]
theorem slots_no (p : Int → Bool) (x : Int) (n : Nat) (h : p (bytI x n) = false) : slotsI p x (n + 1) = slotsI p x n := by
  simp [slotsI, List.range_succ, h]
theorem slots_len (p : Int → Bool) (x : Int) (n : Nat) : (slotsI p x n).length ≤ n := by
  simp only [slotsI, List.length_map]
  exact Nat.le_trans (List.length_filter_le _ _) (by simp)
theorem slots_mem (p : Int → Bool) (x : Int) (n : Nat) (j : Int) : j ∈ slotsI p x n ↔ 0 ≤ j ∧ j < n ∧ p (bytI x j.toNat) = true := by
  simp only [slotsI, List.mem_map, List.mem_filter, List.mem_range]
  constructor
  · rintro ⟨i, ⟨h1, h2⟩, rfl⟩; exact ⟨by omega, by omega, by rwa [Int.toNat_natCast]⟩
  · rintro ⟨h1, h2, h3⟩; exact ⟨j.toNat, ⟨by omega, h3⟩, by omega⟩
def isFree (b : Int) : Bool := decide (128 ≤ b)
def isByte (c b : Int) : Bool := b == c

/-- A word in which Deleted has become Empty. -/
def cleanI (x : Int) : Int := (slotsI (isByte 254) x 8).foldl (fun y i => putI y i 128) x
theorem fold_byt (l : List Int) (x : Int) (j : Nat) (hj : j < 8) (hl : ∀ i ∈ l, 0 ≤ i ∧ i < 8) :
    bytI (l.foldl (fun y i => putI y i 128) x) j = if (j : Int) ∈ l then 128 else bytI x j := by
  induction l generalizing x with
  | nil => simp
  | cons i l ih =>
    obtain ⟨i0, i1⟩ := hl i (by simp)
    rw [List.foldl_cons, ih _ fun k hk => hl k (by simp [hk])]
    have e : putI x i 128 = setI x i.toNat 128 := by rw [putI, if_pos ⟨i0, i1⟩]
    by_cases hm : (j : Int) ∈ l
    · rw [if_pos hm, if_pos (by simp [hm])]
    · rw [if_neg hm, e]
      by_cases hji : (j : Int) = i
      · subst hji
        rw [if_pos (by simp), Int.toNat_natCast, byt_set_same _ _ _ hj (by omega) (by omega)]
      · rw [if_neg (by simp [hm, hji]), byt_set_other _ _ _ _ (by omega) hj (by omega) (by omega) (by omega)]
theorem fold_bd (l : List Int) (x : Int) (x0 : 0 ≤ x) (x1 : x < 18446744073709551616) : 0 ≤ l.foldl (fun y i => putI y i 128) x ∧ l.foldl (fun y i => putI y i 128) x < 18446744073709551616 := by
  induction l generalizing x with
  | nil => exact ⟨x0, x1⟩
  | cons i l ih =>
    obtain ⟨p0, p1⟩ := put_bd x i 128 x0 x1 (by omega) (by omega)
    exact ih _ p0 p1
theorem clean_byt (x : Int) (j : Nat) (hj : j < 8) : bytI (cleanI x) j = if bytI x j = 254 then 128 else bytI x j := by
  unfold cleanI
  rw [fold_byt _ _ _ hj fun i hi => by have := (slots_mem (isByte 254) x 8 i).1 hi; omega]
  have : (j : Int) ∈ slotsI (isByte 254) x 8 ↔ bytI x j = 254 := by
    rw [slots_mem]; simp [isByte]; omega
  by_cases h : bytI x j = 254
  · rw [if_pos (this.2 h), if_pos h]
  · rw [if_neg (fun q => h (this.1 q)), if_neg h]
theorem clean_bd (x : Int) (x0 : 0 ≤ x) (x1 : x < 18446744073709551616) : 0 ≤ cleanI x ∧ cleanI x < 18446744073709551616 := fold_bd _ x x0 x1
theorem slots_congr (p : Int → Bool) (x y : Int) (h : ∀ i, i < 8 → p (bytI x i) = p (bytI y i)) : slotsI p x 8 = slotsI p y 8 := by
  unfold slotsI
  congr 1
  apply List.filter_congr
  intro i hi
  exact h i (by simpa using hi)
theorem clean_free (x : Int) : slotsI isFree (cleanI x) 8 = slotsI isFree x 8 := by
  apply slots_congr
  intro i hi
  rw [clean_byt x i hi, isFree, isFree, Bool.eq_iff_iff]
  simp only [decide_eq_true_eq]
  split <;> omega
theorem clean_none (x : Int) : slotsI (isByte 254) (cleanI x) 8 = [] := by
  apply List.eq_nil_iff_forall_not_mem.2
  intro j hj
  obtain ⟨h1, h2, h3⟩ := (slots_mem _ _ _ _).1 hj
  rw [clean_byt x _ (by omega)] at h3
  simp only [isByte, beq_iff_eq] at h3
  split at h3 <;> omega
theorem clean_clean (x : Int) (x0 : 0 ≤ x) (x1 : x < 18446744073709551616) : cleanI (cleanI x) = cleanI x := by
  obtain ⟨c0, c1⟩ := clean_bd x x0 x1
  obtain ⟨d0, d1⟩ := clean_bd (cleanI x) c0 c1
  apply byt_ext _ _ d0 d1 c0 c1
  intro i hi
  rw [clean_byt _ i hi, clean_byt x i hi]
  split <;> (try split at *) <;> omega

/-! ### Eight bytes as an array, and as a word -/
def arr (b : Nat → Int) : Array Value := #[.int .u8 (b 0), .int .u8 (b 1), .int .u8 (b 2), .int .u8 (b 3), .int .u8 (b 4), .int .u8 (b 5), .int .u8 (b 6), .int .u8 (b 7)]
theorem arr_at (b : Nat → Int) (i : Nat) (hi : i < 8) : (arr b)[i]? = some (.int .u8 (b i)) := by
  rcases lt8 hi with rfl | rfl | rfl | rfl | rfl | rfl | rfl | rfl <;> rfl
/-- The k highest bytes. -/
def horN (b : Nat → Int) : Nat → Int
  | 0 => 0
  | k + 1 => horN b k * 256 + b (7 - k)
def wordI (b : Nat → Int) : Int := horN b 8
theorem hor_bd (b : Nat → Int) (hb : ∀ i, i < 8 → 0 ≤ b i ∧ b i < 256) (k : Nat) : 0 ≤ horN b k ∧ horN b k < 256 ^ k := by
  induction k with
  | zero => simp [horN]
  | succ k ih =>
    have h := hb (7 - k) (by omega)
    rw [horN, Int.pow_succ]; omega
theorem hor_bits (n c : Int) (n0 : 0 ≤ n) (n1 : n < 72057594037927936) (c0 : 0 ≤ c) (c1 : c < 256) : bits .or .u64 (n * 256) c = n * 256 + c := by
  obtain ⟨a, rfl⟩ := Int.eq_ofNat_of_zero_le n0
  obtain ⟨d, rfl⟩ := Int.eq_ofNat_of_zero_le c0
  rw [show ((a : Int) * 256) = ((a * 256 : Nat) : Int) from by omega]
  have h := bits_or_bv (BitVec.ofNat 64 (a * 256)) (BitVec.ofNat 64 d)
  rw [BitVec.toNat_or, BitVec.toNat_ofNat, BitVec.toNat_ofNat, Nat.mod_eq_of_lt (by omega), Nat.mod_eq_of_lt (by omega)] at h
  rw [h]
  have e := Nat.two_pow_add_eq_or_of_lt (i := 8) (b := d) (by omega) a
  rw [show a * 256 = 2 ^ 8 * a from by omega, ← e]
  omega
theorem word_bd (b : Nat → Int) (hb : ∀ i, i < 8 → 0 ≤ b i ∧ b i < 256) : 0 ≤ wordI b ∧ wordI b < 18446744073709551616 := hor_bd b hb 8
theorem word_byt (b : Nat → Int) (hb : ∀ i, i < 8 → 0 ≤ b i ∧ b i < 256) (i : Nat) (hi : i < 8) : bytI (wordI b) i = b i := by
  have h0 := hb 0 (by omega); have h1 := hb 1 (by omega); have h2 := hb 2 (by omega); have h3 := hb 3 (by omega)
  have h4 := hb 4 (by omega); have h5 := hb 5 (by omega); have h6 := hb 6 (by omega); have h7 := hb 7 (by omega)
  rcases lt8 hi with rfl | rfl | rfl | rfl | rfl | rfl | rfl | rfl <;> (simp [bytI, wordI, horN]; omega)
theorem word_of_byt (x : Int) (x0 : 0 ≤ x) (x1 : x < 18446744073709551616) : wordI (bytI x) = x := by
  obtain ⟨w0, w1⟩ := word_bd (bytI x) fun i _ => byt_bd x i
  exact byt_ext _ _ w0 w1 x0 x1 fun i hi => word_byt _ (fun i _ => byt_bd x i) i hi
theorem word_congr (a b : Nat → Int) (h : ∀ i, i < 8 → a i = b i) : wordI a = wordI b := by
  simp only [wordI, horN]
  rw [h 0 (by omega), h 1 (by omega), h 2 (by omega), h 3 (by omega), h 4 (by omega), h 5 (by omega), h 6 (by omega), h 7 (by omega)]
end Go.Proofs.Ytkkijcnipjojoaa
