/- A word that is built slot for slot, in either order: plain laws. -/
import Derived.Test.YtkkijcnipjojoaaPlainS
namespace Go.Proofs.Ytkkijcnipjojoaa
open Go.RowKit

theorem arr_set (f : Nat → Int) (k : Nat) (c : Int) (hk : k < 8) : (arr f).setIfInBounds k (.int .u8 c) = arr (fun i => if i = k then c else f i) := by
  rcases lt8 hk with rfl | rfl | rfl | rfl | rfl | rfl | rfl | rfl <;> rfl

def newI : Int := 9259542123273814144
theorem newI_bd : 0 ≤ newI ∧ newI < 18446744073709551616 := by decide
def xsN (d : Nat → Int) : Nat → Int
  | 0 => newI
  | k + 1 => putI (xsN d k) k (d k)
def jN (t : Int) (k : Nat) : Int := ((k : Int) * 3 + t) % 8
def ysN (d : Nat → Int) (t : Int) : Nat → Int
  | 0 => newI
  | k + 1 => putI (ysN d t k) (jN t k) (d (jN t k).toNat)

theorem put_byt (x i c : Int) (j : Nat) (hj : j < 8) (i0 : 0 ≤ i) (i1 : i < 8) (c0 : 0 ≤ c) (c1 : c < 256) : bytI (putI x i c) j = if (j : Int) = i then c else bytI x j := by
  rw [putI, if_pos ⟨i0, i1⟩]
  by_cases h : (j : Int) = i
  · rw [if_pos h, ← h, Int.toNat_natCast, byt_set_same _ _ _ hj c0 c1]
  · rw [if_neg h, byt_set_other _ _ _ _ (by omega) hj (by omega) c0 c1]

/-- The word with a byte set, slot for slot. -/
theorem put_word_in (x i c : Int) (r0 : 0 ≤ i) (r1 : i < 8) (x0 : 0 ≤ x) (x1 : x < 18446744073709551616) (c0 : 0 ≤ c) (c1 : c < 256) :
    putI x i c = wordI (fun q => if q = i.toNat then c else bytI x q) := by
  have hF : ∀ q, q < 8 → 0 ≤ (fun q => if q = i.toNat then c else bytI x q) q ∧ (fun q => if q = i.toNat then c else bytI x q) q < 256 := fun q _ => by
    show 0 ≤ (if q = i.toNat then c else bytI x q) ∧ (if q = i.toNat then c else bytI x q) < 256
    split
    · exact ⟨c0, c1⟩
    · exact byt_bd x q
  obtain ⟨p0, p1⟩ := put_bd x i c x0 x1 c0 c1
  obtain ⟨w0, w1⟩ := word_bd _ hF
  refine byt_ext _ _ p0 p1 w0 w1 fun j hj => ?_
  rw [word_byt _ hF j hj, put_byt x i c j hj r0 r1 c0 c1]
  show _ = if j = i.toNat then c else bytI x j
  by_cases e : j = i.toNat
  · rw [if_pos e, if_pos (by omega)]
  · rw [if_neg e, if_neg (by omega)]
def cleanB (x : Int) (i : Nat) : Int := if bytI x i = 254 then 128 else bytI x i
theorem cleanB_bd (x : Int) (i : Nat) : 0 ≤ cleanB x i ∧ cleanB x i < 256 := by
  have := byt_bd x i
  unfold cleanB; split <;> omega
theorem clean_word (x : Int) (f : Nat → Int) (hf : ∀ i, i < 8 → f i = cleanB x i) (x0 : 0 ≤ x) (x1 : x < 18446744073709551616) : wordI f = cleanI x := by
  obtain ⟨d0, d1⟩ := clean_bd x x0 x1
  have hB : ∀ i, i < 8 → 0 ≤ f i ∧ f i < 256 := fun i hi => by rw [hf i hi]; exact cleanB_bd x i
  obtain ⟨w0, w1⟩ := word_bd f hB
  refine byt_ext _ _ w0 w1 d0 d1 fun j hj => ?_
  rw [word_byt f hB j hj, hf j hj, clean_byt x j hj]; rfl

variable (d : Nat → Int) (hd : ∀ i, i < 8 → 0 ≤ d i ∧ d i < 256)
include hd

theorem xsN_bd (k : Nat) (hk : k ≤ 8) : 0 ≤ xsN d k ∧ xsN d k < 18446744073709551616 := by
  induction k with
  | zero => exact newI_bd
  | succ k ih =>
    obtain ⟨a, b⟩ := ih (by omega)
    obtain ⟨c, e⟩ := hd k (by omega)
    exact put_bd _ _ _ a b c e
theorem ysN_bd (t : Int) (k : Nat) : 0 ≤ ysN d t k ∧ ysN d t k < 18446744073709551616 := by
  induction k with
  | zero => exact newI_bd
  | succ k ih =>
    obtain ⟨a, b⟩ := ih
    obtain ⟨c, e⟩ := hd (jN t k).toNat (by unfold jN; omega)
    exact put_bd _ _ _ a b c e
theorem xsN_byt (k : Nat) (hk : k ≤ 8) (j : Nat) (hj : j < k) : bytI (xsN d k) j = d j := by
  induction k with
  | zero => omega
  | succ k ih =>
    obtain ⟨c, e⟩ := hd k (by omega)
    rw [xsN, put_byt _ _ _ j (by omega) (by omega) (by omega) c e]
    by_cases h : (j : Int) = k
    · rw [if_pos h, show j = k from by omega]
    · rw [if_neg h]; exact ih (by omega) (by omega)
theorem ysN_byt (t : Int) (k : Nat) (j : Nat) (hj : j < 8) (h : ∃ i, i < k ∧ jN t i = (j : Int)) : bytI (ysN d t k) j = d j := by
  induction k with
  | zero => obtain ⟨i, hi, _⟩ := h; omega
  | succ k ih =>
    have j0 : 0 ≤ jN t k := by unfold jN; omega
    have j1 : jN t k < 8 := by unfold jN; omega
    obtain ⟨c, e⟩ := hd (jN t k).toNat (by omega)
    rw [ysN, put_byt _ _ _ j hj j0 j1 c e]
    by_cases hq : (j : Int) = jN t k
    · rw [if_pos hq, ← hq, Int.toNat_natCast]
    · rw [if_neg hq]
      obtain ⟨i, hi, he⟩ := h
      refine ih ⟨i, ?_, he⟩
      apply Nat.lt_of_le_of_ne (by omega)
      intro e2; subst e2; exact hq he.symm
theorem xsN_word : xsN d 8 = wordI d := by
  obtain ⟨a, b⟩ := xsN_bd d hd 8 (by omega)
  obtain ⟨c, e⟩ := word_bd d hd
  exact byt_ext _ _ a b c e fun i hi => by rw [xsN_byt d hd 8 (by omega) i hi, word_byt d hd i hi]
theorem ysN_word (t : Int) (t0 : 0 ≤ t) (t1 : t ≤ 7) : ysN d t 8 = wordI d := by
  obtain ⟨a, b⟩ := ysN_bd d hd t 8
  obtain ⟨c, e⟩ := word_bd d hd
  refine byt_ext _ _ a b c e fun i hi => ?_
  have all : ∀ t : Nat, t < 8 → ∀ j : Nat, j < 8 → ∃ i, i < 8 ∧ (i * 3 + t) % 8 = j := by decide
  rw [word_byt d hd i hi, ysN_byt d hd t 8 i hi]
  obtain ⟨q, h1, h2⟩ := all t.toNat (by omega) i hi
  exact ⟨q, h1, by unfold jN; omega⟩
end Go.Proofs.Ytkkijcnipjojoaa
