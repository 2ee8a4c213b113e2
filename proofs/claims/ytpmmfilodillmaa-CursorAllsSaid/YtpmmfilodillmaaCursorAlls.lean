/- CursorAlls: the cursors of a depth are all its buckets, each once, and lead back to 0. -/
import Derived.Test.YtpmmfilodillmaaCursorLaw
namespace Go.Proofs.Ytpmmfilodillmaa
open Go.RowKit

theorem info_bool : (Try.prog.info? 4).map (fun i => (i.zero, i.size, i.bytes)) = some (some (.bool false), 1, 1) := by kernel_rfl

/-- Which buckets have come after i cursors. -/
def cameRow (k n i : Nat) : List Value := (List.range n).map fun b => .bool (decide (trn b k < i))
theorem cameRow_zero (k n : Nat) : (madeCells (Value.bool false).cells (n * 1)).toList = cameRow k n 0 := by
  show (madeCells #[Value.bool false] (n * 1)).toList = _
  rw [toList_madeCells_one, Nat.mul_one]
  apply List.ext_getElem
  · simp [cameRow]
  · intro j h1 h2; simp [cameRow]
theorem cameRow_len (k n i : Nat) : (cameRow k n i).length = n := by simp [cameRow]
theorem cameRow_set (k i : Nat) (hi : i < 2 ^ k) : (cameRow k (2 ^ k) i).set (trn i k) (.bool true) = cameRow k (2 ^ k) (i + 1) := by
  apply List.ext_getElem
  · simp [cameRow]
  · intro j h1 h2
    have hj : j < 2 ^ k := by simpa [cameRow] using h2
    rw [List.getElem_set]
    simp only [cameRow, List.getElem_map, List.getElem_range]
    by_cases e : trn i k = j
    · rw [if_pos e, ← e, trn_trn, Nat.mod_eq_of_lt hi]; simp
    · rw [if_neg e]
      congr 1
      rw [Bool.eq_iff_iff]
      simp only [decide_eq_true_eq]
      constructor
      · intro h; omega
      · intro h
        apply Nat.lt_of_le_of_ne (by omega)
        intro h3
        apply e
        rw [← h3, trn_trn, Nat.mod_eq_of_lt hj]
theorem cameRow_at (k n i b : Nat) (hb : b < n) : (cameRow k n i)[b]? = some (.bool (decide (trn b k < i))) := by simp [cameRow, hb]
theorem cursRow_at (k n i : Nat) (hi : i < n) : (cursRow k n)[i]? = some (.int .u64 (trn i k : Nat)) := by simp [cursRow, hi]

def AllSome (k n : Nat) (w : World) (e : Ending) (w' : World) : Prop :=
  ∃ g c, e = .returned (.slice (some ⟨g, 0, none⟩) n c) ∧ w'.ownsRow w.heap.size 22 1 (.slice (some ⟨g, 0, none⟩) n c) n (cursRow k n) ∧ Below w.heap.size w w' ∧ w'.cell? ⟨g, 0, none⟩ = some (.int .u64 0) ∧ g < w'.heap.size
theorem all_some (d : Int) (k n : Nat) (w : World) (hk : clampI d = k) (hn : 2 ^ k = n) (hd : k ≤ 12) : Calls Try.prog 36 #[.int .i64 d] w (AllSome k n w) := by
  refine (all_at d k n w hk hn hd).mono fun e w' h => ?_
  obtain ⟨a, c, rfl, hown, hb⟩ := h
  have hn1 : 1 ≤ n := by rw [← hn]; exact Nat.one_le_two_pow
  obtain ⟨g, rfl⟩ : ∃ g, a = some ⟨g, 0, none⟩ := by
    obtain ⟨_, h | ⟨g, cap, cur, hv, _⟩⟩ := hown
    · omega
    · simp at hv; exact ⟨g, hv.1⟩
  have hc := hown.cellAt 0 (by omega)
  rw [cursRow_at k n 0 (by omega), trn_zero] at hc
  exact ⟨g, c, rfl, hown, hb, hc, (hown.lt g rfl).2⟩

set_option maxRecDepth 100000 in
set_option maxHeartbeats 4000000 in
theorem cursorAlls_walk (d : Int) (w : World) : Calls Try.prog 10 #[.int .i64 d] w (KnownIs w) := by
  obtain ⟨a0, a1⟩ := within_bd d 0 11 (by omega)
  generalize hk : within d 0 11 = k' at *
  obtain ⟨k, rfl⟩ := Int.eq_ofNat_of_zero_le a0
  have HK := Lib.hid hk
  have hcl := clamp_in (k : Int) a0 (by omega)
  have HC := Lib.hid hcl
  have hpw := wrap_pow64 (k : Int) a0 (by omega)
  rw [Int.toNat_natCast] at hpw
  have hp : 2 ^ k ≤ 2048 := by have : 2 ^ k ≤ 2 ^ 11 := Nat.pow_le_pow_right (by omega) (by omega); omega
  have hp1 : 1 ≤ 2 ^ k := Nat.one_le_two_pow
  have HCS := Lib.hid (cameRow_set k)
  have HCA := Lib.hid (cameRow_at k (2 ^ k))
  have HUA := Lib.hid (cursRow_at k (2 ^ k))
  have HC0 := Lib.hid (cameRow_zero k (2 ^ k))
  obtain ⟨i0, hi, hz0, hz1, hz2⟩ := info_parts info_bool
  generalize hT : 2 ^ k = T at *
  have HT := Lib.hid hT
  clear hT hk hcl
  have hne : decide ((T : Int) = (T : Int)) = true := by simp
  go_enter Try.func10, Try.ntmps10
  have hp0 : 0 < T := hp1
  go_wp2_with (first | (go_at_call 23; refine (within_any _ _ _ _ (by omega) (by omega) (by omega)).mono ?_; rintro e w' ⟨rfl, rfl⟩; rw [HK.out]) | (go_at_call 36; refine (all_some _ k T _ HC.out HT.out (by omega)).mono ?_; rintro e w1 ⟨g, c, rfl, hown, hb, hc0, hgw⟩; have hbs := hb.size) | (at_make; refine wpList_make_full _ rfl _ _ 51 rfl w.heap.size 4 i0 (.bool false) 1 Try.underlying51 hi hz0 hz1 _ _ _ _ T rfl rfl rfl rfl (by rw [hz2]; omega) (by unfold maxLen; omega) hbs ?_; intro w2 hown2 hgrow))
  rw [HC0.out] at hown2
  have hb2 : Below w.heap.size w w2 := hb.grown hgrow hbs (fun q hq => by cases hq)
  have hown1 := hown.kept hgrow (Or.inr (by simp [Value.ownBlock]))
  generalize hg2 : w1.heap.size = g2 at *
  have hgb : w.heap.size ≤ g2 := hbs
  clear hown hb hc0 hbs hgrow hg2 HC0
  go_loopw [6] (fun i wr => ∃ j : Nat, j ≤ T ∧ i = .int .i64 j ∧ wr.ownsRow w.heap.size 22 1 (.slice (some ⟨g, 0, none⟩) T c) T (cursRow k T) ∧ wr.ownsRow w.heap.size 4 1 (.slice (some ⟨g2, 0, none⟩) T T) T (cameRow k T j) ∧ Below w.heap.size w wr) (fun i _ => T - (intOf i).toNat)
  case atStart => exact ⟨0, by omega, rfl, hown1, hown2, hb2⟩
  case round =>
    clear hown1 hown2 hb2
    obtain ⟨j, hj, rfl, ho1, ho2, hbw⟩ := hrel
    by_cases hlt : j < T
    · have c1 := ho1.cellAt j (by omega)
      rw [HUA.out j hlt] at c1
      have hzl := trn_lt j k
      rw [HT.out] at hzl
      have c2 := ho2.cellAt (trn j k) (by omega)
      rw [HCA.out j _ hzl, trn_trn, HT.out, Nat.mod_eq_of_lt hlt] at c2
      simp only [Nat.lt_irrefl, decide_false] at c2
      have c3 := ho2.frozenAt (trn j k)
      have hs := ho2.stored (trn j k) (.bool true)
      rw [HCS.out j hlt] at hs
      have z0 : (0 : Int) ≤ (trn j k : Nat) := by omega
      have z1 : ((trn j k : Nat) : Int) < (T : Int) := by omega
      have HL : Hid (lowI (trn j k : Nat) (k : Int) = (trn j k : Nat)) := by
        unfold Hid
        rw [(low_toNat _ _ z0 a0 (by omega)).2, Int.toNat_natCast, Int.toNat_natCast, HT.out, Nat.mod_eq_of_lt hzl]
      have HN : Hid (((nxt ((trn j k : Nat) : Int).toNat k : Nat) : Int) = (trn (j + 1) k : Nat)) := by unfold Hid; rw [Int.toNat_natCast, nxt_trn _ _ (by rw [HT.out]; exact hlt)]
      have hge : decide ((T : Int) ≤ ((trn j k : Nat) : Int)) = false := by simp; omega
      have hzt : ((trn j k : Nat) : Int).toNat = trn j k := Int.toNat_natCast _
      rw [← hzt] at c2 c3 hs
      have hgn : ¬ g = g2 := by omega
      by_cases hl : j + 1 < T
      · have c4 := ho1.cellAt (j + 1) (by omega)
        rw [HUA.out (j + 1) hl] at c4
        have hcond : decide ((j : Int) + 1 < (T : Int)) = true := by simp; omega
        generalize hz : ((trn j k : Nat) : Int) = z at *
        generalize hz2 : ((trn (j + 1) k : Nat) : Int) = z2 at *
        clear hz hz2 hzt hzl
        go_wp2_with (first | (go_at_call 37; refine (bucket_any _ _ _ (by omega) (by omega)).mono ?_; rintro e w' ⟨rfl, rfl⟩; rw [HL.out]) | (go_at_call 38; refine (next_any _ _ _ (by omega) (by omega)).mono ?_; rintro e w' ⟨rfl, rfl⟩; rw [HC.out, Int.toNat_natCast, HN.out]))
        go_roundw
        case rel => exact ⟨j + 1, by omega, by go_num, ho1.kept hs.2 (Or.inr (by simpa [Value.ownBlock] using hgn)), hs.1, hbw.setCell hgb _⟩
        case measure => simp [intOf]; omega
      · have hl2 : j + 1 = T := by omega
        have hcond : decide ((j : Int) + 1 < (T : Int)) = false := by simp; omega
        have hz3 : ((trn (j + 1) k : Nat) : Int) = 0 := by rw [hl2, ← HT.out, trn_full]; rfl
        rw [hz3] at HN
        generalize hz : ((trn j k : Nat) : Int) = z at *
        clear hz hz3 hzt hzl hl2
        go_wp2_with (first | (go_at_call 37; refine (bucket_any _ _ _ (by omega) (by omega)).mono ?_; rintro e w' ⟨rfl, rfl⟩; rw [HL.out]) | (go_at_call 38; refine (next_any _ _ _ (by omega) (by omega)).mono ?_; rintro e w' ⟨rfl, rfl⟩; rw [HC.out, Int.toNat_natCast, HN.out]))
        go_roundw
        case rel => exact ⟨j + 1, by omega, by go_num, ho1.kept hs.2 (Or.inr (by simpa [Value.ownBlock] using hgn)), hs.1, hbw.setCell hgb _⟩
        case measure => simp [intOf]; omega
    · obtain rfl : j = T := by omega
      have hcond : decide ((j : Int) < (j : Int)) = false := by simp
      go_wp2_with (go_at_call 39; refine (known9_any _).mono ?_; rintro e w' ⟨rfl, hb6⟩)
      go_ret
      exact ⟨rfl, hbw.trans (hb6.mono hbw.size)⟩
end Go.Proofs.Ytpmmfilodillmaa
