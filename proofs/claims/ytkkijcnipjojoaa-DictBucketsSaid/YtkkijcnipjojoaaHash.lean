/- The contracts of package hash, of its reference, and of small helpers: each call returns what a plain function says and leaves the world alone. -/
import Derived.Test.YtkkijcnipjojoaaProg
import Derived.Test.YtkkijcnipjojoaaPlain6
import Derived.WalkKit
import Derived.WalkLawsBesides
import Derived.WalkSpells
import Derived.Lib.Hide
import Derived.LoopTactic
namespace Go.Proofs.Ytkkijcnipjojoaa
open Go.RowKit

theorem seven_any (h : Int) (w : World) : Calls Try.prog 89 #[.int .u64 h] w fun e w' => e = .returned (.int .u8 (sevenI h)) ∧ w = w' := by
  go_enter Try.func89, Try.ntmps89
  go_wp2
  go_ret
  exact ⟨rfl, rfl⟩

theorem low_any (h n : Int) (w : World) (h0 : 0 ≤ h) (h1 : h < 18446744073709551616) : Calls Try.prog 94 #[.int .u64 h, .int .i64 n] w fun e w' => e = .returned (.int .u64 (lowI h n)) ∧ w = w' := by
  by_cases c1 : n < 0
  · go_enter Try.func94, Try.ntmps94
    go_wp2
    go_ret
    exact ⟨ret_int (low_neg h n h0 h1 c1), rfl⟩
  · by_cases c2 : 16 < n
    · go_enter Try.func94, Try.ntmps94
      go_wp2
      go_ret
      exact ⟨ret_int (low_big h n h0 h1 c2), rfl⟩
    · go_enter Try.func94, Try.ntmps94
      go_wp2
      go_ret
      exact ⟨ret_int (low_mid h n h0 h1 c1 c2), rfl⟩

theorem rlow_any (h n : Int) (w : World) (h0 : 0 ≤ h) (h1 : h < 18446744073709551616) : Calls Try.prog 38 #[.int .u64 h, .int .i64 n] w fun e w' => e = .returned (.int .u64 (lowI h n)) ∧ w = w' := by
  by_cases c1 : n < 0
  · go_enter Try.func38, Try.ntmps38
    go_wp2
    go_ret
    exact ⟨ret_int (low_neg h n h0 h1 c1), rfl⟩
  · by_cases c2 : 16 < n
    · go_enter Try.func38, Try.ntmps38
      go_wp2
      go_ret
      exact ⟨ret_int (low_big h n h0 h1 c2), rfl⟩
    · go_enter Try.func38, Try.ntmps38
      go_wp2
      go_ret
      exact ⟨ret_int (low_mid h n h0 h1 c1 c2), rfl⟩

set_option maxHeartbeats 400000 in
theorem hash_any (seed : Int) (s : ByteArray) (w : World) (hs : s.size ≤ maxLen) :
    Calls Try.prog 63 #[.int .u64 seed, .string s] w fun e w' => e = .returned (.int .u64 (hof seed s.data.toList)) ∧ w = w' := by
  unfold maxLen at hs
  go_enter Try.func63, Try.ntmps63
  go_wp2
  go_loop [5, 11] (fun h i => ∃ k : Nat, k ≤ s.size ∧ i = .int .i64 k ∧ h = .int .u64 (hfold seed (s.data.toList.take k))) (fun _ i => s.size - (intOf i).toNat)
  case atStart => exact ⟨0, Nat.zero_le _, rfl, rfl⟩
  case round =>
    obtain ⟨k, hk, rfl, rfl⟩ := hrel
    by_cases hlt : k < s.size
    · have HS : Hid (hfold seed (s.data.toList.take (k + 1)) = hstep (hfold seed (s.data.toList.take k)) s[k]) := by rw [take_snoc s k hlt]; exact hfold_snoc _ _ _
      go_wp2
      all_goals
        go_round
        case rel => exact ⟨k + 1, by omega, by go_num, by rw [HS.out, hstep]⟩
        case measure => simp [intOf]; omega
    · have HT : Hid (s.data.toList.take k = s.data.toList) := List.take_of_length_le (by simp; omega)
      go_wp2
      go_ret
      exact ⟨ret_int (by rw [HT.out, hof, hend]), rfl⟩

set_option maxHeartbeats 400000 in
theorem rhash_any (seed : Int) (s : ByteArray) (w : World) (hs : s.size ≤ maxLen) :
    Calls Try.prog 29 #[.int .u64 seed, .string s] w fun e w' => e = .returned (.int .u64 (hof seed s.data.toList)) ∧ w = w' := by
  unfold maxLen at hs
  go_enter Try.func29, Try.ntmps29
  go_wp2
  go_loop [5, 6] (fun h i => ∃ k : Nat, k ≤ s.size ∧ i = .int .i64 k ∧ h = .int .u64 (hfold seed (s.data.toList.take k))) (fun _ i => s.size - (intOf i).toNat)
  case atStart => exact ⟨0, Nat.zero_le _, rfl, rfl⟩
  case round =>
    obtain ⟨k, hk, rfl, rfl⟩ := hrel
    by_cases hlt : k < s.size
    · have HS : Hid (hfold seed (s.data.toList.take (k + 1)) = hstep (hfold seed (s.data.toList.take k)) s[k]) := by rw [take_snoc s k hlt]; exact hfold_snoc _ _ _
      go_wp2
      all_goals
        go_round
        case rel => exact ⟨k + 1, by omega, by go_num, by rw [HS.out, hstep]⟩
        case measure => simp [intOf]; omega
    · have HT : Hid (s.data.toList.take k = s.data.toList) := List.take_of_length_le (by simp; omega)
      go_wp2
      go_ret
      exact ⟨ret_int (by rw [HT.out, hof, hend]), rfl⟩

theorem cut_any (s : ByteArray) (n : Nat) (w : World) :
    Calls Try.prog 59 #[.string s, .int .i64 n] w fun e w' => e = .returned (.string (cutB s n)) ∧ w = w' := by
  by_cases c : n < s.size
  · go_enter Try.func59, Try.ntmps59
    go_wp2
    go_ret
    exact ⟨by simp [cutB, c], rfl⟩
  · go_enter Try.func59, Try.ntmps59
    go_wp2
    go_ret
    exact ⟨by simp [cutB, c], rfl⟩

theorem within_any (n lo hi : Int) (w : World) (h3 : 0 ≤ lo) (h4 : lo ≤ hi) (h5 : hi < 4611686018427387904) :
    Calls Try.prog 16 #[.int .i64 n, .int .i64 lo, .int .i64 hi] w fun e w' => e = .returned (.int .i64 (within n lo hi)) ∧ w = w' := by
  have hb := tmod_bd n (hi - lo + 1) (by omega)
  obtain ⟨hb1, hb2⟩ := hb
  by_cases c : n.tmod (hi - lo + 1) < 0
  · have H : Hid (lo + (n.tmod (hi - lo + 1) + hi - lo + 1) = within n lo hi) := within_neg n lo hi h4 c
    go_enter Try.func16, Try.ntmps16
    go_wp2
    go_ret
    exact ⟨ret_int H.out, rfl⟩
  · have H : Hid (lo + n.tmod (hi - lo + 1) = within n lo hi) := within_pos n lo hi h4 c
    go_enter Try.func16, Try.ntmps16
    go_wp2
    go_ret
    exact ⟨ret_int H.out, rfl⟩
end Go.Proofs.Ytkkijcnipjojoaa
