/- Arrays of eight bytes: what bytes and word make of them. -/
import Derived.Test.YtpmmfilodillmaaCtrlLaw
import Derived.Handy
namespace Go.Proofs.Ytpmmfilodillmaa
open Go.RowKit

set_option maxHeartbeats 1000000 in
theorem word_any (b : Nat → Int) (w : World) (hb : ∀ i, i < 8 → 0 ≤ b i ∧ b i < 256) : Calls Try.prog 28 #[.agg (arr b)] w fun e w' => e = .returned (.int .u64 (wordI b)) ∧ Below w.heap.size w w' := by
  have HB := Lib.hid hb
  clear hb
  go_enter Try.func28, Try.ntmps28
  go_wp2
  go_loopw [3, 4] (fun n i wr => ∃ (k : Nat) (z : Int), k ≤ 8 ∧ i = .int .i64 (7 - (k : Int)) ∧ n = .int .u64 z ∧ Hid (z = horN b k) ∧ wr = w.alloc (.cells (arr b) 38)) (fun _ i _ => (1 + intOf i).toNat)
  case atStart => exact ⟨0, 0, by omega, rfl, rfl, rfl, rfl⟩
  case round =>
    obtain ⟨k, z, hk, rfl, rfl, hz, rfl⟩ := hrel
    by_cases hlt : k < 8
    · obtain ⟨b0, b1⟩ := HB.out (7 - k) (by omega)
      obtain ⟨z0, z1⟩ := hor_bd b HB.out k
      rw [← hz.out] at z0 z1
      have z2 : z < 72057594037927936 := by
        have h1 : (256 : Nat) ^ k ≤ 256 ^ 7 := Nat.pow_le_pow_right (by omega) (by omega)
        have h2 : (256 : Int) ^ k = ((256 ^ k : Nat) : Int) := by simp
        rw [h2] at z1
        omega
      have hor := hor_bits z (b (7 - k)) z0 z2 b0 b1
      have hc : (w.alloc (.cells (arr b) 38)).cell? ⟨w.heap.size, 7 - k, none⟩ = some (.int .u8 (b (7 - k))) := by
        simp [arr_at b (7 - k) (by omega)]
      clear z1
      have HN : Hid (z * 256 + b (7 - k) = horN b (k + 1)) := by unfold Hid; rw [horN, hz.out]
      go_wp2
      go_roundw
      case rel => exact ⟨k + 1, z * 256 + b (7 - k), by omega, by go_num, rfl, HN, trivial⟩
      case measure => simp [intOf]; omega
    · obtain rfl : k = 8 := by omega
      go_wp2
      go_ret
      exact ⟨ret_int hz.out, (Below.refl _ _).alloc (Nat.le_refl _) _⟩
set_option maxHeartbeats 1000000 in
theorem bytes_any (x : Int) (w : World) : Calls Try.prog 30 #[.int .u64 x] w fun e w' => e = .returned (.agg (arr (bytI x))) ∧ Below w.heap.size w w' := by
  go_enter Try.func30, Try.ntmps30
  go_wp2
  go_rounds 9
  refine bodyPost_ret (v := .agg (arr (bytI x))) (by simp [results, Try.results30, arr, bytI, go_sem]) rfl ⟨rfl, ?_⟩
  exact ((Below.refl _ _).alloc (Nat.le_refl _) _).alloc (by simp) _
end Go.Proofs.Ytpmmfilodillmaa
