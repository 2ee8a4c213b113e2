/- HashNumbers: the closed sentence of chapter 6. -/
import Derived.Test.YtpmmfilodillmaaHashLaw
namespace Go.Proofs.Ytpmmfilodillmaa
open Go.RowKit

def seedAt (j : Nat) : Int := if j = 0 then 0 else if j = 1 then 1 else if j = 2 then 9223372036854775808 else 18446744073709551615
def seedRow : Array Value := #[.int .u64 0, .int .u64 1, .int .u64 9223372036854775808, .int .u64 18446744073709551615]
theorem seedRow_eq : seedRow = #[.int .u64 0, .int .u64 1, .int .u64 9223372036854775808, .int .u64 18446744073709551615] := rfl
theorem seedRow_at (wr : World) (t : TypeId) (m j : Nat) (h : j < 4) : ((wr.alloc (.cells seedRow t)).drewN m).cell? ⟨wr.heap.size, j, none⟩ = some (.int .u64 (seedAt j)) := by
  rcases (by omega : j = 0 ∨ j = 1 ∨ j = 2 ∨ j = 3) with rfl | rfl | rfl | rfl <;> (rw [World.cell?_drewN]; simp [seedRow, seedAt])

set_option maxHeartbeats 1000000 in
theorem hashNumbers_walk (w : World) :
    Calls Try.prog 3 #[] w fun e w' => e = .returned (.bool true) ∧ Below w.heap.size w w' := by
  go_enter Try.func3, Try.ntmps3
  go_wp2
  go_loopw [1] (fun n wr => ∃ k : Nat, k ≤ 40 ∧ n = .int .i64 k ∧ Below w.heap.size w wr) (fun n _ => 40 - (intOf n).toNat)
  case atStart => exact ⟨0, by omega, rfl, Below.refl _ _⟩
  case round =>
    obtain ⟨k, hk, rfl, hb⟩ := hrel
    by_cases hlt : k < 40
    · have hd : decide ((k : Int) < 40) = true := by simp; omega
      go_wp2
      rw [← seedRow_eq]
      generalize hx : ByteArray.extract _ 0 k = x
      have hxs : x.size ≤ maxLen := by subst hx; simp; unfold maxLen; omega
      clear hx
      go_loopw [15] (fun i ws => ∃ j : Nat, j ≤ 4 ∧ i = .int .i64 j ∧ IsDrew (wr.alloc (.cells seedRow 22)) ws) (fun i _ => 4 - (intOf i).toNat)
      case atStart => exact ⟨0, by omega, rfl, ⟨0, rfl⟩⟩
      case round =>
        obtain ⟨j, hj, rfl, ⟨m, rfl⟩⟩ := hrel
        by_cases hjl : j < 4
        · have hc := seedRow_at wr 22 m j hjl
          generalize hs : seedAt j = sd at *
          clear hs
          have z3 : Hid (sevenI (hof sd x.data.toList) = hof sd x.data.toList / 144115188075855872 % 256) := rfl
          have z4 : (sevenI (hof sd x.data.toList) != hof sd x.data.toList / 144115188075855872 % 256) = false := by rw [z3.out]; simp
          clear z3
          go_wp2_with (first | (go_at_call 16; refine (rhash_any _ _ _ hxs).mono ?_; rintro e w' ⟨rfl, rfl⟩) | (go_at_call 17; refine (hash_any _ _ _ hxs).mono ?_; rintro e w' ⟨rfl, rfl⟩) | (go_at_call 18; refine (seven_any _ _).mono ?_; rintro e w' ⟨rfl, rfl⟩))
          go_roundw
          case rel => exact ⟨j + 1, by omega, by go_num, ⟨m, rfl⟩⟩
          case measure => simp [intOf]; omega
        · go_wp2
          go_roundw
          case rel => exact ⟨k + 1, by omega, by go_num, below_drewN (hb.alloc hb.size _) m⟩
          case measure => simp [intOf]; omega
    · go_wp2
      go_loopw [6] (fun n ws => ∃ j : Nat, j ≤ 20 ∧ n = .int .i64 ((j : Int) - 1) ∧ Below w.heap.size w ws) (fun n _ => (19 - intOf n).toNat)
      case atStart => exact ⟨0, by omega, rfl, hb⟩
      case round =>
        obtain ⟨j, hj, rfl, hb2⟩ := hrel
        by_cases hjl : j < 20
        · go_wp2_with (first | (go_at_call 19; refine (low_any _ _ _ (by omega) (by omega)).mono ?_; rintro e w' ⟨rfl, rfl⟩) | (go_at_call 20; refine (rlow_any _ _ _ (by omega) (by omega)).mono ?_; rintro e w' ⟨rfl, rfl⟩))
          go_roundw
          case rel => exact ⟨j + 1, by omega, by go_num, hb2⟩
          case measure => simp [intOf]; omega
        · go_wp2_with (first | (go_at_call 21; refine (known6_any _).mono ?_; rintro e w' ⟨rfl, rfl⟩))
          go_ret
          exact ⟨rfl, hb2⟩
end Go.Proofs.Ytpmmfilodillmaa
