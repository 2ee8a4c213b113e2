/- The closed runs of chapter 9, and its laws on single cursors. -/
import Derived.Test.YtpmmfilodillmaaCursorAll
import Derived.Test.YtpmmfilodillmaaSame
namespace Go.Proofs.Ytpmmfilodillmaa
open Go.RowKit

def KnownIs (w : World) (e : Ending) (w' : World) : Prop := e = .returned (.bool true) ∧ Below w.heap.size w w'

set_option maxHeartbeats 1000000 in
theorem known9_any (w : World) : Calls Try.prog 39 #[] w (KnownIs w) := by
  have h1 : cursRow 2 4 = [0, 2, 1, 3].map (Value.int .u64) := by kernel_rfl
  have h2 : nxt 3 (clampI 2).toNat = 0 := by decide
  have h3 : nxt 0 (clampI 0).toNat = 0 := by decide
  have H1 := Lib.hid h1
  clear h1
  go_enter Try.func39, Try.ntmps39
  go_wp2_with (go_at_call 36; refine (all_at _ 2 4 _ (by decide) (by decide) (by decide)).mono ?_; rintro e w1 ⟨a, c, rfl, hown, hb⟩; rw [H1.out] at hown)
  go_wp2_with (first | (go_at_call 49; refine (same_uint64 _ _ [0, 2, 1, 3] [0, 2, 1, 3] _ (Reads.owns (hown.alloc _)) (Reads.made .u64 _ _ _ _ _ _ rfl rfl (by decide))).mono ?_; rintro e w' ⟨rfl, m, rfl⟩) | (go_at_call 38; refine (next_any _ _ _ (by omega) (by omega)).mono ?_; rintro e w' ⟨rfl, rfl⟩))
  go_ret
  exact ⟨rfl, below_drewN (hb.alloc hb.size _) m⟩

set_option maxHeartbeats 1000000 in
theorem cursorTells_walk (c h d : Int) (w : World) (c0 : 0 ≤ c) (c1 : c < 18446744073709551616) (h0 : 0 ≤ h) (h1 : h < 18446744073709551616) :
    Calls Try.prog 12 #[.int .u64 c, .int .u64 h, .int .i64 d] w (KnownIs w) := by
  have hl := fun d => low_bd c d c0 c1
  go_enter Try.func12, Try.ntmps12
  go_wp2_with (first | (go_at_call 23; refine (within_any _ _ _ _ (by omega) (by omega) (by omega)).mono ?_; rintro e w' ⟨rfl, rfl⟩) | (go_at_call 40; refine (same9_any _ _ _ _ (by first | omega | exact (hl _).1) (by first | omega | exact (hl _).2) (by omega) (by omega)).mono ?_; rintro e w' ⟨rfl, rfl⟩) | (go_at_call 20; refine (rlow_any _ _ _ (by omega) (by omega)).mono ?_; rintro e w' ⟨rfl, rfl⟩) | (go_at_call 39; refine (known9_any _).mono ?_; rintro e w' ⟨rfl, hb⟩))
  go_ret
  exact ⟨rfl, hb⟩

def deepAt (j : Nat) : Int := if j = 0 then 13 else if j = 1 then 15 else if j = 2 then 16 else if j = 3 then 17 else 100
theorem deepAt_gt (j : Nat) : 12 < deepAt j := by unfold deepAt; split <;> (try split) <;> (try split) <;> (try split) <;> omega
def deepRow : Array Value := #[.int .i64 13, .int .i64 15, .int .i64 16, .int .i64 17, .int .i64 100]
theorem deepRow_eq : deepRow = #[.int .i64 13, .int .i64 15, .int .i64 16, .int .i64 17, .int .i64 100] := rfl
theorem deepRow_at (wr : World) (t : TypeId) (m j : Nat) (h : j < 5) : ((wr.alloc (.cells deepRow t)).drewN m).cell? ⟨wr.heap.size, j, none⟩ = some (.int .i64 (deepAt j)) := by
  rcases (by omega : j = 0 ∨ j = 1 ∨ j = 2 ∨ j = 3 ∨ j = 4) with rfl | rfl | rfl | rfl | rfl <;> (rw [World.cell?_drewN]; simp [deepRow, deepAt])

set_option maxHeartbeats 2000000 in
theorem cursorNumbers_walk (w : World) : Calls Try.prog 11 #[] w (KnownIs w) := by
  go_enter Try.func11, Try.ntmps11
  go_wp2
  go_loopw [1] (fun n wr => ∃ k : Nat, k ≤ 8 ∧ n = .int .i64 ((k : Int) - 1) ∧ Below w.heap.size w wr) (fun n _ => (7 - intOf n).toNat)
  case atStart => exact ⟨0, by omega, rfl, Below.refl _ _⟩
  case round =>
    obtain ⟨k, hk, rfl, hb⟩ := hrel
    by_cases hlt : k < 8
    · have hd : decide ((k : Int) - 1 < 7) = true := by simp; omega
      go_wp2
      go_loopw [2] (fun c ws => ∃ j : Nat, j ≤ 70 ∧ c = .int .u64 (j : Int) ∧ Below w.heap.size w ws) (fun c _ => (70 - intOf c).toNat)
      case atStart => exact ⟨0, by omega, rfl, hb⟩
      case round =>
        obtain ⟨j, hj, rfl, hb2⟩ := hrel
        by_cases hjl : j < 70
        · go_wp2_with (go_at_call 40; refine (same9_any _ _ _ _ (by omega) (by omega) (by omega) (by omega)).mono ?_; rintro e w' ⟨rfl, rfl⟩)
          go_roundw
          case rel => exact ⟨j + 1, by omega, by go_num, hb2⟩
          case measure => simp [intOf]; omega
        · go_wp2
          go_roundw
          case rel => exact ⟨k + 1, by omega, by go_num, hb2⟩
          case measure => simp [intOf]; omega
    · go_wp2
      rw [← deepRow_eq]
      have hbw := hb.alloc hb.size (.cells deepRow 3)
      go_loopw [21] (fun i ws => ∃ j : Nat, j ≤ 5 ∧ i = .int .i64 j ∧ IsDrew (wr.alloc (.cells deepRow 3)) ws) (fun i _ => 5 - (intOf i).toNat)
      case atStart => exact ⟨0, by omega, rfl, ⟨0, rfl⟩⟩
      case round =>
        obtain ⟨j, hj, rfl, ⟨m, rfl⟩⟩ := hrel
        by_cases hjl : j < 5
        · have hc := deepRow_at wr 3 m j hjl
          have hda := deepAt_gt j
          generalize hs : deepAt j = dd at *
          clear hs
          go_wp2_with (first | (go_at_call 36; refine (all_deep _ _ (by omega)).mono ?_; rintro e w' ⟨rfl, rfl⟩) | (go_at_call 40; refine (same9_any _ _ _ _ (by omega) (by omega) (by omega) (by omega)).mono ?_; rintro e w' ⟨rfl, rfl⟩))
          go_roundw
          case rel => exact ⟨j + 1, by omega, by go_num, ⟨m, rfl⟩⟩
          case measure => simp [intOf]; omega
        · have hb3 := below_drewN hbw m
          generalize (wr.alloc (.cells deepRow 3)).drewN m = w3 at *
          go_wp2_with (go_at_call 36; refine (all_at 12 12 4096 _ (by decide) (by decide) (by decide)).mono ?_; rintro e w1 ⟨a, c, rfl, _, hb4⟩; go_wp2_with (go_at_call 36; refine (all_at (-3) 0 1 _ (by decide) (by decide) (by decide)).mono ?_; rintro e w2 ⟨a2, c2, rfl, _, hb5⟩; go_wp2_with (go_at_call 39; refine (known9_any _).mono ?_; rintro e w' ⟨rfl, hb6⟩)))
          go_ret
          exact ⟨rfl, ((hb3.trans (hb4.mono hb3.size)).trans (hb5.mono (Nat.le_trans hb3.size hb4.size))).trans (hb6.mono (Nat.le_trans hb3.size (Nat.le_trans hb4.size hb5.size)))⟩
end Go.Proofs.Ytpmmfilodillmaa
