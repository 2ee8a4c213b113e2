/- CursorDeeper: what was seen ahead of a cursor at a depth is what is seen at each greater one. -/
import Derived.Test.YtpmmfilodillmaaCursorLaw
namespace Go.Proofs.Ytpmmfilodillmaa
open Go.RowKit

set_option maxRecDepth 100000 in
set_option maxHeartbeats 4000000 in
theorem cursorDeeper_walk (c h d more : Int) (w : World) (c0 : 0 ≤ c) (c1 : c < 18446744073709551616) (h0 : 0 ≤ h) (h1 : h < 18446744073709551616) :
    Calls Try.prog 13 #[.int .u64 c, .int .u64 h, .int .i64 d, .int .i64 more] w (KnownIs w) := by
  obtain ⟨a0, a1⟩ := within_bd d 0 16 (by omega)
  generalize hk : within d 0 16 = k at *
  obtain ⟨b0, b1⟩ := within_bd more k 16 (by omega)
  generalize hm : within more k 16 = m at *
  have L1 := deeper_same c h k m c0 a0 b0 b1
  have X := low_bd c k c0 c1
  obtain ⟨x0, x1⟩ := X
  have hxt := (low_toNat c k c0 a0 a1)
  generalize hx : lowI c k = x at *
  have xl : x.toNat < 2 ^ k.toNat := by rw [hxt.1]; exact Nat.mod_lt _ (Nat.two_pow_pos _)
  have L2 := not_ahead h k x h0 a0 a1
  have L3 := behind_next x h k x0 xl h0 a0 a1
  have hb := trn_bd (trn x.toNat k.toNat + 1) k.toNat (by omega)
  have hcl := clamp_in k a0 a1
  have HK := Lib.hid hk
  have HM := Lib.hid hm
  have HX := Lib.hid hx
  have HC := Lib.hid hcl
  change (nxt x.toNat k.toNat : Int) < 65536 at hb
  generalize hn : nxt x.toNat k.toNat = n at *
  have HN := Lib.hid hn
  clear hk hm hx hcl hxt xl hn
  generalize hs : seenB x h k = s at *
  have HS := Lib.hid hs
  generalize hs2 : seenB x h m = s2 at *
  have HS2 := Lib.hid hs2
  generalize hs3 : seenB (n : Int) h k = s3 at *
  have HS3 := Lib.hid hs3
  obtain ⟨y0, y1⟩ := low_bd h k h0 h1
  generalize hy : lowI h k = y at *
  have HY := Lib.hid hy
  clear hs hs2 hs3 hy
  obtain rfl : s = s2 := L1
  have ARM : s = true → y ≠ x := fun h1 h2 => by rw [L2 h2] at h1; simp at h1
  by_cases hz : n = 0
  · have e3 : ((n : Int) == 0) = true := by simp [hz]
    clear L3 hz L2
    by_cases hin : y = x
    · obtain rfl : s = false := by cases s with | false => rfl | true => exact absurd hin (ARM rfl)
      subst hin
      clear ARM
      go_enter Try.func13, Try.ntmps13
      go_wp2_with (first | (go_at_call 23; refine (within_any _ _ _ _ (by omega) (by omega) (by omega)).mono ?_; rintro e w' ⟨rfl, rfl⟩; first | rw [HK.out] | rw [HM.out]) | (go_at_call 37; refine (bucket_any _ _ _ (by omega) (by omega)).mono ?_; rintro e w' ⟨rfl, rfl⟩; first | rw [HX.out] | rw [HY.out]) | (go_at_call 41; refine (seen_any _ _ _ _ (by omega) (by omega) (by omega) (by omega)).mono ?_; rintro e w' ⟨rfl, rfl⟩; first | rw [HS.out] | rw [HS2.out] | rw [HS3.out]) | (go_at_call 38; refine (next_any _ _ _ (by omega) (by omega)).mono ?_; rintro e w' ⟨rfl, rfl⟩; rw [HC.out, HN.out]) | (go_at_call 39; refine (known9_any _).mono ?_; rintro e w' ⟨rfl, hb6⟩))
      go_ret
      exact ⟨rfl, hb6⟩
    · have e2 : (y == x) = false := by simp [hin]
      clear hin ARM
      cases s
      all_goals
        go_enter Try.func13, Try.ntmps13
        go_wp2_with (first | (go_at_call 23; refine (within_any _ _ _ _ (by omega) (by omega) (by omega)).mono ?_; rintro e w' ⟨rfl, rfl⟩; first | rw [HK.out] | rw [HM.out]) | (go_at_call 37; refine (bucket_any _ _ _ (by omega) (by omega)).mono ?_; rintro e w' ⟨rfl, rfl⟩; first | rw [HX.out] | rw [HY.out]) | (go_at_call 41; refine (seen_any _ _ _ _ (by omega) (by omega) (by omega) (by omega)).mono ?_; rintro e w' ⟨rfl, rfl⟩; first | rw [HS.out] | rw [HS2.out] | rw [HS3.out]) | (go_at_call 38; refine (next_any _ _ _ (by omega) (by omega)).mono ?_; rintro e w' ⟨rfl, rfl⟩; rw [HC.out, HN.out]) | (go_at_call 39; refine (known9_any _).mono ?_; rintro e w' ⟨rfl, hb6⟩))
        go_ret
        exact ⟨rfl, hb6⟩
  · have e3 : ((n : Int) == 0) = false := by simp; omega
    have L4 := L3 hz
    clear L3 hz L2
    subst L4
    by_cases hin : y = x
    · obtain rfl : s = false := by cases s with | false => rfl | true => exact absurd hin (ARM rfl)
      subst hin
      simp only [decide_true, Bool.or_true] at HS3
      clear ARM
      go_enter Try.func13, Try.ntmps13
      go_wp2_with (first | (go_at_call 23; refine (within_any _ _ _ _ (by omega) (by omega) (by omega)).mono ?_; rintro e w' ⟨rfl, rfl⟩; first | rw [HK.out] | rw [HM.out]) | (go_at_call 37; refine (bucket_any _ _ _ (by omega) (by omega)).mono ?_; rintro e w' ⟨rfl, rfl⟩; first | rw [HX.out] | rw [HY.out]) | (go_at_call 41; refine (seen_any _ _ _ _ (by omega) (by omega) (by omega) (by omega)).mono ?_; rintro e w' ⟨rfl, rfl⟩; first | rw [HS.out] | rw [HS2.out] | rw [HS3.out]) | (go_at_call 38; refine (next_any _ _ _ (by omega) (by omega)).mono ?_; rintro e w' ⟨rfl, rfl⟩; rw [HC.out, HN.out]) | (go_at_call 39; refine (known9_any _).mono ?_; rintro e w' ⟨rfl, hb6⟩))
      go_ret
      exact ⟨rfl, hb6⟩
    · have e2 : (y == x) = false := by simp [hin]
      simp only [hin, decide_false, Bool.or_false] at HS3
      clear hin ARM
      cases s
      all_goals
        go_enter Try.func13, Try.ntmps13
        go_wp2_with (first | (go_at_call 23; refine (within_any _ _ _ _ (by omega) (by omega) (by omega)).mono ?_; rintro e w' ⟨rfl, rfl⟩; first | rw [HK.out] | rw [HM.out]) | (go_at_call 37; refine (bucket_any _ _ _ (by omega) (by omega)).mono ?_; rintro e w' ⟨rfl, rfl⟩; first | rw [HX.out] | rw [HY.out]) | (go_at_call 41; refine (seen_any _ _ _ _ (by omega) (by omega) (by omega) (by omega)).mono ?_; rintro e w' ⟨rfl, rfl⟩; first | rw [HS.out] | rw [HS2.out] | rw [HS3.out]) | (go_at_call 38; refine (next_any _ _ _ (by omega) (by omega)).mono ?_; rintro e w' ⟨rfl, rfl⟩; rw [HC.out, HN.out]) | (go_at_call 39; refine (known9_any _).mono ?_; rintro e w' ⟨rfl, hb6⟩))
        go_ret
        exact ⟨rfl, hb6⟩
end Go.Proofs.Ytpmmfilodillmaa
