/- CursorOrders: what was seen ahead of one cursor is seen ahead of each later one; a bucket is not seen ahead of itself. -/
import Derived.Test.YtpmmfilodillmaaCursorLaw
namespace Go.Proofs.Ytpmmfilodillmaa
open Go.RowKit

set_option maxRecDepth 100000 in
set_option maxHeartbeats 4000000 in
theorem cursorOrders_walk (c h d steps : Int) (w : World) (c0 : 0 ≤ c) (c1 : c < 18446744073709551616) (h0 : 0 ≤ h) (h1 : h < 18446744073709551616) :
    Calls Try.prog 15 #[.int .u64 c, .int .u64 h, .int .i64 d, .int .i64 steps] w (KnownIs w) := by
  obtain ⟨a0, a1⟩ := within_bd d 0 12 (by omega)
  generalize hk : within d 0 12 = k at *
  have HK := Lib.hid hk
  obtain ⟨s0, s1⟩ := within_bd steps 0 50 (by omega)
  generalize hsm : within steps 0 50 = s at *
  have HM := Lib.hid hsm
  have hxt := (low_toNat c k c0 a0 (by omega))
  have hcl := clamp_in k a0 (by omega)
  have HC := Lib.hid hcl
  obtain ⟨x0, x1⟩ := low_bd c k c0 c1
  have hself : seenB (lowI c k) (lowI c k) k = false := not_ahead _ k _ x0 a0 (by omega) (by
    rw [(low_toNat (lowI c k) k x0 a0 (by omega)).2, hxt.1, Nat.mod_mod, hxt.2])
  generalize hx : lowI c k = x at *
  have HX := Lib.hid hx
  have HSE := Lib.hid hself
  have xl : x.toNat < 2 ^ k.toNat := by rw [hxt.1]; exact Nat.mod_lt _ (Nat.two_pow_pos _)
  have hX := trn_lt x.toNat k.toNat
  have HSN : Hid (∀ i, i < 2 ^ k.toNat → seenB (trn i k.toNat : Nat) h k = decide (trn h.toNat k.toNat < i)) := by
    intro i hi; unfold seenB; rw [hcl, Int.toNat_natCast, trn_trn, Nat.mod_eq_of_lt hi]
  have HXX : Hid (x = (trn (trn x.toNat k.toNat) k.toNat : Nat)) := by unfold Hid; rw [trn_trn, Nat.mod_eq_of_lt xl]; omega
  have HS1 : Hid (seenB x h k = decide (trn h.toNat k.toNat < trn x.toNat k.toNat)) := by
    unfold Hid; rw [HXX.out, HSN.out _ hX, ← HXX.out]
  clear hk hsm hx hcl hxt hself
  generalize hT : 2 ^ k.toNat = T at *
  generalize hq : trn h.toNat k.toNat = q at *
  generalize ht : trn x.toNat k.toNat = t at *
  go_enter Try.func15, Try.ntmps15
  go_wp2_with (first | (go_at_call 23; refine (within_any _ _ _ _ (by omega) (by omega) (by omega)).mono ?_; rintro e w' ⟨rfl, rfl⟩; first | rw [HK.out] | rw [HM.out]) | (go_at_call 37; refine (bucket_any _ _ _ (by omega) (by omega)).mono ?_; rintro e w' ⟨rfl, rfl⟩; rw [HX.out]) | (go_at_call 41; refine (seen_any _ _ _ _ (by omega) (by omega) (by omega) (by omega)).mono ?_; rintro e w' ⟨rfl, rfl⟩; first | rw [HSE.out] | rw [HS1.out]))
  clear HSE HS1
  go_loop [10, 11, 12] (fun x seen i => ∃ (j r : Nat) (b : Bool), t + j < T ∧ r ≤ 50 ∧ i = .int .i64 r ∧ x = .int .u64 (trn (t + j) k.toNat : Nat) ∧ seen = .bool b ∧ Hid (b = decide (q < t + j))) (fun _ _ i => (intOf i).toNat)
  case atStart => exact ⟨0, s.toNat, _, by omega, by omega, by congr 1; omega, by rw [HXX.out]; rfl, rfl, rfl⟩
  case round =>
    obtain ⟨j, r, b, hj, hr, rfl, rfl, rfl, hb⟩ := hrel
    have hz0 : (0 : Int) ≤ (trn (t + j) k.toNat : Nat) := by omega
    have hz1 := trn_bw (t + j) k.toNat (by omega)
    have hy0 : (0 : Int) ≤ (trn (t + j + 1) k.toNat : Nat) := by omega
    have hy1 := trn_bw (t + j + 1) k.toNat (by omega)
    have HN : Hid (((nxt ((trn (t + j) k.toNat : Nat) : Int).toNat k.toNat : Nat) : Int) = (trn (t + j + 1) k.toNat : Nat)) := by unfold Hid; rw [Int.toNat_natCast, nxt_trn _ _ (by rw [hT]; exact hj)]
    have HS3 : t + j + 1 < T → seenB (trn (t + j + 1) k.toNat : Nat) h k = decide (q < t + j + 1) := fun h => HSN.out _ h
    have HL : t + j + 1 = T → ((trn (t + j + 1) k.toNat : Nat) : Int) = 0 := fun h => by rw [h, ← hT, trn_full]; rfl
    have HL2 : t + j + 1 < T → ((trn (t + j + 1) k.toNat : Nat) : Int) ≠ 0 := fun h e => by
      have := trn_inj _ 0 k.toNat (by rw [hT]; exact h) (by rw [hT]; omega) (by rw [show trn (t + j + 1) k.toNat = 0 from by omega, trn_zero])
      omega
    generalize hz : ((trn (t + j) k.toNat : Nat) : Int) = z at *
    generalize hz2 : ((trn (t + j + 1) k.toNat : Nat) : Int) = z2 at *
    have HZ2 := Lib.hid hz2
    clear hz hz2 hT hq ht
    by_cases hr0 : r = 0
    · subst hr0
      clear HS3 HL HL2
      go_wp2_with (go_at_call 39; refine (known9_any _).mono ?_; rintro e w' ⟨rfl, hb6⟩)
      go_ret
      exact ⟨rfl, hb6⟩
    · by_cases hl : t + j + 1 = T
      · have e3 : (z2 == 0) = true := by simp [HL hl]
        clear HS3 HL HL2 hl
        go_wp2_with (first | (go_at_call 38; refine (next_any _ _ _ (by omega) (by omega)).mono ?_; rintro e w' ⟨rfl, rfl⟩; rw [HC.out, HN.out]) | (go_at_call 39; refine (known9_any _).mono ?_; rintro e w' ⟨rfl, hb6⟩))
        go_ret
        exact ⟨rfl, hb6⟩
      · have e3 : (z2 == 0) = false := by simp [HL2 (by omega)]
        have hj2 : t + (j + 1) < T := by omega
        have HSQ := Lib.hid (HS3 (by omega))
        have HB : Hid (b = true → decide (q < t + j + 1) = true) := by intro h; subst h; have := hb.out; simp at this; simp; omega
        clear HS3 HL HL2 hl
        generalize hv : decide (q < t + j + 1) = v at *
        have HV := Lib.hid hv
        clear hv
        cases b
        · go_wp2_with (first | (go_at_call 38; refine (next_any _ _ _ (by omega) (by omega)).mono ?_; rintro e w' ⟨rfl, rfl⟩; rw [HC.out, HN.out]) | (go_at_call 41; refine (seen_any _ _ _ _ (by omega) (by omega) (by omega) (by omega)).mono ?_; rintro e w' ⟨rfl, rfl⟩; rw [HSQ.out]))
          go_round
          case rel => exact ⟨j + 1, r - 1, v, hj2, by omega, by congr 1; omega, by rw [← HZ2.out]; rfl, rfl, HV.out.symm⟩
          case measure => simp [intOf]; omega
        · obtain rfl : v = true := HB.out rfl
          go_wp2_with (first | (go_at_call 38; refine (next_any _ _ _ (by omega) (by omega)).mono ?_; rintro e w' ⟨rfl, rfl⟩; rw [HC.out, HN.out]) | (go_at_call 41; refine (seen_any _ _ _ _ (by omega) (by omega) (by omega) (by omega)).mono ?_; rintro e w' ⟨rfl, rfl⟩; rw [HSQ.out]))
          go_round
          case rel => exact ⟨j + 1, r - 1, true, hj2, by omega, by congr 1; omega, by rw [← HZ2.out]; rfl, rfl, HV.out.symm⟩
          case measure => simp [intOf]; omega
end Go.Proofs.Ytpmmfilodillmaa
