/- CursorLong: from any cursor on, 0 comes within as many steps as there are buckets; each bucket that was not seen comes. -/
import Derived.Test.YtpmmfilodillmaaCursorLaw
namespace Go.Proofs.Ytpmmfilodillmaa
open Go.RowKit

set_option maxRecDepth 100000 in
set_option maxHeartbeats 4000000 in
theorem cursorLong_walk (c d h : Int) (w : World) (c0 : 0 ≤ c) (c1 : c < 18446744073709551616) (h0 : 0 ≤ h) (h1 : h < 18446744073709551616) :
    Calls Try.prog 14 #[.int .u64 c, .int .i64 d, .int .u64 h] w (KnownIs w) := by
  obtain ⟨a0, a1⟩ := within_bd d 0 10 (by omega)
  generalize hk : within d 0 10 = k at *
  have HK := Lib.hid hk
  have hxt := (low_toNat c k c0 a0 (by omega))
  have hcl := clamp_in k a0 (by omega)
  have HC := Lib.hid hcl
  have hpw := wrap_pow64 k a0 (by omega)
  obtain ⟨x0, x1⟩ := low_bd c k c0 c1
  generalize hx : lowI c k = x at *
  have HX := Lib.hid hx
  have xl : x.toNat < 2 ^ k.toNat := by rw [hxt.1]; exact Nat.mod_lt _ (Nat.two_pow_pos _)
  have hp : 2 ^ k.toNat ≤ 1024 := by have : 2 ^ k.toNat ≤ 2 ^ 10 := Nat.pow_le_pow_right (by omega) (by omega); omega
  obtain ⟨y0, y1⟩ := low_bd h k h0 h1
  have hyt := (low_toNat h k h0 a0 (by omega))
  generalize hy : lowI h k = y at *
  have HY := Lib.hid hy
  have hH := trn_lt h.toNat k.toNat
  have hX := trn_lt x.toNat k.toNat
  have hS : seenB x h k = decide (trn h.toNat k.toNat < trn x.toNat k.toNat) := by unfold seenB; rw [hcl]
  have HS := Lib.hid hS
  have HXX : Hid (x = (trn (trn x.toNat k.toNat) k.toNat : Nat)) := by unfold Hid; rw [trn_trn, Nat.mod_eq_of_lt xl]; omega
  have HYE : ∀ i, i < 2 ^ k.toNat → ((trn i k.toNat : Int) = y ↔ trn h.toNat k.toNat = i) := by
    intro i hi
    rw [hyt.2]
    constructor
    · intro e
      have e2 : trn i k.toNat = h.toNat % 2 ^ k.toNat := by omega
      rw [← trn_trn] at e2
      exact (trn_inj _ _ _ hi (trn_lt _ _) e2).symm
    · intro e
      rw [← e, trn_trn]
  have HYD := Lib.hid HYE
  clear hk hx hcl hxt hy hyt hS HYE
  generalize hT : 2 ^ k.toNat = T at *
  generalize hq : trn h.toNat k.toNat = q at *
  generalize ht : trn x.toNat k.toNat = t at *
  go_enter Try.func14, Try.ntmps14
  go_wp2_with (first | (go_at_call 23; refine (within_any _ _ _ _ (by omega) (by omega) (by omega)).mono ?_; rintro e w' ⟨rfl, rfl⟩; rw [HK.out]) | (go_at_call 37; refine (bucket_any _ _ _ (by omega) (by omega)).mono ?_; rintro e w' ⟨rfl, rfl⟩; rw [HX.out]) | (go_at_call 41; refine (seen_any _ _ _ _ (by omega) (by omega) (by omega) (by omega)).mono ?_; rintro e w' ⟨rfl, rfl⟩; rw [HS.out]))
  clear HS
  go_loop [8, 9, 10] (fun x came n => ∃ (j : Nat) (b : Bool), t + j < T ∧ n = .int .i64 j ∧ x = .int .u64 (trn (t + j) k.toNat : Nat) ∧ came = .bool b ∧ Hid (b = decide (q < t + j))) (fun _ _ n => T - (intOf n).toNat)
  case atStart => exact ⟨0, _, by omega, rfl, by rw [HXX.out]; rfl, rfl, rfl⟩
  case round =>
    obtain ⟨j, b, hj, rfl, rfl, rfl, hb⟩ := hrel
    have hz0 : (0 : Int) ≤ (trn (t + j) k.toNat : Nat) := by omega
    have hz1 := trn_bw (t + j) k.toNat (by omega)
    have HN : Hid (((nxt ((trn (t + j) k.toNat : Nat) : Int).toNat k.toNat : Nat) : Int) = (trn (t + j + 1) k.toNat : Nat)) := by unfold Hid; rw [Int.toNat_natCast, nxt_trn _ _ (by rw [hT]; exact hj)]
    have HB2 : Hid (decide (q < t + (j + 1)) = (b || decide (q = t + j))) := by unfold Hid; rw [hb.out, Bool.eq_iff_iff]; simp; omega
    have hy2 := HYD.out (t + j) hj
    have HL : t + j + 1 = T → ((trn (t + j + 1) k.toNat : Nat) : Int) = 0 := fun h => by rw [h, ← hT, trn_full]; rfl
    have HL2 : t + j + 1 < T → ((trn (t + j + 1) k.toNat : Nat) : Int) ≠ 0 := fun h e => by
      have := trn_inj _ 0 k.toNat (by rw [hT]; exact h) (by rw [hT]; omega) (by rw [show trn (t + j + 1) k.toNat = 0 from by omega, trn_zero])
      omega
    generalize hz : ((trn (t + j) k.toNat : Nat) : Int) = z at *
    have HZ := Lib.hid hz
    generalize hz2 : ((trn (t + j + 1) k.toNat : Nat) : Int) = z2 at *
    have HZ2 := Lib.hid hz2
    clear hz hz2 hT hq ht
    have hlq : decide (((j : Int) + 1) ≤ (T : Int)) = true := by simp; omega
    have hgt : decide ((T : Int) < (j : Int) + 1) = false := by simp; omega
    by_cases hl : t + j + 1 = T
    · have e3 : (z2 == 0) = true := by simp [HL hl]
      have HF : Hid ((b || decide (q = t + j)) = true) := by unfold Hid; rw [← HB2.out]; simp; omega
      clear HL HL2
      cases b
      · have hqj : q = t + j := by have := HF.out; simpa using this
        have e2 : (z == y) = true := by simp [hy2.2 hqj]
        clear hqj hy2 hl
        go_wp2_with (first | (go_at_call 37; refine (bucket_any _ _ _ (by omega) (by omega)).mono ?_; rintro e w' ⟨rfl, rfl⟩; rw [HY.out]) | (go_at_call 38; refine (next_any _ _ _ (by omega) (by omega)).mono ?_; rintro e w' ⟨rfl, rfl⟩; rw [HC.out, HN.out]) | (go_at_call 39; refine (known9_any _).mono ?_; rintro e w' ⟨rfl, hb6⟩))
        go_ret
        exact ⟨rfl, hb6⟩
      · clear hy2 hl
        go_wp2_with (first | (go_at_call 37; refine (bucket_any _ _ _ (by omega) (by omega)).mono ?_; rintro e w' ⟨rfl, rfl⟩; rw [HY.out]) | (go_at_call 38; refine (next_any _ _ _ (by omega) (by omega)).mono ?_; rintro e w' ⟨rfl, rfl⟩; rw [HC.out, HN.out]) | (go_at_call 39; refine (known9_any _).mono ?_; rintro e w' ⟨rfl, hb6⟩))
        go_ret
        exact ⟨rfl, hb6⟩
    · have e3 : (z2 == 0) = false := by simp [HL2 (by omega)]
      have hj2 : t + (j + 1) < T := by omega
      clear HL HL2
      cases b
      · by_cases hqj : q = t + j
        · have e2 : (z == y) = true := by simp [hy2.2 hqj]
          have HR : Hid (true = decide (q < t + (j + 1))) := by unfold Hid; rw [HB2.out]; simp [hqj]
          clear hqj hy2 hl
          go_wp2_with (first | (go_at_call 37; refine (bucket_any _ _ _ (by omega) (by omega)).mono ?_; rintro e w' ⟨rfl, rfl⟩; rw [HY.out]) | (go_at_call 38; refine (next_any _ _ _ (by omega) (by omega)).mono ?_; rintro e w' ⟨rfl, rfl⟩; rw [HC.out, HN.out]) | (go_at_call 39; refine (known9_any _).mono ?_; rintro e w' ⟨rfl, hb6⟩))
          go_round
          case rel => exact ⟨j + 1, true, hj2, by go_num, by rw [← HZ2.out]; rfl, rfl, HR⟩
          case measure => simp [intOf]; omega
        · have e2 : (z == y) = false := by have : z ≠ y := fun h => hqj (hy2.1 h); simp [this]
          have HR : Hid (false = decide (q < t + (j + 1))) := by unfold Hid; rw [HB2.out]; simp [hqj]
          clear hqj hy2 hl
          go_wp2_with (first | (go_at_call 37; refine (bucket_any _ _ _ (by omega) (by omega)).mono ?_; rintro e w' ⟨rfl, rfl⟩; rw [HY.out]) | (go_at_call 38; refine (next_any _ _ _ (by omega) (by omega)).mono ?_; rintro e w' ⟨rfl, rfl⟩; rw [HC.out, HN.out]) | (go_at_call 39; refine (known9_any _).mono ?_; rintro e w' ⟨rfl, hb6⟩))
          go_round
          case rel => exact ⟨j + 1, false, hj2, by go_num, by rw [← HZ2.out]; rfl, rfl, HR⟩
          case measure => simp [intOf]; omega
      · have HR : Hid (true = decide (q < t + (j + 1))) := by unfold Hid; rw [HB2.out]; rfl
        clear hy2 hl
        go_wp2_with (first | (go_at_call 37; refine (bucket_any _ _ _ (by omega) (by omega)).mono ?_; rintro e w' ⟨rfl, rfl⟩; rw [HY.out]) | (go_at_call 38; refine (next_any _ _ _ (by omega) (by omega)).mono ?_; rintro e w' ⟨rfl, rfl⟩; rw [HC.out, HN.out]) | (go_at_call 39; refine (known9_any _).mono ?_; rintro e w' ⟨rfl, hb6⟩))
        go_round
        case rel => exact ⟨j + 1, true, hj2, by go_num, by rw [← HZ2.out]; rfl, rfl, HR⟩
        case measure => simp [intOf]; omega
end Go.Proofs.Ytpmmfilodillmaa
