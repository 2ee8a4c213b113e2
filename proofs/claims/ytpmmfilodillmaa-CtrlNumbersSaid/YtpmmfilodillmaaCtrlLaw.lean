/- The closed runs of chapter 7; CtrlSets and CtrlCounts. -/
import Derived.Test.YtpmmfilodillmaaSlots
import Derived.Test.YtpmmfilodillmaaSame
namespace Go.Proofs.Ytpmmfilodillmaa
open Go.RowKit

def TrueBelow (w : World) (e : Ending) (w' : World) : Prop := e = .returned (.bool true) ∧ Below w.heap.size w w'

set_option maxHeartbeats 1000000 in
theorem known7_any (w : World) : Calls Try.prog 26 #[] w (TrueBelow w) := by
  have h1 : slotsI (isByte 5) (putI 9259542123273814144 3 5) 8 = [3] := by decide +kernel
  have h2 : (slotsI (isByte 128) 9259542123273814144 8).length = 8 := by decide +kernel
  have h3 : (slotsI isFree 9259542123273814144 8).length = 8 := by decide +kernel
  have H1 := Lib.hid h1
  have p0 := put_bd 9259542123273814144 3 5 (by omega) (by omega) (by omega) (by omega)
  obtain ⟨p0, p1⟩ := p0
  generalize hy : putI 9259542123273814144 3 5 = y at *
  have HY := Lib.hid hy
  clear h1 hy
  go_enter Try.func26, Try.ntmps26
  go_wp2_with (first | (go_at_call 27; refine (new_any _).mono ?_; rintro e w' ⟨rfl, rfl⟩) | (go_at_call 24; refine (set_any _ _ _ _ (by omega) (by omega) (by omega) (by omega)).mono ?_; rintro e w' ⟨rfl, m2, rfl⟩; rw [HY.out]) | (go_at_call 34; refine (match_any _ _ _).mono ?_; rintro e w1 ⟨a, c, rfl, hown, hb⟩; rw [H1.out] at hown ⊢) | (go_at_call 35; refine (same_int _ _ [3] [3] _ (Reads.owns (hown.alloc _)) (Reads.made .i64 _ _ _ _ _ _ rfl rfl (by decide))).mono ?_; rintro e w' ⟨rfl, m, rfl⟩) | (go_at_call 43; refine (hasEmpty_any _ _).mono ?_; rintro e w3 ⟨rfl, hb3⟩) | (go_at_call 32; refine (count_any _ _).mono ?_; rintro e w4 ⟨rfl, hb4⟩))
  go_ret
  exact ⟨rfl, below_step (below_step (below_drewN (below_step (below_drewN (Below.refl _ _) m2) (hb.alloc hb.size _)) m) hb3) hb4⟩

set_option maxHeartbeats 2000000 in
theorem ctrlCounts_walk (x : Int) (w : World) (x0 : 0 ≤ x) (x1 : x < 18446744073709551616) : Calls Try.prog 9 #[.int .u64 x] w (TrueBelow w) := by
  obtain ⟨c0, c1⟩ := clean_bd x x0 x1
  have e1 := clean_free x
  have e2 := clean_none x
  have e3 := clean_clean x x0 x1
  have hl := slots_len isFree x 8
  generalize hc : cleanI x = c at *
  have HC := Lib.hid hc
  have E1 := Lib.hid e1
  have E2 := Lib.hid e2
  have E3 := Lib.hid e3
  clear hc e1 e2 e3
  generalize hf : slotsI isFree x 8 = fr at *
  have HF := Lib.hid hf
  clear hf
  have acc := Below.refl w.heap.size w
  have tok : True := trivial
  go_enter Try.func9, Try.ntmps9
  go_wp2_with (first | (go_at_call 31; refine (clean_any _ _ (by omega) (by omega)).mono ?_; rintro e w1 ⟨rfl, hb1⟩; (first | rw [HC.out] | rw [E3.out]); replace acc := below_step acc hb1; clear hb1) | (go_at_call 32; refine (count_any _ _).mono ?_; rintro e w2 ⟨rfl, hb2⟩; (first | rw [HF.out] | rw [E1.out]); replace acc := below_step acc hb2; clear hb2) | (go_at_call 33; have _t := tok; refine (free_any _ _).mono ?_; rintro e w3 ⟨a, cp, rfl, hown, hb3⟩; rw [HF.out] at hown ⊢; clear tok; replace acc := below_step acc hb3; clear hb3 hown) | (go_at_call 34; refine (match_any _ _ _).mono ?_; rintro e w4 ⟨a4, cp4, rfl, hown4, hb4⟩; rw [E2.out]; replace acc := below_step acc hb4; clear hb4 hown4))
  refine (free_any _ _).mono ?_
  rintro e w5 ⟨a5, cp5, rfl, hown5, hb5⟩
  rw [E1.out] at hown5 ⊢
  replace acc := below_step acc hb5
  go_wp2_with fail
  refine (free_any _ _).mono ?_
  rintro e w6 ⟨a6, cp6, rfl, hown6, hb6⟩
  rw [HF.out] at hown6 ⊢
  replace acc := below_step acc hb6
  have R1 := Reads.owns (owns_later hown5 hb6)
  have R2 := Reads.owns hown6
  clear hown5 hown6 hb5 hb6
  go_wp2_with (first | (go_at_call 35; refine (same_int _ _ fr fr _ R1 R2).mono ?_; rintro e w7 ⟨rfl, m, rfl⟩; replace acc := below_draws acc m) | (go_at_call 31; refine (clean_any _ _ (by omega) (by omega)).mono ?_; rintro e w1 ⟨rfl, hb1⟩; rw [E3.out]; replace acc := below_step acc hb1; clear hb1) | (go_at_call 26; refine (known7_any _).mono ?_; rintro e w1 ⟨rfl, hb1⟩; replace acc := below_step acc hb1; clear hb1))
  go_ret
  exact ⟨rfl, acc⟩

set_option maxRecDepth 100000 in
set_option maxHeartbeats 2000000 in
theorem ctrlSets_walk (x i c : Int) (w : World) (x0 : 0 ≤ x) (x1 : x < 18446744073709551616) (c0 : 0 ≤ c) (c1 : c < 256) :
    Calls Try.prog 5 #[.int .u64 x, .int .i64 i, .int .u8 c] w (TrueBelow w) := by
  obtain ⟨k0, k1⟩ := within_bd i 0 7 (by omega)
  generalize hk : within i 0 7 = k at *
  have HK := Lib.hid hk
  obtain ⟨p0, p1⟩ := put_bd x k c x0 x1 c0 c1
  have a1 := at_put_same x k c k0 k1 c0 c1
  have A2 := Lib.hid fun j j0 j1 h => at_put_other x k c j k0 k1 j0 j1 h c0 c1
  have a3 := put_back x k c k0 k1 x0 x1 c0 c1
  have a4 : putI x 8 c = x := (put_out x 8 c (by omega)).symm
  have a5 : putI x (-1) c = x := (put_out x (-1) c (by omega)).symm
  obtain ⟨b0, b1⟩ := at_bd x k
  generalize hy : putI x k c = y at *
  have HY := Lib.hid hy
  have A1 := Lib.hid a1
  have A3 := Lib.hid a3
  have A4 := Lib.hid a4
  have A5 := Lib.hid a5
  clear hk hy a1 a3 a4 a5
  generalize hz : atI x k = z at *
  have HZ := Lib.hid hz
  clear hz
  go_enter Try.func5, Try.ntmps5
  go_wp2_with (first | (go_at_call 23; refine (within_any _ _ _ _ (by omega) (by omega) (by omega)).mono ?_; rintro e w' ⟨rfl, rfl⟩; rw [HK.out]) | (go_at_call 24; refine (set_any _ _ _ _ (by omega) (by omega) (by omega) (by omega)).mono ?_; rintro e w' ⟨rfl, m2, rfl⟩; rw [HY.out]))
  go_loopw [10] (fun j wr => ∃ n : Nat, n ≤ 8 ∧ j = .int .i64 n ∧ Below w.heap.size w wr) (fun j _ => 8 - (intOf j).toNat)
  case atStart => exact ⟨0, by omega, rfl, below_draws (Below.refl _ _) _⟩
  case round =>
    obtain ⟨n, hn, rfl, acc⟩ := hrel
    by_cases hlt : n < 8
    · by_cases hnk : (n : Int) = k
      · have hd : (((n : Nat) : Int) != k) = false := by simp [hnk]
        clear hnk
        go_wp2
        go_roundw
        case rel => exact ⟨n + 1, by omega, by go_num, acc⟩
        case measure => simp [intOf]; omega
      · have hd : (((n : Nat) : Int) != k) = true := by simp [hnk]
        have HE := Lib.hid (A2.out n (by omega) (by omega) hnk)
        clear hnk
        go_wp2_with (go_at_call 25; refine (at_any _ _ _).mono ?_; rintro e w' ⟨rfl, rfl⟩; try rw [HE.out])
        go_roundw
        case rel => exact ⟨n + 1, by omega, by go_num, acc⟩
        case measure => simp [intOf]; omega
    · obtain rfl : n = 8 := by omega
      go_wp2_with (first | (go_at_call 25; refine (at_any _ _ _).mono ?_; rintro e w' ⟨rfl, rfl⟩; (first | rw [A1.out] | rw [HZ.out])) | (go_at_call 24; refine (set_any _ _ _ _ (by omega) (by omega) (by omega) (by omega)).mono ?_; rintro e w' ⟨rfl, m2, rfl⟩; (first | rw [A3.out] | rw [A4.out] | rw [A5.out]); replace acc := below_draws acc m2; (try simp only [World.drewN_drewN] at acc)) | (go_at_call 26; refine (known7_any _).mono ?_; rintro e w1 ⟨rfl, hb1⟩; replace acc := below_step acc hb1; clear hb1))
      go_ret
      exact ⟨rfl, acc⟩
end Go.Proofs.Ytpmmfilodillmaa
