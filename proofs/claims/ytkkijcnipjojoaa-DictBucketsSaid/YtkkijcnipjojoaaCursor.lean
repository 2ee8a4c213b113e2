/- Contracts of package cursor and of its reference. -/
import Derived.Test.YtkkijcnipjojoaaHash
import Derived.Test.YtkkijcnipjojoaaPlain9
namespace Go.Proofs.Ytkkijcnipjojoaa
open Go.RowKit


theorem revbytes_any (x : BitVec 64) (w : World) : Calls Try.prog 101 #[.int .u64 x.toNat] w fun e w' => e = .returned (.int .u64 (stage 32 4294967295#64 (stage 16 281470681808895#64 (stage 8 71777214294589695#64 x))).toNat) ∧ w = w' := by
  obtain ⟨b0, b1⟩ := bv_lt x
  have e1 := stage_int x 71777214294589695#64 8 256 71777214294589695 (by decide) (by decide)
  generalize stage 8 71777214294589695#64 x = y at *
  obtain ⟨c0, c1⟩ := bv_lt y
  have e2 := stage_int y 281470681808895#64 16 65536 281470681808895 (by decide) (by decide)
  generalize stage 16 281470681808895#64 y = z at *
  obtain ⟨d0, d1⟩ := bv_lt z
  have e3 := half_int z 4294967296 (by decide)
  generalize stage 32 4294967295#64 z = v at *
  go_enter Try.func101, Try.ntmps101
  go_wp2
  go_ret
  exact ⟨rfl, rfl⟩

theorem reverse_any (x : BitVec 64) (w : World) : Calls Try.prog 100 #[.int .u64 x.toNat] w fun e w' => e = .returned (.int .u64 (rev64 x).toNat) ∧ w = w' := by
  unfold rev64
  obtain ⟨b0, b1⟩ := bv_lt x
  have e1 := stage_int x 6148914691236517205#64 1 2 6148914691236517205 (by decide) (by decide)
  generalize stage 1 6148914691236517205#64 x = y at *
  obtain ⟨c0, c1⟩ := bv_lt y
  have e2 := stage_int y 3689348814741910323#64 2 4 3689348814741910323 (by decide) (by decide)
  generalize stage 2 3689348814741910323#64 y = z at *
  obtain ⟨d0, d1⟩ := bv_lt z
  have e3 := stage_int z 1085102592571150095#64 4 16 1085102592571150095 (by decide) (by decide)
  generalize stage 4 1085102592571150095#64 z = v at *
  go_enter Try.func100, Try.ntmps100
  go_wp2_with (go_at_call 101; refine (revbytes_any _ _).mono ?_; rintro e w' ⟨rfl, rfl⟩)
  go_ret
  exact ⟨rfl, rfl⟩

theorem turned_any (c d : Int) (w : World) (h0 : 0 ≤ c) (h1 : c < 18446744073709551616) (d0 : 0 ≤ d) (d1 : d ≤ 16) :
    Calls Try.prog 96 #[.int .u64 c, .int .i64 d] w fun e w' => e = .returned (.int .u64 (trn c.toNat d.toNat : Nat)) ∧ w = w' := by
  obtain ⟨k, rfl⟩ := Int.eq_ofNat_of_zero_le d0
  obtain ⟨x, rfl⟩ : ∃ x : BitVec 64, c = (x.toNat : Int) := ⟨BitVec.ofNat 64 c.toNat, by rw [BitVec.toNat_ofNat, Nat.mod_eq_of_lt (by omega)]; omega⟩
  rw [Int.toNat_natCast, Int.toNat_natCast]
  by_cases hk : k = 0
  · subst hk
    go_enter Try.func96, Try.ntmps96
    go_wp2
    go_ret
    exact ⟨rfl, rfl⟩
  · have hr := turned_int x k (by omega) (by omega)
    have hk0 : ((k : Int) == 0) = false := by simp; omega
    have hb := bv_lt (rev64 x)
    obtain ⟨b0, b1⟩ := hb
    go_enter Try.func96, Try.ntmps96
    go_wp2_with (go_at_call 100; refine (reverse_any _ _).mono ?_; rintro e w' ⟨rfl, rfl⟩)
    go_ret
    exact ⟨rfl, rfl⟩

theorem depth_any (d : Int) (w : World) : Calls Try.prog 95 #[.int .i64 d] w fun e w' => e = .returned (.int .i64 (clampI d)) ∧ w = w' := by
  by_cases c1 : d < 0
  · go_enter Try.func95, Try.ntmps95
    go_wp2
    go_ret
    exact ⟨ret_int (by simp [clampI, c1]), rfl⟩
  · by_cases c2 : 16 < d
    · go_enter Try.func95, Try.ntmps95
      go_wp2
      go_ret
      exact ⟨ret_int (by simp [clampI, c2, show ¬ d < 0 from by omega]), rfl⟩
    · go_enter Try.func95, Try.ntmps95
      go_wp2
      go_ret
      exact ⟨ret_int (by simp [clampI, show ¬ d < 0 from by omega, show ¬ 16 < d from by omega]), rfl⟩

theorem deep_any (d : Int) (w : World) : Calls Try.prog 72 #[.int .i64 d] w fun e w' => e = .returned (.int .i64 (clampI d)) ∧ w = w' := by
  by_cases c1 : d < 0
  · go_enter Try.func72, Try.ntmps72
    go_wp2
    go_ret
    exact ⟨ret_int (by simp [clampI, c1]), rfl⟩
  · by_cases c2 : 16 < d
    · go_enter Try.func72, Try.ntmps72
      go_wp2
      go_ret
      exact ⟨ret_int (by simp [clampI, c2, show ¬ d < 0 from by omega]), rfl⟩
    · go_enter Try.func72, Try.ntmps72
      go_wp2
      go_ret
      exact ⟨ret_int (by simp [clampI, show ¬ d < 0 from by omega, show ¬ 16 < d from by omega]), rfl⟩

theorem clamp_bd (d : Int) : 0 ≤ clampI d ∧ clampI d ≤ 16 := by unfold clampI; split <;> (try split) <;> omega
theorem trn_bd (c d : Nat) (hd : d ≤ 16) : (trn c d : Int) < 65536 := by
  have h := trn_lt c d
  have : 2 ^ d ≤ 2 ^ 16 := Nat.pow_le_pow_right (by omega) hd
  omega

theorem trn_bw (c d : Nat) (hd : d ≤ 16) : (trn c d : Int) < 18446744073709551616 := by have := trn_bd c d hd; omega

theorem next_any (c d : Int) (w : World) (h0 : 0 ≤ c) (h1 : c < 18446744073709551616) :
    Calls Try.prog 74 #[.int .u64 c, .int .i64 d] w fun e w' => e = .returned (.int .u64 (nxt c.toNat (clampI d).toNat : Nat)) ∧ w = w' := by
  obtain ⟨b0, b1⟩ := clamp_bd d
  generalize hk : clampI d = k at *
  have HK := Lib.hid hk; clear hk
  have t1 := trn_bd c.toNat k.toNat (by omega)
  go_enter Try.func74, Try.ntmps74
  go_wp2_with (first | (go_at_call 95; refine (depth_any _ _).mono ?_; rintro e w' ⟨rfl, rfl⟩; rw [HK.out]) | (go_at_call 96; refine (turned_any _ _ _ (by omega) (by omega) (by omega) (by omega)).mono ?_; rintro e w' ⟨rfl, rfl⟩))
  go_ret
  exact ⟨ret_int (by rw [nxt]), rfl⟩

theorem bucket_any (c d : Int) (w : World) (h0 : 0 ≤ c) (h1 : c < 18446744073709551616) :
    Calls Try.prog 70 #[.int .u64 c, .int .i64 d] w fun e w' => e = .returned (.int .u64 (lowI c d)) ∧ w = w' := by
  go_enter Try.func70, Try.ntmps70
  go_wp2_with (go_at_call 94; refine (low_any _ _ _ (by omega) (by omega)).mono ?_; rintro e w' ⟨rfl, rfl⟩)
  go_ret
  exact ⟨rfl, rfl⟩



theorem rturned_any (c d : Int) (w : World) (h0 : 0 ≤ c) (h1 : c < 18446744073709551616) (d0 : 0 ≤ d) (d1 : d ≤ 16) :
    Calls Try.prog 73 #[.int .u64 c, .int .i64 d] w fun e w' => e = .returned (.int .u64 (trn c.toNat d.toNat : Nat)) ∧ w = w' := by
  obtain ⟨k, rfl⟩ := Int.eq_ofNat_of_zero_le d0
  obtain ⟨c, rfl⟩ := Int.eq_ofNat_of_zero_le h0
  rw [Int.toNat_natCast, Int.toNat_natCast]
  go_enter Try.func73, Try.ntmps73
  go_wp2
  go_loop [5, 6] (fun o i => ∃ j : Nat, j ≤ k ∧ i = .int .i64 j ∧ o = .int .u64 (trn c j : Nat)) (fun _ i => k - (intOf i).toNat)
  case atStart => exact ⟨0, by omega, rfl, rfl⟩
  case round =>
    obtain ⟨j, hj, rfl, rfl⟩ := hrel
    have t1 := trn_bd c j (by omega)
    by_cases hlt : j < k
    · go_wp2
      go_round
      case rel => exact ⟨j + 1, by omega, by go_num, by rw [trn_step c j (by omega) (by omega)]⟩
      case measure => simp [intOf]; omega
    · obtain rfl : j = k := by omega
      go_wp2
      go_ret
      exact ⟨rfl, rfl⟩

theorem rnext_any (c d : Int) (w : World) (h0 : 0 ≤ c) (h1 : c < 18446744073709551616) :
    Calls Try.prog 40 #[.int .u64 c, .int .i64 d] w fun e w' => e = .returned (.int .u64 (nxt c.toNat (clampI d).toNat : Nat)) ∧ w = w' := by
  obtain ⟨b0, b1⟩ := clamp_bd d
  generalize hk : clampI d = k at *
  have HK := Lib.hid hk; clear hk
  have t1 := trn_bd c.toNat k.toNat (by omega)
  have hw := wrap_pow_nat k b0 b1
  have t2 := trn_lt c.toNat k.toNat
  by_cases hl : trn c.toNat k.toNat + 1 = 2 ^ k.toNat
  · have HN := Lib.hid (nxt_last _ _ hl)
    have hge : decide (IntKind.u64.wrap (2 ^ k.toNat) ≤ ((trn c.toNat k.toNat : Int) + 1)) = true := by rw [hw]; generalize 2 ^ k.toNat = p at hl t2 ⊢; exact decide_eq_true (by omega)
    clear hw hl t2
    go_enter Try.func40, Try.ntmps40
    go_wp2_with (first | (go_at_call 72; refine (deep_any _ _).mono ?_; rintro e w' ⟨rfl, rfl⟩; rw [HK.out]) | (go_at_call 73; refine (rturned_any _ _ _ (by omega) (by omega) (by omega) (by omega)).mono ?_; rintro e w' ⟨rfl, rfl⟩))
    go_ret
    exact ⟨ret_int (by rw [HN.out]; rfl), rfl⟩
  · have hge : decide (IntKind.u64.wrap (2 ^ k.toNat) ≤ ((trn c.toNat k.toNat : Int) + 1)) = false := by rw [hw]; generalize 2 ^ k.toNat = p at hl t2 ⊢; exact decide_eq_false (by omega)
    clear hw hl t2
    go_enter Try.func40, Try.ntmps40
    go_wp2_with (first | (go_at_call 72; refine (deep_any _ _).mono ?_; rintro e w' ⟨rfl, rfl⟩; rw [HK.out]) | (go_at_call 73; refine (rturned_any _ _ _ (by omega) (by omega) (by omega) (by omega)).mono ?_; rintro e w' ⟨rfl, rfl⟩))
    go_ret
    exact ⟨ret_int (by rw [nxt]), rfl⟩



end Go.Proofs.Ytkkijcnipjojoaa
