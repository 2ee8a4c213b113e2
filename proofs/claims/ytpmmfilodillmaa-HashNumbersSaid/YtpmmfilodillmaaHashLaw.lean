/- HashTells: hashes and their bits are what the document says, for any seed and text. -/
import Derived.Test.YtpmmfilodillmaaHash
import Derived.Deep.QuietTactic
import Derived.BigQuiet
namespace Go.Proofs.Ytpmmfilodillmaa
open Go.RowKit

theorem q_same {P : Program} {f : FuncId} {args : Array Value} {w : World} {n : Nat} {v : Value}
    (h : Calls P f args (w.drewN n) fun e w' => e = .returned v ∧ w.drewN n = w') : Calls P f args (w.drewN n) fun e w'' => e = .returned v ∧ ∃ m, w'' = w.drewN m :=
  h.mono fun _ _ ⟨he, hm⟩ => ⟨he, n, hm.symm⟩

theorem known6_any (w : World) : Calls Try.prog 21 #[] w fun e w' => e = .returned (.bool true) ∧ w = w' := by
  have e1 : lowI 255 3 = 7 := by decide
  have e2 : lowI 255 0 = 0 := by decide
  have e3 : sevenI 18446744073709551615 = 127 := by decide
  have e4 : (hof 1 [97] == 0) = false := by decide +kernel
  go_enter Try.func21, Try.ntmps21
  go_wp2_with (first | (go_at_call 19; refine (low_any _ _ _ (by omega) (by omega)).mono ?_; rintro e w' ⟨rfl, rfl⟩) | (go_at_call 18; refine (seven_any _ _).mono ?_; rintro e w' ⟨rfl, rfl⟩) | (go_at_call 17; refine (hash_any _ _ _ (by decide)).mono ?_; rintro e w' ⟨rfl, rfl⟩))
  go_ret
  exact ⟨by rw [bne, e4]; rfl, rfl⟩

set_option maxHeartbeats 1000000 in
theorem hashTells_walk (seed h bits : Int) (s : ByteArray) (w : World) (hs : s.size ≤ maxLen) (h0 : 0 ≤ h) (h1 : h < 18446744073709551616) :
    Calls Try.prog 4 #[.int .u64 seed, .string s, .int .u64 h, .int .i64 bits] w fun e w' => e = .returned (.bool true) ∧ ∃ m, w' = w.drewN m := by
  have hc : (cutB s 300).size ≤ maxLen := by unfold cutB maxLen at *; split <;> simp <;> omega
  obtain ⟨hb1, hb2⟩ := within_bd bits 0 16 (by omega)
  go_enter Try.func4, Try.ntmps4
  go_wp2_with (first | (go_at_call 22; refine (cut_any _ 300 _).mono ?_; rintro e w' ⟨rfl, rfl⟩) | (go_at_call 23; refine (within_any _ _ _ _ (by omega) (by omega) (by omega)).mono ?_; rintro e w' ⟨rfl, rfl⟩))
  generalize hx : cutB s 300 = x at *
  generalize hk : within bits 0 16 = k at *
  clear hx hk
  have z1 : ¬ IntKind.u64.wrap (2 ^ k.toNat) = 0 := wrap_pow k hb1 hb2
  have z2 : (lowI h k == h % IntKind.u64.wrap (2 ^ k.toNat)) = true := low_eq h k hb1 hb2
  have z3 : (sevenI h == h / 144115188075855872) = true := by simp [sevenI]; omega
  go_quiet ((first | (go_at_call 19; exact q_same (low_any _ _ _ (by omega) (by omega))) | (go_at_call 20; exact q_same (rlow_any _ _ _ (by omega) (by omega))) | (go_at_call 18; exact q_same (seven_any _ _)) | (go_at_call 17; exact q_same (hash_any _ _ _ hc)) | (go_at_call 16; exact q_same (rhash_any _ _ _ hc)) | (go_at_call 21; exact q_same (known6_any _))))
  go_wp2
  go_ret
  exact ⟨rfl, _, rfl⟩
end Go.Proofs.Ytpmmfilodillmaa
