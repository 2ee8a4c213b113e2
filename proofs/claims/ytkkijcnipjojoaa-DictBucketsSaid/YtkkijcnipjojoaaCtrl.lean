/- Contracts of package ctrl on single bytes of a word. -/
import Derived.Test.YtkkijcnipjojoaaHash
import Derived.Test.YtkkijcnipjojoaaPlain7
import Derived.BigQuiet
import Derived.Deep.QuietTactic
namespace Go.Proofs.Ytkkijcnipjojoaa
open Go.RowKit

theorem new_any (w : World) : Calls Try.prog 85 #[] w fun e w' => e = .returned (.int .u64 9259542123273814144) ∧ w = w' := by
  go_enter Try.func85, Try.ntmps85
  go_wp2
  go_ret
  exact ⟨rfl, rfl⟩

theorem at_any (x i : Int) (w : World) :
    Calls Try.prog 92 #[.int .u64 x, .int .i64 i] w fun e w' => e = .returned (.int .u8 (atI x i)) ∧ w = w' := by
  by_cases c1 : 0 ≤ i
  · by_cases c2 : i < 8
    · have H : Hid (x / 2 ^ (8 * i).toNat % 256 = atI x i) := at_in x i c1 c2
      go_enter Try.func92, Try.ntmps92
      go_wp2
      go_ret
      exact ⟨ret_int H.out, rfl⟩
    · go_enter Try.func92, Try.ntmps92
      go_wp2
      go_ret
      exact ⟨ret_int (at_out x i (by omega)), rfl⟩
  · go_enter Try.func92, Try.ntmps92
    go_wp2
    go_ret
    exact ⟨ret_int (at_out x i (by omega)), rfl⟩

theorem set_any (x i c : Int) (w : World) (x0 : 0 ≤ x) (x1 : x < 18446744073709551616) (c0 : 0 ≤ c) (c1 : c < 256) :
    Calls Try.prog 58 #[.int .u64 x, .int .i64 i, .int .u8 c] w fun e w' => e = .returned (.int .u64 (putI x i c)) ∧ IsDrew w w' := by
  by_cases d1 : 0 ≤ i
  · by_cases d2 : i < 8
    · have H := Lib.hid (put_in x i c d1 d2 x0 x1 c0 c1)
      go_enter Try.func58, Try.ntmps58
      go_wp2
      go_quiet (fail)
      go_wp2
      go_ret
      exact ⟨ret_int H.out, IsDrew.one _ _⟩
    · go_enter Try.func58, Try.ntmps58
      go_wp2
      go_ret
      exact ⟨ret_int (put_out x i c (by omega)), IsDrew.refl _⟩
  · go_enter Try.func58, Try.ntmps58
    go_wp2
    go_ret
    exact ⟨ret_int (put_out x i c (by omega)), IsDrew.refl _⟩
end Go.Proofs.Ytkkijcnipjojoaa
