/- The walks of TablePlays and TableNumbers. -/
import Derived.Test.YtkkijcnipjojoaaPlay8
namespace Go.Proofs.Ytkkijcnipjojoaa
open Go.RowKit

set_option maxRecDepth 100000 in
set_option maxHeartbeats 1000000 in
theorem plays8_walk (seed : Int) (v : Value) (zs : List AskR) (w : World) (hz : AsksAt w v zs) :
    Calls Try.prog 7 #[.int .u64 seed, v] w fun e w' => e = .returned (.bool true) ∧ Below w.heap.size w w' := by
  have HP := Lib.hid (play8_any seed v zs 300 w hz (by omega) (by omega))
  obtain ⟨al, c, rfl, hl, _⟩ := hz
  go_enter Try.func7, Try.ntmps7
  go_wp2_with (first | (go_at_call 31; refine HP.out.mono ?_; rintro e w1 ⟨rfl, hb1⟩; have hs1 := hb1.size) | (go_at_call 23; refine (known8_any _).mono ?_; rintro e w2 ⟨rfl, hb2⟩))
  go_ret
  exact ⟨rfl, hb1.trans (hb2.mono hs1)⟩
end Go.Proofs.Ytkkijcnipjojoaa
