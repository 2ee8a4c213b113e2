/- Contracts of package table: Get. -/
import Derived.Test.YtkkijcnipjojoaaTabProbe
namespace Go.Proofs.Ytkkijcnipjojoaa
open Go.RowKit

set_option maxRecDepth 100000 in
set_option maxHeartbeats 1000000 in
theorem get_any {tb gb : Nat} {seed : Int} {S : Grps} {n mk : Int} {m : ByteArray → Option Int} (w : World) (ht : TabAt w tb gb seed S n mk) (hgood : Good seed S m) (hG : S.G ≤ 64) (key : ByteArray) (hkey : key.size ≤ maxLen) :
    Calls Try.prog 22 #[.pointer (some ⟨tb, 0, none⟩), .string key] w fun e w' => e = .returned (.tuple #[.int .i64 ((m key).getD 0), .bool (m key).isSome]) ∧ Below w.heap.size w w' := by
  have HV := Lib.hid hgood.val
  go_enter Try.func22, Try.ntmps22
  go_wp2_with (go_at_call 54; refine (find_any _ ht hgood hG key hkey).mono ?_; rintro e w1 ⟨⟨g, i, hg, hi, hf, hk, rfl⟩ | ⟨hm, rfl⟩, hb⟩; have cv := (ht.below hb).cV g i hg hi)
  · have HM : m key = some (S.v g i) := by rw [← hk]; exact HV.out g i hg hi hf
    go_ret2
    exact ⟨by rw [HM]; rfl, hb⟩
  · go_ret2
    exact ⟨by rw [hm]; rfl, hb⟩
end Go.Proofs.Ytkkijcnipjojoaa
