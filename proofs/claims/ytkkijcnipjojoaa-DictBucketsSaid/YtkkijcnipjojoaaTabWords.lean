/- Contracts of package table: Words. -/
import Derived.Test.YtkkijcnipjojoaaTabKeys2
namespace Go.Proofs.Ytkkijcnipjojoaa
open Go.RowKit

theorem info_word : (Try.prog.info? 81).map (fun i => (i.zero, i.size, i.bytes)) = some (some (.int .u64 0), 1, 8) := by kernel_rfl
def wordsL (S : Grps) (n : Nat) : List Value := (List.range n).map fun g => Value.int .u64 (S.w g)
theorem wordsL_succ (S : Grps) (n : Nat) : wordsL S (n + 1) = wordsL S n ++ [Value.int .u64 (S.w n)] := by simp [wordsL, List.range_succ]
theorem wordsL_len (S : Grps) (n : Nat) : (wordsL S n).length = n := by simp [wordsL]

set_option maxRecDepth 100000 in
set_option maxHeartbeats 1000000 in
theorem words_any {tb gb : Nat} {seed : Int} {S : Grps} {m : ByteArray → Option Int} (w : World) (hT : Tab w tb gb seed S m) :
    Calls Try.prog 64 #[.pointer (some ⟨tb, 0, none⟩)] w fun e w' => ∃ v, e = .returned v ∧ w'.ownsRow w.heap.size 81 1 v S.G (wordsL S S.G) ∧ Below w.heap.size w w' := by
  obtain ⟨i0, hi, hz0, hz1, hz2⟩ := info_parts info_word
  obtain ⟨l1, l2⟩ := hT.at'.lt
  have hS := hT.gle
  have cg := hT.at'.cGroups
  go_enter Try.func64, Try.ntmps64
  go_wp2
  go_loopw [3, 10] (fun v j wr => ∃ g : Nat, g ≤ S.G ∧ j = .int .i64 g ∧ wr.ownsRow w.heap.size 81 1 v g (wordsL S g) ∧ Below w.heap.size w wr) (fun _ j _ => S.G - (intOf j).toNat)
  case atStart => exact ⟨0, by omega, rfl, World.ownsRow_nil _ _ _ _, Below.refl _ _⟩
  case round =>
    clear cg
    obtain ⟨g, hg, rfl, hown, hb⟩ := hrel
    have hT1 := (hT.later hb).at'
    have cg := hT1.cGroups
    by_cases hlt : g < S.G
    · have cw := hT1.cW g hlt
      have hsz := hb.size
      go_wp2_with (at_builtin; refine wpList_append_own _ rfl (.tmp 13) (.tmp 22) 91 rfl w.heap.size 81 i0 (.int .u64 0) 1 8 Try.underlying91 hi hz0 hz1 hz2 rfl (by decide) _ _ _ rfl (hown.alloc _) ⟨wr.heap.size, 0, none⟩ 1 1 [.int .u64 (S.w g)] rfl rfl (cell1 _ _ _) int_cell (by unfold maxLen; omega) (by omega) (by simp; omega) ?_; intro v' w1 hown' hgr _; have hbl0 := grown_below (hown.alloc (Obj.cells #[.int .u64 (S.w g)] 81)) hgr (by simp; omega))
      go_roundw
      case rel => exact ⟨g + 1, by omega, by go_num, by rw [wordsL_succ]; exact hown', (hb.alloc hsz _).trans hbl0⟩
      case measure => simp [intOf]; omega
    · obtain rfl : g = S.G := by omega
      obtain ⟨a, c, rfl⟩ := owns_slice hown
      go_wp2
      go_ret
      exact ⟨_, rfl, hown, hb⟩
end Go.Proofs.Ytkkijcnipjojoaa
