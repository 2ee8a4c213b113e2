/- Contracts of package dict: New. -/
import Derived.Test.YtkkijcnipjojoaaDictPut
namespace Go.Proofs.Ytkkijcnipjojoaa
open Go.RowKit

theorem new_mem {W : World} {seed : Int} {ra ba ca db tb gb : Nat} (hA : W.heap[ra]? = some (.cells #[.pointer (some ⟨tb, 0, none⟩)] 23 (0, 0))) (hB : W.heap[ba]? = some (.cells #[.int .i64 0, .slice (some ⟨ra, 0, none⟩) 1 1] 96 (0, 0)))
    (hC : W.heap[ca]? = some (.cells #[.pointer (some ⟨ba, 0, none⟩)] 93 (0, 0))) (hD : W.heap[db]? = some (.cells #[.int .u64 seed, .int .i64 0, .slice (some ⟨ca, 0, none⟩) 1 1, .int .i64 0] 99 (0, 0))) (hT : TB W tb gb seed (fun _ => none)) :
    Dct W db seed (0, [⟨0, 0, []⟩]) (fun _ => none) (fun k => k = ra ∨ k = ba ∨ k = ca ∨ k = db ∨ k = tb ∨ k = gb) 0 := by
  have lT := hT.lt
  have hX : NdAt W seed ⟨ba, ra, 1, ⟨0, 0, []⟩, [⟨tb, gb, fun _ => none, []⟩]⟩ := by
    refine ⟨hB, ⟨rfl, .inr ⟨ra, 1, _, rfl, Nat.zero_le _, hA, Nat.le_refl _, by unfold maxLen; omega, rfl, rfl⟩⟩, ?_⟩
    intro s hs; rw [List.mem_singleton] at hs; subst hs; exact hT
  refine ⟨[⟨ba, ra, 1, ⟨0, 0, []⟩, [⟨tb, gb, fun _ => none, []⟩]⟩], ca, 1, rfl, ⟨hD, ?_, ?_, ?_, Apart.one _ _, by simp, by simp, ?_⟩, ⟨SOk.start seed, ?_, ?_, by simp [allK], by simp⟩⟩
  · exact ⟨rfl, .inr ⟨ca, 1, _, rfl, Nat.zero_le _, hC, Nat.le_refl _, by unfold maxLen; omega, rfl, rfl⟩⟩
  · intro x hx; rw [List.mem_singleton] at hx; subst hx; exact hX
  · intro x hx; rw [List.mem_singleton] at hx; subst hx
    rintro k (e | e | ⟨s, hs, e⟩)
    · simp only at e; simp [e]
    · simp only at e; simp [e]
    · simp only [List.mem_singleton] at hs; subst hs; simp only at e; rcases e with e | e <;> simp [e]
  · rintro k (e | e | e | e | e | e) <;> subst e
    · exact heap_lt' hA
    · exact heap_lt' hB
    · exact heap_lt' hC
    · exact heap_lt' hD
    · exact lT.1
    · exact lT.2.1
  · intro x hx; rw [List.mem_singleton] at hx; subst hx
    refine ⟨?_, ?_, ?_, by simp [flatT], fun _ => rfl, by simp, by simp⟩
    · intro s hs; rw [List.mem_singleton] at hs; subst hs; exact Card.nil
    · intro s hs; rw [List.mem_singleton] at hs; subst hs; simp
    · intro s hs k v hk; rw [List.mem_singleton] at hs; subst hs; cases hk
  · intro k; simp [allK]

set_option maxRecDepth 100000 in
set_option maxHeartbeats 1000000 in
theorem new_d (seed : Int) (w : World) : Calls Try.prog 32 #[.int .u64 seed] w fun e w' =>
    ∃ db F, e = .returned (.pointer (some ⟨db, 0, none⟩)) ∧ Dct w' db seed (0, [⟨0, 0, []⟩]) (fun _ => none) F 0 ∧ Below w.heap.size w w' ∧ ∀ k, F k → w.heap.size ≤ k := by
  go_enter Try.func32, Try.ntmps32
  go_wp2_with (go_at_call 15; refine (new_tb _ _).mono ?_; rintro e w1 ⟨tb, gb, rfl, h1, h2, hT, hb⟩)
  have hs := hb.size
  have lT := hT.lt
  go_ret
  refine ⟨_, _, rfl, new_mem (tb := tb) (gb := gb) (ra := w1.heap.size) (ba := w1.heap.size + 1) (ca := w1.heap.size + 1 + 1) ?_ ?_ ?_ ?_ ?_, ?_, ?_⟩
  iterate 4 (focus (repeat (first | (refine fh_new ?_; focus (simp; done)) | (refine fh_old ?_ ?_; focus (first | (simp; done) | (simp; omega))))))
  · exact hT.later ((((b_al8 _ _).trans ((b_al8 _ _).mono (by simp))).trans ((b_al8 _ _).mono (by simp; omega))).trans ((b_al8 _ _).mono (by simp; omega)))
  · exact hb.trans (((((b_al8 w1 _).trans ((b_al8 _ _).mono (by simp))).trans ((b_al8 _ _).mono (by simp; omega))).trans ((b_al8 _ _).mono (by simp; omega))).mono hs)
  · rintro k (e | e | e | e | e | e) <;> subst e
    · omega
    · omega
    · omega
    · first | omega | (simp; omega)
    · omega
    · omega
end Go.Proofs.Ytkkijcnipjojoaa
