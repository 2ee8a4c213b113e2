/- Slices that read as lists of numbers: no program in sight. -/
import Derived.Test.YtpmmfilodillmaaPlain6
import Derived.WalkKit
namespace Go.Proofs.Ytpmmfilodillmaa
open Go.RowKit

/-- A slice that reads as a list of numbers. -/
def Reads (kd : IntKind) (w : World) (v : Value) (zs : List Int) : Prop :=
  ∃ a c, v = .slice a zs.length c ∧ zs.length ≤ maxLen ∧ ∀ i x, zs[i]? = some x → ∃ b off, a = some ⟨b, off, none⟩ ∧ w.cell? ⟨b, off + i, none⟩ = some (.int kd x)

theorem Reads.drewN {kd : IntKind} {w : World} {v : Value} {zs : List Int} (h : Reads kd w v zs) (m : Nat) : Reads kd (w.drewN m) v zs := h
theorem Reads.nil (kd : IntKind) (w : World) : Reads kd w (.slice none 0 0) [] := ⟨none, 0, rfl, by decide, fun i x h => by simp at h⟩
theorem Reads.owns {kd : IntKind} {w : World} {B : Nat} {e : TypeId} {v : Value} {n : Nat} {zs : List Int} (h : w.ownsRow B e 1 v n (zs.map (Value.int kd))) : Reads kd w v zs := by
  have hl : zs.length = n := by have := h.1; simpa using this
  obtain ⟨h1, ⟨rfl, h3⟩ | ⟨g, cap, cur, rfl, hg, hh, hle, hm, hs, ht⟩⟩ := id h
  · subst h3
    have : zs = [] := List.length_eq_zero_iff.1 hl
    subst this
    exact Reads.nil _ _
  · refine ⟨_, cap, by rw [hl], by omega, fun i x hx => ⟨g, 0, rfl, ?_⟩⟩
    have hi : i < zs.length := (List.getElem?_eq_some_iff.1 hx).1
    rw [Nat.zero_add, h.cellAt i (by omega), List.getElem?_map, hx]; rfl

/-- A slice that is built of numbers. -/
theorem Reads.made (kd : IntKind) (w : World) (t : TypeId) (cs : Array Value) (zs : List Int) (c n : Nat) (hcs : cs.toList = zs.map (Value.int kd)) (hn : n = zs.length) (hm : zs.length ≤ maxLen) :
    Reads kd (w.alloc (.cells cs t)) (.slice (some ⟨w.heap.size, 0, none⟩) n c) zs := by
  refine ⟨_, c, by rw [hn], hm, fun i x hx => ⟨_, _, rfl, ?_⟩⟩
  have : cs[i]? = some (.int kd x) := by rw [← Array.getElem?_toList, hcs, List.getElem?_map, hx]; rfl
  simp [this]

theorem same_lt {xs ys : List Int} {k : Nat} (h : xs.take k = ys.take k) {x : Int} (hx : xs[k]? = some x) (hy : ys[k]? = some x) : xs.take (k + 1) = ys.take (k + 1) := by
  rw [List.take_add_one, List.take_add_one, h, hx, hy]

end Go.Proofs.Ytpmmfilodillmaa
