/- Slices of strings of the call's own: read, appended to, kept. -/
import Derived.Test.YtkkijcnipjojoaaHash
import Derived.Test.YtkkijcnipjojoaaAppend
namespace Go.Proofs.Ytkkijcnipjojoaa
open Go.RowKit

theorem info_str : (Try.prog.info? 9).map (fun i => (i.zero, i.size, i.bytes)) = some (some (.string ByteArray.empty), 1, 16) := by kernel_rfl

/-- A slice whose elements of one cell are these. -/
def ReadsV (w : World) (v : Value) (zs : List Value) : Prop :=
  ∃ a c, v = .slice a zs.length c ∧ zs.length ≤ maxLen ∧ ∀ i x, zs[i]? = some x → ∃ b off, a = some ⟨b, off, none⟩ ∧ w.cell? ⟨b, off + i, none⟩ = some x
theorem ReadsV.nil (w : World) : ReadsV w (.slice none 0 0) [] := ⟨none, 0, rfl, by decide, fun i x h => by simp at h⟩
theorem ReadsV.drewN {w : World} {v : Value} {zs : List Value} (h : ReadsV w v zs) (m : Nat) : ReadsV (w.drewN m) v zs := h
theorem ReadsV.owns {w : World} {B : Nat} {e : TypeId} {v : Value} {n : Nat} {zs : List Value} (h : w.ownsRow B e 1 v n zs) : ReadsV w v zs := by
  have hl : zs.length = n := by have := h.1; simpa using this
  obtain ⟨h1, ⟨rfl, h3⟩ | ⟨g, cap, cur, rfl, hg, hh, hle, hm, hs, ht⟩⟩ := id h
  · subst h3
    have : zs = [] := List.length_eq_zero_iff.1 hl
    subst this
    exact ReadsV.nil _
  · refine ⟨_, cap, by rw [hl], by omega, fun i x hx => ⟨g, 0, rfl, ?_⟩⟩
    have hi : i < zs.length := (List.getElem?_eq_some_iff.1 hx).1
    rw [Nat.zero_add, h.cellAt i (by omega), hx]

/-- What an own row's value is. -/
theorem owns_slice {w : World} {B : Nat} {e : TypeId} {s : Nat} {v : Value} {n : Nat} {xs : List Value} (h : w.ownsRow B e s v n xs) : ∃ a c, v = .slice a n c := by
  rcases h.2 with ⟨rfl, rfl⟩ | ⟨g, cap, cur, rfl, _⟩
  · exact ⟨none, 0, rfl⟩
  · exact ⟨_, _, rfl⟩
theorem owns_maxLen {w : World} {B : Nat} {e : TypeId} {s : Nat} {v : Value} {n : Nat} {xs : List Value} (h : w.ownsRow B e s v n xs) : n ≤ maxLen := by
  rcases h.2 with ⟨_, rfl⟩ | ⟨g, cap, cur, rfl, _, _, h1, h2, _⟩
  · unfold maxLen; omega
  · omega

theorem cell1 (w : World) (v : Value) (t : TypeId) : ∀ (j : Nat) (u : Value), [v][j]? = some u → (w.alloc (.cells #[v] t)).cell? ((⟨w.heap.size, 0, none⟩ : Addr).add j) = some u := by
  intro j u hj
  cases j with
  | zero => simp at hj; subst hj; simp [Addr.add]
  | succ j => simp at hj
theorem str_cell {k : ByteArray} : ∀ u ∈ [Value.string k], u.oneCell' = true := by intro u hu; simp at hu; subst hu; rfl
theorem int_cell {d : IntKind} {n : Int} : ∀ u ∈ [Value.int d n], u.oneCell' = true := by intro u hu; simp at hu; subst hu; rfl

/-- What is kept when a row grows: all blocks ahead of its base. -/
theorem grown_below {w w' : World} {B : Nat} {e : TypeId} {s : Nat} {v : Value} {n : Nat} {xs : List Value} (h : w.ownsRow B e s v n xs) (hg : w.grownBy w' v.ownBlock) (hB : B ≤ w.heap.size) : Below B w w' :=
  ⟨hg.os, hg.tape, hg.output, hg.size, fun k hk => hg.block k (by omega) (fun e => by have := h.lt k e.symm; omega)⟩
end Go.Proofs.Ytkkijcnipjojoaa
