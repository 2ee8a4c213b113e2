/- Slices that read as lists of numbers: no program in sight. -/
import Derived.Test.YtkkijcnipjojoaaPlain6
import Derived.WalkKit
import Derived.OpenShut
namespace Go.Proofs.Ytkkijcnipjojoaa
open Go.RowKit

/-- A slice that reads as a list of numbers. -/
def Reads (kd : IntKind) (w : World) (v : Value) (zs : List Int) : Prop :=
  ∃ a c, v = .slice a zs.length c ∧ zs.length ≤ maxLen ∧ ∀ i x, zs[i]? = some x → ∃ b off, a = some ⟨b, off, none⟩ ∧ w.cell? ⟨b, off + i, none⟩ = some (.int kd x)

theorem Reads.drewN {kd : IntKind} {w : World} {v : Value} {zs : List Int} (h : Reads kd w v zs) (m : Nat) : Reads kd (w.drewN m) v zs := h
theorem Reads.nil (kd : IntKind) (w : World) : Reads kd w (.slice none 0 0) [] := ⟨none, 0, rfl, by decide, fun i x h => by simp at h⟩
theorem Reads.owns {kd : IntKind} {w : World} {B : Nat} {e : TypeId} {v : Value} {n : Nat} {zs : List Int} (h : w.ownsRow B e 1 v n (zs.map (Value.int kd))) : Reads kd w v zs := by
  have hl : zs.length = n := by have := h.1; simpa using this
  obtain ⟨h1, ⟨rfl, h3⟩ | ⟨g, cap, cur, rfl, hg, hh, hle, hm, hs, ht⟩⟩ := id h
  · subst h3
    have : zs = [] := List.length_eq_zero_iff.1 hl
    subst this
    exact Reads.nil _ _
  · refine ⟨_, cap, by rw [hl], by omega, fun i x hx => ⟨g, 0, rfl, ?_⟩⟩
    have hi : i < zs.length := (List.getElem?_eq_some_iff.1 hx).1
    rw [Nat.zero_add, h.cellAt i (by omega), List.getElem?_map, hx]; rfl

/-- A slice of numbers that came in. -/
theorem Reads.row {kd : IntKind} {w : World} {a : Option Addr} {len cap : Nat} {zs : List Int}
    (h : (a = none ∧ len = 0 ∧ cap = 0 ∧ zs = []) ∨ ∃ x, a = some x ∧ len ≤ cap ∧ cap ≤ maxLen ∧ zs.length = cap ∧ (∀ i, i < zs.length → w.cell? (x.add i) = some (.int kd (zs.getD i 0))) ∧ ∀ n ∈ zs, (Lit.int kd n).wf = true) :
    Reads kd w (.slice a len cap) (zs.take len) ∧ ∀ z ∈ zs.take len, (Lit.int kd z).wf = true := by
  rcases h with ⟨rfl, rfl, rfl, rfl⟩ | ⟨x, rfl, hl, hm, hz, hc, hw⟩
  · exact ⟨Reads.nil _ _, by simp⟩
  · have hlen : (zs.take len).length = len := by rw [List.length_take]; omega
    refine ⟨⟨some x, cap, by rw [hlen], by omega, fun i y hy => ?_⟩, fun z hz' => hw z (List.mem_of_mem_take hz')⟩
    have hi : i < len := by have := (List.getElem?_eq_some_iff.1 hy).1; omega
    obtain ⟨b, off, rfl, hc2⟩ := ints_at hc (by omega)
    refine ⟨b, off, rfl, ?_⟩
    rw [hc2 i (by omega)]
    have : zs[i]? = some y := by rw [List.getElem?_take, if_pos hi] at hy; exact hy
    simp [this]

/-- A slice that is built of numbers. -/
theorem Reads.made (kd : IntKind) (w : World) (t : TypeId) (cs : Array Value) (zs : List Int) (c n : Nat) (hcs : cs.toList = zs.map (Value.int kd)) (hn : n = zs.length) (hm : zs.length ≤ maxLen) :
    Reads kd (w.alloc (.cells cs t)) (.slice (some ⟨w.heap.size, 0, none⟩) n c) zs := by
  refine ⟨_, c, by rw [hn], hm, fun i x hx => ⟨_, _, rfl, ?_⟩⟩
  have : cs[i]? = some (.int kd x) := by rw [← Array.getElem?_toList, hcs, List.getElem?_map, hx]; rfl
  simp [this]

/-- What a call leaves as it was, read again behind it. -/
theorem grown_of_below {w w' : World} (h : Below w.heap.size w w') : w.grownBy w' none := ⟨h.os, h.tape, h.output, h.size, fun k hk _ => h.block k hk⟩
theorem owns_later {w w' : World} {B : Nat} {e : TypeId} {s : Nat} {v : Value} {n : Nat} {xs : List Value} (h : w.ownsRow B e s v n xs) (hb : Below w.heap.size w w') : w'.ownsRow B e s v n xs :=
  h.kept (grown_of_below hb) (by cases v.ownBlock with | none => exact .inl rfl | some k => exact .inr (by simp))
theorem below_step {a b c : World} (h : Below a.heap.size a b) (k : Below b.heap.size b c) : Below a.heap.size a c := h.trans (k.mono h.size)
theorem below_draws {a b : World} (h : Below a.heap.size a b) (m : Nat) : Below a.heap.size a (b.drewN m) := below_step h ((IsDrew.one b m).below _)

theorem same_lt {xs ys : List Int} {k : Nat} (h : xs.take k = ys.take k) {x : Int} (hx : xs[k]? = some x) (hy : ys[k]? = some x) : xs.take (k + 1) = ys.take (k + 1) := by
  rw [List.take_add_one, List.take_add_one, h, hx, hy]

end Go.Proofs.Ytkkijcnipjojoaa
