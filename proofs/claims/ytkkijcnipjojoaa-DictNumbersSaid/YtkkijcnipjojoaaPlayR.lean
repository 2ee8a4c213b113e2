/- tallboylaw8.play: a region of its code, by its number; steps of its walk. -/
import Derived.Test.YtkkijcnipjojoaaPlayD8
import Derived.Deep.CutRange
import Derived.Deep.LoopGhost
namespace Go.Proofs.Ytkkijcnipjojoaa
open Go.RowKit

/-- The region of a number in a function's code. -/
def findRegion (n : Nat) : Code → Option Code
  | .region k ops d => if k = n then some (.region k ops d) else none
  | .seq a b => match findRegion n a with
    | some c => some c
    | none => findRegion n b
  | .block _ c => findRegion n c
  | .scope c => findRegion n c
  | .loop c => findRegion n c
  | .cond _ a b => match findRegion n a with
    | some c => some c
    | none => findRegion n b
  | _ => none
theorem news1 {W : World} {q : Nat} {v : Value} (h : W.cell? ⟨q, 0, none⟩ = some v) : ∀ (j : Nat) (u : Value), [v][j]? = some u → W.cell? ((⟨q, 0, none⟩ : Addr).add j) = some u := by
  intro j u hj
  cases j with
  | zero => simp at hj; subst hj; exact h
  | succ j => simp at hj
theorem b_one (w : World) (O : Obj) : Below w.heap.size w (w.alloc O).drew := ((Below.refl _ _).alloc (Nat.le_refl _) _).drew
theorem b_two (w : World) (O O' : Obj) : Below w.heap.size w ((w.alloc O).alloc O').drew := (((Below.refl _ _).alloc (Nat.le_refl _) _).alloc (by simp) _).drew
theorem b_al (w : World) (O : Obj) : Below w.heap.size w (w.alloc O) := (Below.refl _ _).alloc (Nat.le_refl _) _
theorem own_len {w : World} {B : Nat} {e : TypeId} {s : Nat} {v : Value} {n n' : Nat} {xs : List Value} (h : n = n') (ho : w.ownsRow B e s v n xs) : w.ownsRow B e s v n' xs := h ▸ ho
theorem c_new (w : World) (v : Value) (t : TypeId) : (w.alloc (.cells #[v] t)).cell? ⟨w.heap.size, 0, none⟩ = some v := by simp
theorem c_old (w : World) (v u : Value) (t s : TypeId) : ((w.alloc (.cells #[v] t)).alloc (.cells #[u] s)).cell? ⟨w.heap.size, 0, none⟩ = some v := by
  rw [World.cell?_of_block (a := ⟨w.heap.size, 0, none⟩) (heap_alloc_old _ _ (by simp))]; exact c_new w v t
theorem c_new2 (w : World) (O : Obj) (v : Value) (t : TypeId) : ((w.alloc O).alloc (.cells #[v] t)).cell? ⟨w.heap.size + 1, 0, none⟩ = some v := by
  have h := c_new (w.alloc O) v t
  rw [World.size_alloc] at h
  exact h
theorem c_newd (w : World) (v : Value) (t : TypeId) : (w.alloc (.cells #[v] t)).drew.cell? ⟨w.heap.size, 0, none⟩ = some v := c_new w v t
theorem c_oldd (w : World) (v u : Value) (t s : TypeId) : ((w.alloc (.cells #[v] t)).alloc (.cells #[u] s)).drew.cell? ⟨w.heap.size, 0, none⟩ = some v := c_old w v u t s
theorem c_new2d (w : World) (O : Obj) (v : Value) (t : TypeId) : ((w.alloc O).alloc (.cells #[v] t)).drew.cell? ⟨w.heap.size + 1, 0, none⟩ = some v := c_new2 w O v t
theorem b_one2 (w : World) (O : Obj) : Below w.heap.size w (w.alloc O).drew.drew := (((Below.refl _ _).alloc (Nat.le_refl _) _).drew).drew
theorem b_two2 (w : World) (O O' : Obj) : Below w.heap.size w ((w.alloc O).alloc O').drew.drew := ((((Below.refl _ _).alloc (Nat.le_refl _) _).alloc (by simp) _).drew).drew
theorem play_growK {w wr w' : World} {tb gb g cap H : Nat} {seed : Int} {m : ByteArray → Option Int} {ks : List ByteArray} {vs : List Int} {vk vv : Value} {key : ByteArray} (h : PM w wr tb gb seed m ks vs vk vv)
    (h2 : w'.ownsRow w.heap.size 9 1 (.slice (some ⟨g, 0, none⟩) (ks.length + 1) cap) (ks.length + 1) (ks.map Value.string ++ [.string key])) (h3 : wr.grownBy w' vk.ownBlock) (h4 : vk.ownBlock = some g ∨ g = H) (hH : wr.heap.size ≤ H) :
    PM w w' tb gb seed m (ks ++ [key]) vs (.slice (some ⟨g, 0, none⟩) (ks.length + 1) cap) vv :=
  h.growK (ks' := ks ++ [key]) (by rw [List.length_append, List.length_singleton, List.map_append]; exact h2) h3 (by
    rcases h4 with h4 | h4
    · exact .inl h4.symm
    · exact .inr ⟨g, rfl, by omega⟩)
theorem play_growV {w wr w' : World} {tb gb g cap H n : Nat} {seed : Int} {m : ByteArray → Option Int} {ks : List ByteArray} {vs : List Int} {vk vv : Value} {x : Int} (hn : vs.length = n) (h : PM w wr tb gb seed m ks vs vk vv)
    (h2 : w'.ownsRow w.heap.size 3 1 (.slice (some ⟨g, 0, none⟩) (n + 1) cap) (n + 1) (vs.map (Value.int .i64) ++ [.int .i64 x])) (h3 : wr.grownBy w' vv.ownBlock) (h4 : vv.ownBlock = some g ∨ g = H) (hH : wr.heap.size ≤ H) :
    PM w w' tb gb seed m ks (vs ++ [x]) vk (.slice (some ⟨g, 0, none⟩) (n + 1) cap) := by
  subst hn
  exact h.growV (vs' := vs ++ [x]) (by rw [List.length_append, List.length_singleton, List.map_append]; exact h2) h3 (by
    rcases h4 with h4 | h4
    · exact .inl h4.symm
    · exact .inr ⟨g, rfl, by omega⟩)
theorem far_cell {w w' : World} {row : Option Nat} (hg : w.grownBy w' row) (q : Nat) (h1 : q < w.heap.size) (h2 : some q ≠ row) : w'.cell? ⟨q, 0, none⟩ = w.cell? ⟨q, 0, none⟩ :=
  World.cell?_of_block (hg.block q h1 h2)

end Go.Proofs.Ytkkijcnipjojoaa
