/- A list of asks that a law builds itself. -/
import Derived.Test.YtkkijcnipjojoaaAsks
import Derived.Test.YtkkijcnipjojoaaTabMem
import Derived.Deep.AppendLies
namespace Go.Proofs.Ytkkijcnipjojoaa
open Go.RowKit

theorem info_ask8 : (Try.prog.info? 37).map (fun i => (i.zero.map (·.cells), i.size, i.bytes)) = some (some #[.int .i64 0, .int .i64 0, .int .i64 0, .string ByteArray.empty], 4, 40) := by kernel_rfl
def askC (x : AskR) : List Value := [.int .i64 x.kind, .int .i64 x.n, .int .i64 x.v, .string x.s]
def asksC (zs : List AskR) : List Value := zs.flatMap askC
theorem asksC_len (zs : List AskR) : (asksC zs).length = zs.length * 4 := by
  induction zs with
  | nil => rfl
  | cons x zs ih => simp only [asksC, List.flatMap_cons, List.length_append, List.length_cons] at ih ⊢; rw [ih]; simp [askC]; omega
theorem asksC_at (zs : List AskR) : ∀ (i : Nat) (x : AskR), zs[i]? = some x → ∀ q, q < 4 → (asksC zs)[i * 4 + q]? = (askC x)[q]? := by
  induction zs with
  | nil => intro i x h; simp at h
  | cons y zs ih =>
    intro i x h q hq
    show (askC y ++ asksC zs)[i * 4 + q]? = _
    have h4 : (askC y).length = 4 := rfl
    cases i with
    | zero =>
      simp only [List.getElem?_cons_zero, Option.some.injEq] at h
      subst h
      rw [List.getElem?_append_left (by omega), Nat.zero_mul, Nat.zero_add]
    | succ i =>
      rw [List.getElem?_append_right (by omega), h4, show (i + 1) * 4 + q - 4 = i * 4 + q by omega]
      exact ih i x (by simpa using h) q hq
theorem asks_of_owns {w : World} {B : Nat} {e : TypeId} {v : Value} {zs : List AskR} (h : w.ownsRow B e 4 v zs.length (asksC zs)) : AsksAt w v zs := by
  rcases id h.2 with ⟨rfl, h0⟩ | ⟨g, cap, cur, rfl, hg, hh, h1, h2, h3, h4⟩
  · have : zs = [] := List.length_eq_zero_iff.1 h0
    subst this
    exact ⟨none, 0, rfl, by decide, fun i x hx => by simp at hx⟩
  · refine ⟨_, cap, rfl, by omega, fun i x hx => ⟨g, 0, rfl, ?_⟩⟩
    have hi : i < zs.length := (List.getElem?_eq_some_iff.1 hx).1
    have key : ∀ q, q < 4 → w.cell? ⟨g, 0 + i * 4 + q, none⟩ = (askC x)[q]? := fun q hq => by
      rw [Nat.zero_add, h.cellAt (i * 4 + q) (by omega)]; exact asksC_at zs i x hx q hq
    exact ⟨key 0 (by omega), key 1 (by omega), key 2 (by omega), key 3 (by omega)⟩
theorem asksC_snoc (zs : List AskR) (x : AskR) : asksC (zs ++ [x]) = asksC zs ++ askC x := by simp [asksC]
theorem ask_cell (x : AskR) : ∀ u ∈ askC x, u.oneCell' = true := by
  intro u hu
  simp only [askC, List.mem_cons, List.not_mem_nil, or_false] at hu
  rcases hu with rfl | rfl | rfl | rfl <;> rfl
end Go.Proofs.Ytkkijcnipjojoaa
