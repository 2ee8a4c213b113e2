/- A table of groups in memory: two blocks, read and written. -/
import Derived.Test.YtkkijcnipjojoaaPlainT
import Derived.Test.YtkkijcnipjojoaaSlots
import Derived.Test.YtkkijcnipjojoaaAppend
namespace Go.Proofs.Ytkkijcnipjojoaa
open Go.RowKit

/-- A cell of the groups' block. -/
def cellG (S : Grps) (j : Nat) : Value :=
  if j % 17 = 0 then .int .u64 (S.w (j / 17)) else if j % 17 % 2 = 1 then .string (S.k (j / 17) (j % 17 / 2)) else .int .i64 (S.v (j / 17) (j % 17 / 2 - 1))
def flatG (S : Grps) : Array Value := (Array.range (17 * S.G)).map (cellG S)
theorem flat_size (S : Grps) : (flatG S).size = 17 * S.G := by simp [flatG]
theorem flat_at (S : Grps) (j : Nat) (h : j < 17 * S.G) : (flatG S)[j]? = some (cellG S j) := by
  simp [flatG, h]
theorem cell_w (S : Grps) (g : Nat) : cellG S (g * 17) = .int .u64 (S.w g) := by
  unfold cellG
  rw [if_pos (by omega), show g * 17 / 17 = g by omega]
theorem cell_k (S : Grps) (g i : Nat) (hi : i < 8) : cellG S (g * 17 + 1 + i * 2) = .string (S.k g i) := by
  have e1 : (g * 17 + 1 + i * 2) % 17 = 1 + 2 * i := by omega
  have e2 : (g * 17 + 1 + i * 2) / 17 = g := by omega
  unfold cellG
  rw [e1, e2, if_neg (by omega), if_pos (by omega), show (1 + 2 * i) / 2 = i by omega]
theorem cell_v (S : Grps) (g i : Nat) (hi : i < 8) : cellG S (g * 17 + 1 + i * 2 + 1) = .int .i64 (S.v g i) := by
  have e1 : (g * 17 + 1 + i * 2 + 1) % 17 = 2 + 2 * i := by omega
  have e2 : (g * 17 + 1 + i * 2 + 1) / 17 = g := by omega
  unfold cellG
  rw [e1, e2, if_neg (by omega), if_neg (by omega), show (2 + 2 * i) / 2 - 1 = i by omega]

theorem flat_ext (S : Grps) (A : Array Value) (hs : A.size = 17 * S.G) (h : ∀ j, j < 17 * S.G → A[j]? = some (cellG S j)) : A = flatG S := by
  apply Array.ext_getElem?
  intro j
  by_cases c : j < 17 * S.G
  · rw [h j c, flat_at S j c]
  · rw [Array.getElem?_eq_none (by omega), Array.getElem?_eq_none (by rw [flat_size]; omega)]
theorem flat_set (S T : Grps) (j : Nat) (x : Value) (hj : j < 17 * S.G) (hG : T.G = S.G) (h1 : cellG T j = x) (h2 : ∀ q, q < 17 * S.G → q ≠ j → cellG T q = cellG S q) :
    (flatG S).setIfInBounds j x = flatG T := by
  apply flat_ext
  · simp [flat_size, hG]
  · intro q hq
    rw [Array.getElem?_setIfInBounds]
    by_cases c : j = q
    · subst c; rw [if_pos rfl, if_pos (by rw [flat_size]; exact hj), h1]
    · rw [if_neg c, flat_at S q (by omega), h2 q (by omega) (fun e => c e.symm)]

def setWG (S : Grps) (g : Nat) (x : Int) : Grps := ⟨S.G, updW S.w g x, S.k, S.v⟩
def setKG (S : Grps) (g i : Nat) (k : ByteArray) : Grps := ⟨S.G, S.w, fun a b => if a = g ∧ b = i then k else S.k a b, S.v⟩
theorem flat_setW (S : Grps) (g : Nat) (x : Int) (hg : g < S.G) : (flatG S).setIfInBounds (g * 17) (.int .u64 x) = flatG (setWG S g x) := by
  refine flat_set S _ _ _ (by omega) rfl (by rw [cell_w]; simp [setWG, updW]) fun q _ hne => ?_
  unfold cellG setWG updW
  by_cases c : q % 17 = 0
  · rw [if_pos c, if_pos c]; simp only; rw [if_neg (by omega)]
  · rw [if_neg c, if_neg c]
theorem flat_setK (S : Grps) (g i : Nat) (k : ByteArray) (hg : g < S.G) (hi : i < 8) : (flatG S).setIfInBounds (g * 17 + 1 + i * 2) (.string k) = flatG (setKG S g i k) := by
  refine flat_set S _ _ _ (by omega) rfl (by rw [cell_k _ _ _ hi]; simp [setKG]) fun q _ hne => ?_
  unfold cellG setKG
  by_cases c : q % 17 = 0
  · rw [if_pos c, if_pos c]
  · rw [if_neg c, if_neg c]
    by_cases c2 : q % 17 % 2 = 1
    · rw [if_pos c2, if_pos c2]; simp only; rw [if_neg (by omega)]
    · rw [if_neg c2, if_neg c2]
theorem flat_setV (S : Grps) (g i : Nat) (x : Int) (hg : g < S.G) (hi : i < 8) : (flatG S).setIfInBounds (g * 17 + 1 + i * 2 + 1) (.int .i64 x) = flatG (valG S g i x) := by
  refine flat_set S _ _ _ (by omega) rfl (by rw [cell_v _ _ _ hi]; simp [valG]) fun q _ hne => ?_
  unfold cellG valG
  by_cases c : q % 17 = 0
  · rw [if_pos c, if_pos c]
  · rw [if_neg c, if_neg c]
    by_cases c2 : q % 17 % 2 = 1
    · rw [if_pos c2, if_pos c2]
    · rw [if_neg c2, if_neg c2]; simp only; rw [if_neg (by omega)]
theorem putG_eq (S : Grps) (g i : Nat) (c : Int) (k : ByteArray) (v : Int) : valG (setKG (setWG S g (putI (S.w g) i c)) g i k) g i v = putG S g i c k v := rfl

/-- A table at its two blocks. -/
structure TabAt (w : World) (tb gb : Nat) (seed : Int) (S : Grps) (n mk : Int) : Prop where
  ht : w.heap[tb]? = some (.cells #[.int .u64 seed, .slice (some ⟨gb, 0, none⟩) S.G S.G, .int .i64 n, .int .i64 mk] 75 (0, 0))
  hg : w.heap[gb]? = some (.cells (flatG S) 84 (0, 0))
  ne : tb ≠ gb

variable {w w' : World} {tb gb : Nat} {seed : Int} {S : Grps} {n mk : Int}
theorem TabAt.lt (h : TabAt w tb gb seed S n mk) : tb < w.heap.size ∧ gb < w.heap.size :=
  ⟨(Array.getElem?_eq_some_iff.1 h.ht).1, (Array.getElem?_eq_some_iff.1 h.hg).1⟩
theorem TabAt.cSeed (h : TabAt w tb gb seed S n mk) : w.cell? ⟨tb, 0, none⟩ = some (.int .u64 seed) := by rw [cell_of_row _ _ _ _ _ _ h.ht]; rfl
theorem TabAt.cGroups (h : TabAt w tb gb seed S n mk) : w.cell? ⟨tb, 1, none⟩ = some (.slice (some ⟨gb, 0, none⟩) S.G S.G) := by rw [cell_of_row _ _ _ _ _ _ h.ht]; rfl
theorem TabAt.cN (h : TabAt w tb gb seed S n mk) : w.cell? ⟨tb, 2, none⟩ = some (.int .i64 n) := by rw [cell_of_row _ _ _ _ _ _ h.ht]; rfl
theorem TabAt.cMarks (h : TabAt w tb gb seed S n mk) : w.cell? ⟨tb, 3, none⟩ = some (.int .i64 mk) := by rw [cell_of_row _ _ _ _ _ _ h.ht]; rfl
theorem TabAt.cW (h : TabAt w tb gb seed S n mk) (g : Nat) (hg : g < S.G) : w.cell? ⟨gb, g * 17, none⟩ = some (.int .u64 (S.w g)) := by
  rw [cell_of_row _ _ _ _ _ _ h.hg, flat_at _ _ (by omega), cell_w]
theorem TabAt.cK (h : TabAt w tb gb seed S n mk) (g i : Nat) (hg : g < S.G) (hi : i < 8) : w.cell? ⟨gb, g * 17 + 1 + i * 2, none⟩ = some (.string (S.k g i)) := by
  rw [cell_of_row _ _ _ _ _ _ h.hg, flat_at _ _ (by omega), cell_k _ _ _ hi]
theorem TabAt.cV (h : TabAt w tb gb seed S n mk) (g i : Nat) (hg : g < S.G) (hi : i < 8) : w.cell? ⟨gb, g * 17 + 1 + i * 2 + 1, none⟩ = some (.int .i64 (S.v g i)) := by
  rw [cell_of_row _ _ _ _ _ _ h.hg, flat_at _ _ (by omega), cell_v _ _ _ hi]
theorem TabAt.later (h : TabAt w tb gb seed S n mk) (h1 : w'.heap[tb]? = w.heap[tb]?) (h2 : w'.heap[gb]? = w.heap[gb]?) : TabAt w' tb gb seed S n mk :=
  ⟨h1.trans h.ht, h2.trans h.hg, h.ne⟩
theorem TabAt.below (h : TabAt w tb gb seed S n mk) (hb : Below w.heap.size w w') : TabAt w' tb gb seed S n mk :=
  h.later (hb.block _ h.lt.1) (hb.block _ h.lt.2)

theorem info_grp : (Try.prog.info? 84).map (fun i => (i.zero.map (·.cells), i.size, i.bytes)) = some (some #[.int .u64 0, .string ByteArray.empty, .int .i64 0, .string ByteArray.empty, .int .i64 0, .string ByteArray.empty, .int .i64 0, .string ByteArray.empty, .int .i64 0, .string ByteArray.empty, .int .i64 0, .string ByteArray.empty, .int .i64 0, .string ByteArray.empty, .int .i64 0, .string ByteArray.empty, .int .i64 0], 17, 200) := by kernel_rfl
theorem info_parts3 {P : Program} {t : TypeId} {z : Array Value} {s b : Nat} (h : (P.info? t).map (fun i => (i.zero.map (·.cells), i.size, i.bytes)) = some (some z, s, b)) :
    ∃ i v, P.info? t = some i ∧ i.zero = some v ∧ v.cells = z ∧ i.size = s ∧ i.bytes = b := by
  cases hi : P.info? t with
  | none => rw [hi] at h; cases h
  | some i =>
    rw [hi] at h
    simp only [Option.map_some, Option.some.injEq, Prod.mk.injEq] at h
    obtain ⟨h1, h2, h3⟩ := h
    cases hz : i.zero with
    | none => rw [hz] at h1; cases h1
    | some v => rw [hz] at h1; exact ⟨i, v, rfl, hz, by simpa using h1, h2, h3⟩

theorem made_flat (n : Nat) (z : Array Value) (hz : z = #[.int .u64 0, .string ByteArray.empty, .int .i64 0, .string ByteArray.empty, .int .i64 0, .string ByteArray.empty, .int .i64 0, .string ByteArray.empty, .int .i64 0, .string ByteArray.empty, .int .i64 0, .string ByteArray.empty, .int .i64 0, .string ByteArray.empty, .int .i64 0, .string ByteArray.empty, .int .i64 0]) :
    madeCells z (n * 17) = flatG ⟨n, fun _ => 0, fun _ _ => ByteArray.empty, fun _ _ => 0⟩ := by
  apply flat_ext
  · rw [size_madeCells]; show n * 17 = 17 * n; omega
  · intro j hj
    have hj' : j < n * 17 := by have : j < 17 * n := hj; omega
    unfold madeCells
    rw [Array.getElem?_map, Array.getElem?_range, if_pos hj']
    have hs : z.size = 17 := by rw [hz]; rfl
    simp only [Option.map_some, hs, cellG]
    have hr : j % 17 < 17 := Nat.mod_lt _ (by omega)
    generalize j % 17 = r at hr
    subst hz
    congr 1
    have : ∀ r, r < 17 → (#[.int .u64 0, .string ByteArray.empty, .int .i64 0, .string ByteArray.empty, .int .i64 0, .string ByteArray.empty, .int .i64 0, .string ByteArray.empty, .int .i64 0, .string ByteArray.empty, .int .i64 0, .string ByteArray.empty, .int .i64 0, .string ByteArray.empty, .int .i64 0, .string ByteArray.empty, .int .i64 0] : Array Value)[r]! = if r = 0 then .int .u64 0 else if r % 2 = 1 then .string ByteArray.empty else .int .i64 0 := by
      intro r hr
      match r, hr with
      | 0, _ => rfl
      | 1, _ => rfl
      | 2, _ => rfl
      | 3, _ => rfl
      | 4, _ => rfl
      | 5, _ => rfl
      | 6, _ => rfl
      | 7, _ => rfl
      | 8, _ => rfl
      | 9, _ => rfl
      | 10, _ => rfl
      | 11, _ => rfl
      | 12, _ => rfl
      | 13, _ => rfl
      | 14, _ => rfl
      | 15, _ => rfl
      | 16, _ => rfl
      | r + 17, hr => omega
    exact this r hr
end Go.Proofs.Ytkkijcnipjojoaa
