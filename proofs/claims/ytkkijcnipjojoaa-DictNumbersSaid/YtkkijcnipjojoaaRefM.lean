/- The document's dict in memory; stores into its parts. -/
import Derived.Test.YtkkijcnipjojoaaDictB
import Derived.Deep.RegionLaw
import Derived.Deep.AppendLies
namespace Go.Proofs.Ytkkijcnipjojoaa
open Go.RowKit

/-- The cells of the parts. -/
def flatR (qs : List (PartR × Value)) : List Value := qs.flatMap fun q => [.int .i64 (q.1.dep : Nat), .int .u64 (q.1.bits : Nat), q.2]
theorem flatR_cons (a : PartR × Value) (l : List (PartR × Value)) : flatR (a :: l) = .int .i64 (a.1.dep : Nat) :: .int .u64 (a.1.bits : Nat) :: a.2 :: flatR l := rfl
theorem flatR_len (qs : List (PartR × Value)) : (flatR qs).length = qs.length * 3 := by
  induction qs with
  | nil => rfl
  | cons a l ih => rw [flatR_cons]; simp only [List.length_cons, ih]; omega
theorem flatR_at {qs : List (PartR × Value)} {j : Nat} {q : PartR × Value} (h : qs[j]? = some q) : (flatR qs)[j * 3]? = some (.int .i64 (q.1.dep : Nat)) ∧ (flatR qs)[j * 3 + 1]? = some (.int .u64 (q.1.bits : Nat)) ∧ (flatR qs)[j * 3 + 2]? = some q.2 := by
  induction qs generalizing j with
  | nil => simp at h
  | cons a l ih =>
    rw [flatR_cons]
    cases j with
    | zero =>
      simp only [List.getElem?_cons_zero, Option.some.injEq] at h
      subst h
      exact ⟨rfl, rfl, rfl⟩
    | succ j =>
      obtain ⟨h1, h2, h3⟩ := ih (by simpa using h)
      rw [show (j + 1) * 3 = j * 3 + 1 + 1 + 1 by omega, show j * 3 + 1 + 1 + 1 + 1 = (j * 3 + 1) + 1 + 1 + 1 by omega, show j * 3 + 1 + 1 + 1 + 2 = (j * 3 + 2) + 1 + 1 + 1 by omega]
      simp only [List.getElem?_cons_succ]
      exact ⟨h1, h2, h3⟩
theorem flatR_set {qs : List (PartR × Value)} {j : Nat} (q : PartR × Value) : flatR (qs.set j q) = (((flatR qs).set (j * 3) (.int .i64 (q.1.dep : Nat))).set (j * 3 + 1) (.int .u64 (q.1.bits : Nat))).set (j * 3 + 2) q.2 := by
  induction qs generalizing j with
  | nil => simp [flatR]
  | cons a l ih =>
    cases j with
    | zero => rfl
    | succ j =>
      rw [List.set_cons_succ, flatR_cons, flatR_cons, ih, show (j + 1) * 3 = j * 3 + 1 + 1 + 1 by omega, show j * 3 + 1 + 1 + 1 + 1 = (j * 3 + 1) + 1 + 1 + 1 by omega, show j * 3 + 1 + 1 + 1 + 2 = (j * 3 + 2) + 1 + 1 + 1 by omega]
      simp only [List.set_cons_succ]
theorem flatR_set2 {qs : List (PartR × Value)} {j : Nat} {q q' : PartR × Value} (h : qs[j]? = some q) (hd : q'.1.dep = q.1.dep) (hb : q'.1.bits = q.1.bits) : flatR (qs.set j q') = (flatR qs).set (j * 3 + 2) q'.2 := by
  obtain ⟨h1, h2, _⟩ := flatR_at h
  rw [flatR_set, hd, hb, set_self h1, set_self h2]
theorem flatR_snoc (qs : List (PartR × Value)) (q : PartR × Value) : flatR (qs ++ [q]) = flatR qs ++ [.int .i64 (q.1.dep : Nat), .int .u64 (q.1.bits : Nat), q.2] := by
  unfold flatR; simp

/-- The document's dict in memory: its parts, and the rows of their keys. -/
structure RMem (w : World) (rb rr rc : Nat) (seed : Int) (D : Nat) (qs : List (PartR × Value)) (G : Nat → Prop) : Prop where
  blk : w.heap[rb]? = some (.cells #[.int .u64 seed, .int .i64 (D : Nat), .slice (some ⟨rr, 0, none⟩) (qs.length : Nat) rc] 110 (0, 0))
  row : w.ownsRow 0 107 3 (.slice (some ⟨rr, 0, none⟩) qs.length rc) qs.length (flatR qs)
  keys : ∀ q ∈ qs, w.ownsRow 0 9 1 q.2 q.1.keys.length (q.1.keys.map Value.string)
  grb : G rb
  grr : G rr
  gk : ∀ q ∈ qs, ∀ b, q.2.ownBlock = some b → G b
  glt : ∀ k, G k → k < w.heap.size
theorem owns_block {w w' : World} {B : Nat} {e : TypeId} {s : Nat} {v : Value} {n : Nat} {xs : List Value} (h : w.ownsRow B e s v n xs) (hq : ∀ q, v.ownBlock = some q → w'.heap[q]? = w.heap[q]?) : w'.ownsRow B e s v n xs := by
  rcases id h.2 with ⟨rfl, rfl⟩ | ⟨g, cap, cur, rfl, _, hg, _⟩
  · exact ⟨h.1, .inl ⟨rfl, rfl⟩⟩
  · exact row_kept h (hq g rfl)
theorem owns_types {w : World} {B : Nat} {e : TypeId} {s : Nat} {v : Value} {n : Nat} {xs : List Value} (h : w.ownsRow B e s v n xs) : ∀ q, v.ownBlock = some q → ∃ c f, w.heap[q]? = some (.cells c e f) := by
  intro q hq
  rcases id h.2 with ⟨rfl, rfl⟩ | ⟨g, cap, cur, rfl, _, hg, _⟩
  · simp [Value.ownBlock] at hq
  · simp only [Value.ownBlock, Option.some.injEq] at hq
    subst hq
    exact ⟨_, _, hg⟩
section
variable {w w' : World} {rb rr rc : Nat} {seed : Int} {D : Nat} {qs : List (PartR × Value)} {G : Nat → Prop}
theorem RMem.stay (h : RMem w rb rr rc seed D qs G) (hs : w.heap.size ≤ w'.heap.size) (hb : ∀ k, G k → w'.heap[k]? = w.heap[k]?) : RMem w' rb rr rc seed D qs G :=
  ⟨(hb _ h.grb).trans h.blk, row_kept h.row (hb _ h.grr), fun q hq => owns_block (h.keys q hq) fun b hb' => hb _ (h.gk q hq b hb'), h.grb, h.grr, h.gk, fun k hk => by have := h.glt k hk; omega⟩
theorem RMem.step (h : RMem w rb rr rc seed D qs G) (hb : Below w.heap.size w w') : RMem w' rb rr rc seed D qs G := h.stay hb.size fun k hk => hb.block k (h.glt k hk)
theorem RMem.cells (h : RMem w rb rr rc seed D qs G) : w.cell? ⟨rb, 0, none⟩ = some (.int .u64 seed) ∧ w.cell? ⟨rb, 1, none⟩ = some (.int .i64 (D : Nat)) ∧ w.cell? ⟨rb, 2, none⟩ = some (.slice (some ⟨rr, 0, none⟩) (qs.length : Nat) rc) :=
  ⟨by rw [cell_of_row _ _ _ _ _ _ h.blk]; rfl, by rw [cell_of_row _ _ _ _ _ _ h.blk]; rfl, by rw [cell_of_row _ _ _ _ _ _ h.blk]; rfl⟩
theorem RMem.part (h : RMem w rb rr rc seed D qs G) {j : Nat} {q : PartR × Value} (hj : qs[j]? = some q) : w.cell? ⟨rr, j * 3, none⟩ = some (.int .i64 (q.1.dep : Nat)) ∧ w.cell? ⟨rr, j * 3 + 1, none⟩ = some (.int .u64 (q.1.bits : Nat)) ∧ w.cell? ⟨rr, j * 3 + 2, none⟩ = some q.2 := by
  have hl := (List.getElem?_eq_some_iff.1 hj).1
  obtain ⟨h1, h2, h3⟩ := flatR_at hj
  exact ⟨(h.row.cellAt _ (by omega)).trans h1, (h.row.cellAt _ (by omega)).trans h2, (h.row.cellAt _ (by omega)).trans h3⟩
theorem RMem.ne (h : RMem w rb rr rc seed D qs G) : rb ≠ rr := by
  obtain ⟨_, _, hr⟩ := row_block h.row
  exact type_ne h.blk hr (by decide)
/-- The rows of keys are other blocks than the dict's and its parts'. -/
theorem RMem.kne (h : RMem w rb rr rc seed D qs G) {q : PartR × Value} (hq : q ∈ qs) : ∀ b, q.2.ownBlock = some b → b ≠ rb ∧ b ≠ rr := by
  intro b hb
  obtain ⟨_, _, hk⟩ := owns_types (h.keys q hq) b hb
  obtain ⟨_, _, hr⟩ := row_block h.row
  exact ⟨type_ne hk h.blk (by decide), type_ne hk hr (by decide)⟩
end

/-- The document's dict: its state (depth, parts), where it lies, a bound of its keys. -/
def Rct (w : World) (rb : Nat) (seed : Int) (S : Nat × List PartR) (G : Nat → Prop) (L : Nat) : Prop :=
  ∃ qs rr rc, qs.map (·.1) = S.2 ∧ RMem w rb rr rc seed S.1 qs G ∧ SOk seed S.1 S.2 ∧ (allK S.2).length ≤ L
section
variable {w w' : World} {rb : Nat} {seed : Int} {S : Nat × List PartR} {G : Nat → Prop} {L L' : Nat}
theorem Rct.step (h : Rct w rb seed S G L) (hb : Below w.heap.size w w') : Rct w' rb seed S G L := by
  obtain ⟨qs, rr, rc, h1, h2, h3⟩ := h
  exact ⟨qs, rr, rc, h1, h2.step hb, h3⟩
theorem Rct.stay (h : Rct w rb seed S G L) (hs : w.heap.size ≤ w'.heap.size) (hb : ∀ k, G k → w'.heap[k]? = w.heap[k]?) : Rct w' rb seed S G L := by
  obtain ⟨qs, rr, rc, h1, h2, h3⟩ := h
  exact ⟨qs, rr, rc, h1, h2.stay hs hb, h3⟩
theorem Rct.lt (h : Rct w rb seed S G L) : ∀ k, G k → k < w.heap.size := by
  obtain ⟨qs, rr, rc, h1, h2, h3⟩ := h
  exact h2.glt
theorem Rct.le (h : Rct w rb seed S G L) (hL : L ≤ L') : Rct w rb seed S G L' := by
  obtain ⟨qs, rr, rc, h1, h2, h3, h4⟩ := h
  exact ⟨qs, rr, rc, h1, h2, h3, Nat.le_trans h4 hL⟩
end
theorem qs_get {qs : List (PartR × Value)} {ps : List PartR} (h : qs.map (·.1) = ps) {j : Nat} {p : PartR} (hp : ps[j]? = some p) : ∃ v, qs[j]? = some (p, v) := by
  subst h
  rw [List.getElem?_map] at hp
  cases hq : qs[j]? with
  | none => rw [hq] at hp; cases hp
  | some q =>
    rw [hq] at hp
    simp only [Option.map_some, Option.some.injEq] at hp
    subst hp
    exact ⟨q.2, rfl⟩
theorem qs_len {qs : List (PartR × Value)} {ps : List PartR} (h : qs.map (·.1) = ps) : qs.length = ps.length := by rw [← h]; simp

section
variable {w w' : World} {rb rr rc : Nat} {seed : Int} {D : Nat} {qs : List (PartR × Value)} {G G' : Nat → Prop}
theorem RMem.setD (h : RMem w rb rr rc seed D qs G) (D' : Nat) : RMem (w.setCell ⟨rb, 1, none⟩ (.int .i64 (D' : Nat))) rb rr rc seed D' qs G := by
  have hk : ∀ k, k ≠ rb → (w.setCell ⟨rb, 1, none⟩ (.int .i64 (D' : Nat))).heap[k]? = w.heap[k]? := fun k hk => heap_setCell_other _ _ _ _ (by exact hk)
  refine ⟨by rw [heap_setCell_same _ _ _ _ _ _ h.blk]; rfl, row_kept h.row (hk _ (fun e => h.ne e.symm)), fun q hq => owns_block (h.keys q hq) fun b hb => hk b (h.kne hq b hb).1, h.grb, h.grr, h.gk, fun k hk' => ?_⟩
  have := h.glt k hk'
  simpa [World.setCell] using this
theorem RMem.rekey (h : RMem w rb rr rc seed D qs G) {i : Nat} {p : PartR} {v v' : Value} {ks : List ByteArray} (hi : qs[i]? = some (p, v)) (ho : w.ownsRow 0 9 1 v' ks.length (ks.map Value.string)) (hG : ∀ k, G k → G' k) (hv : ∀ b, v'.ownBlock = some b → G' b) (hl : ∀ k, G' k → k < w.heap.size) :
    RMem (w.setCell ⟨rr, i * 3 + 2, none⟩ v') rb rr rc seed D (qs.set i (⟨p.dep, p.bits, ks⟩, v')) G' := by
  have hk : ∀ k, k ≠ rr → (w.setCell ⟨rr, i * 3 + 2, none⟩ v').heap[k]? = w.heap[k]? := fun k hk => heap_setCell_other _ _ _ _ (by exact hk)
  have hty : ∀ b, v'.ownBlock = some b → b ≠ rr := fun b hb => by
    obtain ⟨_, _, h1⟩ := owns_types ho b hb
    obtain ⟨_, _, hr⟩ := row_block h.row
    exact type_ne h1 hr (by decide)
  have hs := h.row.stored (i * 3 + 2) v'
  refine ⟨?_, ?_, ?_, hG _ h.grb, hG _ h.grr, ?_, fun k hk' => ?_⟩
  · rw [List.length_set]; exact (hk _ h.ne).trans h.blk
  · rw [List.length_set, flatR_set2 (q' := (⟨p.dep, p.bits, ks⟩, v')) hi rfl rfl]; exact hs.1
  · intro q hq
    obtain ⟨j, hj⟩ := List.mem_iff_getElem?.1 hq
    rcases set_get hj with ⟨_, rfl, _⟩ | ⟨c, hj⟩
    · exact owns_block ho fun b hb => hk b (hty b hb)
    · have hm := List.mem_of_getElem? hj
      exact owns_block (h.keys q hm) fun b hb => hk b (h.kne hm b hb).2
  · intro q hq b hb
    obtain ⟨j, hj⟩ := List.mem_iff_getElem?.1 hq
    rcases set_get hj with ⟨_, rfl, _⟩ | ⟨c, hj⟩
    · exact hv b hb
    · exact hG _ (h.gk q (List.mem_of_getElem? hj) b hb)
  · have := hl k hk'
    simpa [World.setCell] using this
theorem RMem.repart (h : RMem w rb rr rc seed D qs G) {i : Nat} {q' : PartR × Value} (ho : w.ownsRow 0 9 1 q'.2 q'.1.keys.length (q'.1.keys.map Value.string)) (hG : ∀ k, G k → G' k) (hv : ∀ b, q'.2.ownBlock = some b → G' b) (hl : ∀ k, G' k → k < w.heap.size) :
    RMem (((w.setCell ⟨rr, i * 3, none⟩ (.int .i64 (q'.1.dep : Nat))).setCell ⟨rr, i * 3 + 1, none⟩ (.int .u64 (q'.1.bits : Nat))).setCell ⟨rr, i * 3 + 2, none⟩ q'.2) rb rr rc seed D (qs.set i q') G' := by
  have hk : ∀ k, k ≠ rr → (((w.setCell ⟨rr, i * 3, none⟩ (.int .i64 (q'.1.dep : Nat))).setCell ⟨rr, i * 3 + 1, none⟩ (.int .u64 (q'.1.bits : Nat))).setCell ⟨rr, i * 3 + 2, none⟩ q'.2).heap[k]? = w.heap[k]? := fun k hk => by
    rw [heap_setCell_other _ _ _ _ (by exact hk), heap_setCell_other _ _ _ _ (by exact hk), heap_setCell_other _ _ _ _ (by exact hk)]
  have hty : ∀ b, q'.2.ownBlock = some b → b ≠ rr := fun b hb => by
    obtain ⟨_, _, h1⟩ := owns_types ho b hb
    obtain ⟨_, _, hr⟩ := row_block h.row
    exact type_ne h1 hr (by decide)
  refine ⟨?_, ?_, ?_, hG _ h.grb, hG _ h.grr, ?_, fun k hk' => ?_⟩
  · rw [List.length_set]; exact (hk _ h.ne).trans h.blk
  · rw [List.length_set, flatR_set]; exact (((h.row.stored _ _).1.stored _ _).1.stored _ _).1
  · intro q hq
    obtain ⟨j, hj⟩ := List.mem_iff_getElem?.1 hq
    rcases set_get hj with ⟨_, rfl, _⟩ | ⟨c, hj⟩
    · exact owns_block ho fun b hb => hk b (hty b hb)
    · have hm := List.mem_of_getElem? hj
      exact owns_block (h.keys q hm) fun b hb => hk b (h.kne hm b hb).2
  · intro q hq b hb
    obtain ⟨j, hj⟩ := List.mem_iff_getElem?.1 hq
    rcases set_get hj with ⟨_, rfl, _⟩ | ⟨c, hj⟩
    · exact hv b hb
    · exact hG _ (h.gk q (List.mem_of_getElem? hj) b hb)
  · have := hl k hk'
    simpa [World.setCell] using this
theorem RMem.addpart {g cap N : Nat} {q' : PartR × Value} (h : RMem w rb rr rc seed D qs G) (hN : qs.length = N) (h2 : w'.ownsRow 0 107 3 (.slice (some ⟨g, 0, none⟩) (N + 1) cap) (N + 1) (flatR qs ++ [.int .i64 (q'.1.dep : Nat), .int .u64 (q'.1.bits : Nat), q'.2])) (h3 : w.grownBy w' (some rr))
    (h4 : some rr = some g ∨ g = w.heap.size) (ho : w.ownsRow 0 9 1 q'.2 q'.1.keys.length (q'.1.keys.map Value.string)) (hG : ∀ k, G k → G' k) (hg : G' g) (hv : ∀ b, q'.2.ownBlock = some b → G' b) (hl : ∀ k, G' k → k < w'.heap.size) :
    RMem (w'.setCell ⟨rb, 2, none⟩ (.slice (some ⟨g, 0, none⟩) (N + 1) cap)) rb g cap seed D (qs ++ [q']) G' := by
  subst hN
  have hsz := h3.size
  obtain ⟨_, _, hr⟩ := row_block h.row
  have e1 : w'.heap[rb]? = some (.cells #[.int .u64 seed, .int .i64 (D : Nat), .slice (some ⟨rr, 0, none⟩) (qs.length : Nat) rc] 110 (0, 0)) := (h3.block rb (h.glt _ h.grb) (by simp only [ne_eq, Option.some.injEq]; exact h.ne)).trans h.blk
  have hgb : g ≠ rb := by
    rcases h4 with e | e
    · simp only [Option.some.injEq] at e; rw [← e]; exact fun e => h.ne e.symm
    · have := h.glt _ h.grb; omega
  have hk : ∀ k, k ≠ rb → (w'.setCell ⟨rb, 2, none⟩ (.slice (some ⟨g, 0, none⟩) (qs.length + 1) cap)).heap[k]? = w'.heap[k]? := fun k hk => heap_setCell_other _ _ _ _ (by exact hk)
  have hrow : ∀ (v : Value) (ks : List ByteArray), w.ownsRow 0 9 1 v ks.length (ks.map Value.string) → (w'.setCell ⟨rb, 2, none⟩ (.slice (some ⟨g, 0, none⟩) (qs.length + 1) cap)).ownsRow 0 9 1 v ks.length (ks.map Value.string) := fun v ks hv => owns_block hv fun b hb => by
    obtain ⟨_, _, h1⟩ := owns_types hv b hb
    rw [hk b (type_ne h1 h.blk (by decide))]
    exact h3.block b (heap_lt' h1) (by simp only [ne_eq, Option.some.injEq]; exact type_ne h1 hr (by decide))
  refine ⟨?_, ?_, ?_, hG _ h.grb, hg, ?_, fun k hk' => ?_⟩
  · rw [heap_setCell_same _ _ _ _ _ _ e1, List.length_append, List.length_singleton]; rfl
  · rw [List.length_append, List.length_singleton, flatR_snoc]; exact row_kept h2 (hk g hgb)
  · intro q hq
    rw [List.mem_append, List.mem_singleton] at hq
    rcases hq with hq | rfl
    · exact hrow _ _ (h.keys q hq)
    · exact hrow _ _ ho
  · intro q hq b hb
    rw [List.mem_append, List.mem_singleton] at hq
    rcases hq with hq | rfl
    · exact hG _ (h.gk q hq b hb)
    · exact hv b hb
  · have := hl k hk'
    simpa [World.setCell] using this
end

theorem Fr.store {w W : World} {G G' : Nat → Prop} (hb : Below w.heap.size w W) (a : Addr) (v : Value) (ha : G a.block) (hn : ∀ k, G' k → G k ∨ w.heap.size ≤ k) : Fr w (W.setCell a v) G G' :=
  ⟨hb.os, hb.tape, hb.output, by simpa [World.setCell] using hb.size, fun k hk hf => by rw [heap_setCell_other _ _ _ _ (by rintro rfl; exact hf ha)]; exact hb.block k hk, hn⟩
theorem Fr.store2 {w W : World} {G F G' : Nat → Prop} (hb : Fr w W G F) (a : Addr) (v : Value) (ha : G a.block) (hn : ∀ k, G' k → G k ∨ w.heap.size ≤ k) : Fr w (W.setCell a v) G G' :=
  ⟨hb.os, hb.tape, hb.output, by simpa [World.setCell] using hb.size, fun k hk hf => by rw [heap_setCell_other _ _ _ _ (by rintro rfl; exact hf ha)]; exact hb.block k hk hf, hn⟩

/-- append of a list of the call's own, at a step of a region that draws its order. -/
theorem step_any {P : Program} {ops : Array Oper} {o : Oper} {a : Act} {w : World} {K : Act → World → Prop} {Q : Exit → Act → World → Prop} {E : Prop} (hgd : o.guard = none) (s x : Operand) (t : TypeId)
    (ho : o.op = .call { callee := .builtin .append, args := #[s, x], argTypes := #[t, t] })
    (base : Nat) (e : TypeId) (i : TypeInfo) (z : Value) (bytes : Nat) (ht : P.underlying t = some (.slice e)) (hi : P.info? e = some i) (hz : i.zero = some z)
    (hsize : i.size = 1) (hby : i.bytes = bytes) (hzs : z.cells.size = 1) (g0 n cap0 : Nat) (xs : List Value) (hs : a.eval s = .slice (some ⟨g0, 0, none⟩) n cap0) (hown : w.ownsRow base e 1 (.slice (some ⟨g0, 0, none⟩) n cap0) n xs)
    (v2 : Value) (m base2 : Nat) (ys : List Value) (hx : a.eval x = v2) (hown2 : w.ownsRow base2 e 1 v2 m ys) (h1 : ∀ u ∈ ys, u.oneCell' = true)
    (h63 : n + m ≤ maxLen) (hbytes : (n + m) * bytes ≤ 140737488355328) (hbase : base ≤ w.heap.size) (k : Nat) (hk : n + m = k)
    (h : ∀ g cap w', w'.ownsRow base e 1 (.slice (some ⟨g, 0, none⟩) k cap) k (xs ++ ys) → Below base w w' → K (a.put o.dst (.slice (some ⟨g, 0, none⟩) k cap)) w') :
    if Region.wanted o (yielded ops a.tmps) = true then Oper.wp P o a w K Q else E := by
  rcases hown2.2 with ⟨rfl, rfl⟩ | ⟨g, cap, cur, rfl, _⟩
  · have hy : ys = [] := List.length_eq_zero_iff.1 (by have := hown2.1; omega)
    subst hy
    subst hk
    have hw : Region.wanted o (yielded ops a.tmps) = true := by simp [Region.wanted, hgd]
    rw [if_pos hw]
    have hr := run_append_owned_none (P := P) w base t o.type e i 1 ht hi _ n xs hown
    unfold Oper.wp execOp
    simp only [ho, resolve, invoke, builtin, Sem.run_bind, Sem.run_pure, Result.andThen_ok, List.map_toArray, List.map_cons, List.map_nil, hs, hx, hr]
    exact h g0 cap0 w (by simpa using hown) (Below.refl _ _)
  · exact step_app hgd s x t ho base e i z bytes ht hi hz hsize hby hzs g0 n cap0 xs hs hown ⟨g, 0, none⟩ m ys ⟨cap, hx⟩ (by have := hown2.1; omega) (hown2.cells rfl) h1 h63 hbytes hbase k hk h

section
variable {w wr W : World} {rb rr rc : Nat} {seed : Int} {S T : Nat × List PartR} {qs : List (PartR × Value)} {G G1 : Nat → Prop} {L : Nat} {key : ByteArray} {p : PartR} {v : Value} {g c k : Nat}
theorem put_end (hS : SOk seed S.1 S.2) (hno : key ∉ allK S.2) (hkey : key.size ≤ 20) (hG : GrowI seed (hN seed key) S T) (hq : qs.map (·.1) = T.2) (hm : RMem wr rb rr rc seed T.1 qs G1) (hf : Fr w wr G G1) (hp : T.2[pix T.2 (hN seed key)]? = some p)
    (hv : qs[pix T.2 (hN seed key)]? = some (p, v)) (hfull : p.keys.length < 112 ∨ 16 ≤ p.dep) (hb : Below wr.heap.size wr W) (ho : W.ownsRow wr.heap.size 9 1 (.slice (some ⟨g, 0, none⟩) k c) k (p.keys.map Value.string ++ [.string key])) (hk : k = p.keys.length + 1) (hfew : (allK S.2).length ≤ L) :
    ∃ G', Rct (W.setCell ⟨rr, pix T.2 (hN seed key) * 3 + 2, none⟩ (.slice (some ⟨g, 0, none⟩) k c)) rb seed (putS seed S key) G' (L + 1) ∧ Fr w (W.setCell ⟨rr, pix T.2 (hN seed key) * 3 + 2, none⟩ (.slice (some ⟨g, 0, none⟩) k c)) G G' := by
  subst hk
  have hl := ho.lt g rfl
  have hnoT : key ∉ allK T.2 := fun e => hno ((hG.all key).1 e)
  have hput : putS seed S key = (T.1, T.2.set (pix T.2 (hN seed key)) ⟨p.dep, p.bits, p.keys ++ [key]⟩) := by
    unfold putS
    rw [if_neg (by rw [inB'_iff]; exact hno), hG.stop hp hfull, addS_eq hp]
  have hlen := hG.ok.add_len hp hfull hnoT hkey
  have hok := (hG.ok.add hp hfull (fun e => hnoT ((hG.ok.key_at hp).2 e)) hkey).1
  have r := (hm.step hb).rekey (G' := fun q => G1 q ∨ q = g) (v' := .slice (some ⟨g, 0, none⟩) (p.keys.length + 1) c) (ks := p.keys ++ [key]) hv (by
    rw [List.length_append, List.length_singleton, List.map_append]; exact owns_base ho (Nat.zero_le _)) (fun k hk => .inl hk) (fun b hb => .inr (by simpa [Value.ownBlock] using hb.symm)) (fun k hk => by
    rcases hk with e | e
    · have := hm.glt k e; have := hb.size; omega
    · omega)
  rw [hput]
  refine ⟨_, ⟨_, rr, rc, ?_, r, hok, ?_⟩, hf.trans (Fr.store hb _ _ hm.grr fun k hk => by rcases hk with e | e; exact .inl e; exact .inr (by omega))⟩
  · rw [List.map_set, hq]
  · simp only
    rw [hlen, hG.len hS]; omega
theorem del_end {j : Nat} (hS : SOk seed S.1 S.2) (hq : qs.map (·.1) = S.2) (hm : RMem w rb rr rc seed S.1 qs G) (hp : S.2[pix S.2 (hN seed key)]? = some p) (hv : qs[pix S.2 (hN seed key)]? = some (p, v)) (hin : key ∈ allK S.2) (hj : p.keys[j]? = some key) (hb : Below w.heap.size w W)
    (ho : W.ownsRow w.heap.size 9 1 (.slice (some ⟨g, 0, none⟩) k c) k ((p.keys.map Value.string).take j ++ (p.keys.map Value.string).drop (j + 1))) (hfew : (allK S.2).length ≤ L) :
    ∃ G', Rct (W.setCell ⟨rr, pix S.2 (hN seed key) * 3 + 2, none⟩ (.slice (some ⟨g, 0, none⟩) k c)) rb seed (S.1, delS seed S.2 key) G' L ∧ Fr w (W.setCell ⟨rr, pix S.2 (hN seed key) * 3 + 2, none⟩ (.slice (some ⟨g, 0, none⟩) k c)) G G' := by
  have hl := ho.lt g rfl
  have hdr := dropK_at (hS.nodup p (List.mem_of_getElem? hp)) hj
  have hk : k = (dropK p.keys key).length := by
    have := ho.1
    rw [← List.map_take, ← List.map_drop, ← List.map_append, ← hdr, List.length_map] at this
    omega
  have r := (hm.step hb).rekey (G' := fun q => G q ∨ q = g) (v' := .slice (some ⟨g, 0, none⟩) k c) (ks := dropK p.keys key) hv (by
    rw [← hk, hdr, List.map_append, List.map_take, List.map_drop]; exact owns_base ho (Nat.zero_le _)) (fun k hk => .inl hk) (fun b hb => .inr (by simpa [Value.ownBlock] using hb.symm)) (fun k hk => by
    rcases hk with e | e
    · have := hm.glt k e; have := hb.size; omega
    · omega)
  have hlen := hS.del_len hin
  refine ⟨_, ⟨_, rr, rc, ?_, r, (hS.del key).1, ?_⟩, Fr.store hb _ _ hm.grr fun k hk => by rcases hk with e | e; exact .inl e; exact .inr (by omega)⟩
  · simp only
    rw [List.map_set, hq, delS_eq hp]
  · simp only
    omega
end
end Go.Proofs.Ytkkijcnipjojoaa
