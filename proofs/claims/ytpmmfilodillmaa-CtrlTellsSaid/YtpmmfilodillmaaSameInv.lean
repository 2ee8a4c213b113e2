/- What the loop of tallboylaw7.same keeps: two arrays, two slices of its own that lie apart. -/
import Derived.Test.YtpmmfilodillmaaCtrlArr
import Derived.Test.YtpmmfilodillmaaPlainB
import Derived.Test.YtpmmfilodillmaaAppend
namespace Go.Proofs.Ytpmmfilodillmaa
open Go.RowKit

structure SInv (x : Int) (gb : Nat) (w wr : World) (vm vf : Value) (lm lf : List Int) (f : Nat → Int) : Prop where
  size : gb + 2 ≤ wr.heap.size
  hb : wr.heap[gb]? = some (.cells (arr (bytI x)) 38 (0, 0))
  hc : wr.heap[gb + 1]? = some (.cells (arr f) 38 (0, 0))
  om : wr.ownsRow (gb + 2) 3 1 vm lm.length (lm.map (Value.int .i64))
  of : wr.ownsRow (gb + 2) 3 1 vf lf.length (lf.map (Value.int .i64))
  ap : vm.ownBlock = none ∨ vm.ownBlock ≠ vf.ownBlock
  lo : w.heap.size ≤ gb
  bel : Below w.heap.size w wr

variable {x : Int} {gb : Nat} {w wr : World} {vm vf : Value} {lm lf : List Int} {f : Nat → Int}

theorem SInv.cellB (h : SInv x gb w wr vm vf lm lf f) (i : Nat) (hi : i < 8) : wr.cell? ⟨gb, i, none⟩ = some (.int .u8 (bytI x i)) := by
  rw [cell_of_row _ _ _ _ _ _ h.hb, arr_at _ i hi]
theorem SInv.cellC (h : SInv x gb w wr vm vf lm lf f) (i : Nat) (hi : i < 8) : wr.cell? ⟨gb + 1, i, none⟩ = some (.int .u8 (f i)) := by
  rw [cell_of_row _ _ _ _ _ _ h.hc, arr_at _ i hi]
theorem SInv.frozenC (h : SInv x gb w wr vm vf lm lf f) (i : Nat) : wr.frozen? ⟨gb + 1, i, none⟩ = false := frozen_of_row _ _ _ _ _ h.hc

theorem SInv.drewN (h : SInv x gb w wr vm vf lm lf f) (m : Nat) : SInv x gb w (wr.drewN m) vm vf lm lf f :=
  ⟨h.size, h.hb, h.hc, h.om, h.of, h.ap, h.lo, below_drewN h.bel m⟩

theorem ap_symm {a b : Value} (h : a.ownBlock = none ∨ a.ownBlock ≠ b.ownBlock) : b.ownBlock = none ∨ b.ownBlock ≠ a.ownBlock := by
  rcases h with h | h
  · cases hb : b.ownBlock with
    | none => exact .inl rfl
    | some g => exact .inr (by rw [h]; simp)
  · exact .inr (fun e => h e.symm)

/-- An append to the first slice. -/
theorem SInv.appM (h : SInv x gb w wr vm vf lm lf f) (O : Obj) {v' : Value} {w1 : World} (k : Int)
    (ho : w1.ownsRow (gb + 2) 3 1 v' (lm.length + 1) (lm.map (Value.int .i64) ++ [.int .i64 k])) (hg : (wr.alloc O).grownBy w1 vm.ownBlock) (hm : Moved (wr.alloc O) vm v') :
    SInv x gb w w1 v' vf (lm ++ [k]) lf f := by
  have hsz : (wr.alloc O).heap.size = wr.heap.size + 1 := by simp
  have hs := h.size
  have hlo := h.lo
  have hgs := hg.size
  have hvm : ∀ q, vm.ownBlock = some q → gb + 2 ≤ q ∧ q < wr.heap.size := h.om.lt
  have hvf : ∀ q, vf.ownBlock = some q → gb + 2 ≤ q ∧ q < wr.heap.size := h.of.lt
  refine ⟨by omega, ?_, ?_, by simpa using ho, ?_, ?_, hlo, ?_⟩
  · rw [hg.block gb (by omega) (fun e => by have := hvm gb e.symm; omega), heap_alloc_old _ _ (by omega)]; exact h.hb
  · rw [hg.block (gb + 1) (by omega) (fun e => by have := hvm (gb + 1) e.symm; omega), heap_alloc_old _ _ (by omega)]; exact h.hc
  · exact (h.of.alloc O).kept hg (ap_symm h.ap)
  · rcases hm with hm | ⟨g, h1, h2⟩
    · rw [hm]; exact h.ap
    · right; rw [h1]; intro e
      have := hvf g e.symm
      omega
  · exact (h.bel.alloc (by omega) O).grown hg (by omega) (fun q hq => by have := hvm q hq; omega)

/-- An append to the second one. -/
theorem SInv.swap (h : SInv x gb w wr vm vf lm lf f) : SInv x gb w wr vf vm lf lm f := ⟨h.size, h.hb, h.hc, h.of, h.om, ap_symm h.ap, h.lo, h.bel⟩
theorem SInv.appF (h : SInv x gb w wr vm vf lm lf f) (O : Obj) {v' : Value} {w1 : World} (k : Int)
    (ho : w1.ownsRow (gb + 2) 3 1 v' (lf.length + 1) (lf.map (Value.int .i64) ++ [.int .i64 k])) (hg : (wr.alloc O).grownBy w1 vf.ownBlock) (hm : Moved (wr.alloc O) vf v') :
    SInv x gb w w1 vm v' lm (lf ++ [k]) f := (h.swap.appM O k ho hg hm).swap

/-- A store into the second array. -/
theorem SInv.store (h : SInv x gb w wr vm vf lm lf f) (k : Nat) (hk : k < 8) (c : Int) : SInv x gb w (wr.setCell ⟨gb + 1, k, none⟩ (.int .u8 c)) vm vf lm lf (fun i => if i = k then c else f i) := by
  have hs := h.size
  have hlo := h.lo
  have hgr : wr.grownBy (wr.setCell ⟨gb + 1, k, none⟩ (.int .u8 c)) (some (gb + 1)) :=
    ⟨rfl, rfl, rfl, by simp [World.setCell], fun q _ hq => heap_setCell_other _ _ _ _ (fun e => hq (by rw [e]))⟩
  have hvm : ∀ q, vm.ownBlock = some q → gb + 2 ≤ q ∧ q < wr.heap.size := h.om.lt
  have hvf : ∀ q, vf.ownBlock = some q → gb + 2 ≤ q ∧ q < wr.heap.size := h.of.lt
  have hne : ∀ v : Value, (∀ q, v.ownBlock = some q → gb + 2 ≤ q ∧ q < wr.heap.size) → v.ownBlock = none ∨ v.ownBlock ≠ some (gb + 1) := fun v hv => by
    cases e : v.ownBlock with
    | none => exact .inl rfl
    | some q => exact .inr (fun e2 => by have := hv q e; simp at e2; omega)
  refine ⟨by have := hgr.size; omega, ?_, ?_, h.om.kept hgr (hne vm hvm), h.of.kept hgr (hne vf hvf), h.ap, hlo, h.bel.setCell (by show _ ≤ gb + 1; omega) _⟩
  · rw [heap_setCell_other _ _ _ _ (by show gb ≠ gb + 1; omega)]; exact h.hb
  · rw [heap_setCell_same _ _ _ _ _ _ h.hc, arr_set f k c hk]

/-! ### What stands through the last row of the function -/
structure Keep7 (w : World) (gb gs : Nat) (f F : Nat → Int) (vm vf : Value) (lm lf : List Int) (W : World) : Prop where
  bel : Below w.heap.size w W
  rm : Reads .i64 W vm lm
  rf : Reads .i64 W vf lf
  hc : W.heap[gb]? = some (.cells (arr f) 38 (0, 0))
  hs : W.heap[gs]? = some (.cells (arr F) 38 (0, 0))

theorem Reads.later {kd : IntKind} {w w' : World} {v : Value} {zs : List Int} (h : Reads kd w v zs) (hb : Below w.heap.size w w') : Reads kd w' v zs := by
  obtain ⟨a, c, rfl, hm, hc⟩ := h
  refine ⟨a, c, rfl, hm, fun i x hx => ?_⟩
  obtain ⟨b, off, rfl, hcell⟩ := hc i x hx
  exact ⟨b, off, rfl, (hb.cell (World.block_lt_of_cell? w _ hcell)).trans hcell⟩
theorem heap_lt {w : World} {g : Nat} {o : Obj} (h : w.heap[g]? = some o) : g < w.heap.size := (Array.getElem?_eq_some_iff.1 h).1
theorem Keep7.step {w : World} {gb gs : Nat} {f F : Nat → Int} {vm vf : Value} {lm lf : List Int} {W W' : World} (h : Keep7 w gb gs f F vm vf lm lf W) (hb : Below W.heap.size W W') : Keep7 w gb gs f F vm vf lm lf W' :=
  ⟨h.bel.trans (hb.mono h.bel.size), h.rm.later hb, h.rf.later hb, (hb.block _ (heap_lt h.hc)).trans h.hc, (hb.block _ (heap_lt h.hs)).trans h.hs⟩

theorem Keep7.drew {w : World} {gb gs : Nat} {f F : Nat → Int} {vm vf : Value} {lm lf : List Int} {W : World} (h : Keep7 w gb gs f F vm vf lm lf W) : Keep7 w gb gs f F vm vf lm lf W.drew := h.step ((Below.refl _ _).drew)
theorem Keep7.drewN {w : World} {gb gs : Nat} {f F : Nat → Int} {vm vf : Value} {lm lf : List Int} {W : World} (h : Keep7 w gb gs f F vm vf lm lf W) (m : Nat) : Keep7 w gb gs f F vm vf lm lf (W.drewN m) := h.step ((IsDrew.one W m).below _)

/-- The cells of both arrays, and the rest. -/
abbrev S7 (w : World) (gb gs : Nat) (f F : Nat → Int) (vm vf : Value) (lm lf : List Int) (W : World) : Prop :=
  (W.cell? ⟨gb, 0, none⟩ = some (.int .u8 (f 0)) ∧ W.cell? ⟨gb, 1, none⟩ = some (.int .u8 (f 1)) ∧ W.cell? ⟨gb, 2, none⟩ = some (.int .u8 (f 2)) ∧ W.cell? ⟨gb, 3, none⟩ = some (.int .u8 (f 3)) ∧
    W.cell? ⟨gb, 4, none⟩ = some (.int .u8 (f 4)) ∧ W.cell? ⟨gb, 5, none⟩ = some (.int .u8 (f 5)) ∧ W.cell? ⟨gb, 6, none⟩ = some (.int .u8 (f 6)) ∧ W.cell? ⟨gb, 7, none⟩ = some (.int .u8 (f 7))) ∧
  (W.cell? ⟨gs, 0, none⟩ = some (.int .u8 (F 0)) ∧ W.cell? ⟨gs, 1, none⟩ = some (.int .u8 (F 1)) ∧ W.cell? ⟨gs, 2, none⟩ = some (.int .u8 (F 2)) ∧ W.cell? ⟨gs, 3, none⟩ = some (.int .u8 (F 3)) ∧
    W.cell? ⟨gs, 4, none⟩ = some (.int .u8 (F 4)) ∧ W.cell? ⟨gs, 5, none⟩ = some (.int .u8 (F 5)) ∧ W.cell? ⟨gs, 6, none⟩ = some (.int .u8 (F 6)) ∧ W.cell? ⟨gs, 7, none⟩ = some (.int .u8 (F 7))) ∧
  Keep7 w gb gs f F vm vf lm lf W
theorem row_cells {W : World} {g : Nat} {f : Nat → Int} {t : TypeId} (h : W.heap[g]? = some (.cells (arr f) t (0, 0))) (i : Nat) (hi : i < 8) : W.cell? ⟨g, i, none⟩ = some (.int .u8 (f i)) := by
  rw [cell_of_row _ _ _ _ _ _ h, arr_at _ i hi]
theorem Keep7.all {w : World} {gb gs : Nat} {f F : Nat → Int} {vm vf : Value} {lm lf : List Int} {W : World} (h : Keep7 w gb gs f F vm vf lm lf W) : S7 w gb gs f F vm vf lm lf W :=
  ⟨⟨row_cells h.hc 0 (by omega), row_cells h.hc 1 (by omega), row_cells h.hc 2 (by omega), row_cells h.hc 3 (by omega), row_cells h.hc 4 (by omega), row_cells h.hc 5 (by omega), row_cells h.hc 6 (by omega), row_cells h.hc 7 (by omega)⟩,
    ⟨row_cells h.hs 0 (by omega), row_cells h.hs 1 (by omega), row_cells h.hs 2 (by omega), row_cells h.hs 3 (by omega), row_cells h.hs 4 (by omega), row_cells h.hs 5 (by omega), row_cells h.hs 6 (by omega), row_cells h.hs 7 (by omega)⟩, h⟩
theorem S7.keep {w : World} {gb gs : Nat} {f F : Nat → Int} {vm vf : Value} {lm lf : List Int} {W : World} (h : S7 w gb gs f F vm vf lm lf W) : Keep7 w gb gs f F vm vf lm lf W := h.2.2
theorem S7.step {w : World} {gb gs : Nat} {f F : Nat → Int} {vm vf : Value} {lm lf : List Int} {W W' : World} (h : S7 w gb gs f F vm vf lm lf W) (hb : Below W.heap.size W W') : S7 w gb gs f F vm vf lm lf W' := (h.keep.step hb).all
theorem S7.drewN {w : World} {gb gs : Nat} {f F : Nat → Int} {vm vf : Value} {lm lf : List Int} {W : World} (h : S7 w gb gs f F vm vf lm lf W) (m : Nat) : S7 w gb gs f F vm vf lm lf (W.drewN m) := (h.keep.drewN m).all
theorem word_lit (b : Nat → Int) (w : World) (hb : ∀ i, i < 8 → 0 ≤ b i ∧ b i < 256) : Calls Try.prog 28 #[.agg #[.int .u8 (b 0), .int .u8 (b 1), .int .u8 (b 2), .int .u8 (b 3), .int .u8 (b 4), .int .u8 (b 5), .int .u8 (b 6), .int .u8 (b 7)]] w fun e w' => e = .returned (.int .u64 (wordI b)) ∧ Below w.heap.size w w' := word_any b w hb
end Go.Proofs.Ytpmmfilodillmaa
