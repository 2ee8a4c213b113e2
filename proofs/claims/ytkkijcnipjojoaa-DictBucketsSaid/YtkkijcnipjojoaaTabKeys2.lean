/- Contracts of package table: Keys. -/
import Derived.Test.YtkkijcnipjojoaaTabKeys
namespace Go.Proofs.Ytkkijcnipjojoaa
open Go.RowKit

set_option maxRecDepth 100000 in
set_option maxHeartbeats 1000000 in
theorem keys1_any (w : World) (ob B : Nat) (v : Value) (n : Nat) (xs : List Value) (hob : w.heap[ob]? = some (.cells #[v] 39 (0, 0))) (hB : ob < B) (hB2 : B ≤ w.heap.size) (hown : w.ownsRow B 9 1 v n xs) (hn : n ≤ 100000) (key : ByteArray) (x : Int) :
    Calls Try.prog 61 #[.string key, .int .i64 x, .pointer (some ⟨ob, 0, none⟩)] w fun e w' => e = .returned (.tuple #[]) ∧
      ∃ v', w'.heap[ob]? = some (.cells #[v'] 39 (0, 0)) ∧ w'.ownsRow B 9 1 v' (n + 1) (xs ++ [.string key]) ∧ Below ob w w' := by
  obtain ⟨i0, hi, hz0, hz1, hz2⟩ := info_parts info_str
  have hob2 := heap_lt' hob
  have cv : w.cell? ⟨ob, 0, none⟩ = some v := by rw [cell_of_row _ _ _ _ _ _ hob]; rfl
  obtain ⟨a, c, rfl⟩ := owns_slice hown
  go_enter Try.func61, Try.ntmps61
  go_wp2_with (at_builtin; refine wpList_append_own _ rfl _ _ 39 rfl B 9 i0 (.string ByteArray.empty) 1 16 Try.underlying39 hi hz0 hz1 hz2 rfl (by decide) _ _ _ rfl (hown.alloc _) ⟨w.heap.size, 0, none⟩ 1 1 [.string key] rfl rfl (cell1 _ _ _) str_cell ?c3 ?c4 ?c5 ?_)
  case c3 => unfold maxLen; omega
  case c4 => omega
  case c5 => simp; omega
  intro v' w1 hown' hgr _
  have hA : ((w.alloc (Obj.cells #[Value.string key] 9)).heap.size) = w.heap.size + 1 := by simp
  have hbl0 := grown_below (hown.alloc (Obj.cells #[Value.string key] 9)) hgr (by omega)
  have hbl : Below B w w1 := ((Below.refl B w).alloc hB2 (Obj.cells #[Value.string key] 9)).trans hbl0
  have hob1 : w1.heap[ob]? = some (.cells #[Value.slice a n c] 39 (0, 0)) := (hbl.block ob hB).trans hob
  have cv1 : w1.cell? ⟨ob, 0, none⟩ = some (.slice a n c) := by rw [cell_of_row _ _ _ _ _ _ hob1]; rfl
  have cf1 := frozen_of_row _ _ 0 _ _ hob1
  obtain ⟨a', c', rfl⟩ := owns_slice hown'
  clear hown hgr hbl0 hA cv hob
  go_wp2
  (try simp only [Exit.inBlock, Exit.then])
  refine bodyPost_end (results_none rfl _ _ _) rfl ?_
  refine ⟨rfl, .slice a' (n + 1) c', by rw [heap_setCell_same _ _ _ _ _ _ hob1]; rfl, owns_setCell hown' ⟨ob, 0, none⟩ hB _, ?_⟩
  have hb2 : Below ob w w1 := hbl.mono (by omega)
  exact hb2.setCell (Nat.le_refl _) _

/-- What Keys' walk keeps. -/
structure KInv (w : World) (S : Grps) (go ob : Nat) (g i : Nat) (wr : World) : Prop where
  old : wr.heap[go]? = some (.cells (flatG S) 84 (0, 0))
  gi : g ≤ S.G ∧ i ≤ 8 ∧ (g = S.G → i = 0)
  out : ∃ v, wr.heap[ob]? = some (.cells #[v] 39 (0, 0)) ∧ wr.ownsRow (ob + 1) 9 1 v (keysV S g i).length ((keysV S g i).map Value.string)
  bel : Below ob w wr
  lo : go < ob ∧ ob < wr.heap.size

theorem KInv.keeps (w : World) (S : Grps) (go ob : Nat) : Keeps S go (KInv w S go ob) := by
  refine ⟨fun g i wr h => h.old, fun g i wr O h => ?_, fun g i wr hg hi hn h => ?_, fun g wr hg h => ?_⟩
  · obtain ⟨v, h1, h2⟩ := h.out
    refine ⟨by rw [heap_alloc_old _ _ (heap_lt' h.old)]; exact h.old, h.gi, ⟨v, by rw [heap_alloc_old _ _ (heap_lt' h1)]; exact h1, h2.alloc _⟩, h.bel.alloc (by have := h.lo; omega) _, h.lo.1, by have := h.lo; simp; omega⟩
  · obtain ⟨v, h1, h2⟩ := h.out
    exact ⟨h.old, by have := h.gi; omega, ⟨v, h1, by rw [keysV_skip _ _ _ hn]; exact h2⟩, h.bel, h.lo⟩
  · obtain ⟨v, h1, h2⟩ := h.out
    exact ⟨h.old, by have := h.gi; omega, ⟨v, h1, by rw [← keysV_next]; exact h2⟩, h.bel, h.lo⟩

set_option maxRecDepth 100000 in
theorem keysC {w wr : World} {S : Grps} {go ob : Nat} {g i : Nat} (h : KInv w S go ob g i wr) (hS : S.G ≤ 64) (hg : g < S.G) (hi : i < 8) (hf : bytI (S.w g) i < 128) :
    Calls Try.prog 61 (#[.string (S.k g i), .int .i64 (S.v g i)] ++ #[.pointer (some ⟨ob, 0, none⟩)]) wr fun e w' => e = .returned (.tuple #[]) ∧ KInv w S go ob g (i + 1) w' := by
  obtain ⟨v, h1, h2⟩ := h.out
  have hl : (keysV S g i).length ≤ 1000 := by
    rw [keysV_len]
    have := vis_le isFull S.w g i S.G hg (by omega)
    have := cnt_le isFull S.w S.G
    omega
  refine (keys1_any wr ob (ob + 1) v _ _ h1 (by omega) (by have := h.lo; omega) h2 (by omega) (S.k g i) (S.v g i)).mono ?_
  rintro e w' ⟨rfl, v', h3, h4, h5⟩
  refine ⟨rfl, (h5.block _ h.lo.1).trans h.old, by have := h.gi; omega, ⟨v', h3, ?_⟩, h.bel.trans h5, h.lo.1, heap_lt' h3⟩
  rw [keysV_add _ _ _ hf]
  simpa using h4

set_option maxRecDepth 100000 in
set_option maxHeartbeats 1000000 in
theorem keys_any {tb gb : Nat} {seed : Int} {S : Grps} {m : ByteArray → Option Int} (w : World) (hT : Tab w tb gb seed S m) :
    Calls Try.prog 26 #[.pointer (some ⟨tb, 0, none⟩)] w fun e w' => ∃ v, e = .returned v ∧ w'.ownsRow w.heap.size 9 1 v (keysL S S.G).length ((keysL S S.G).map Value.string) ∧ Below w.heap.size w w' := by
  obtain ⟨l1, l2⟩ := hT.at'.lt
  have hS := hT.gle
  have cg := hT.at'.cGroups
  have hg := hT.at'.hg
  have hI : KInv w S gb w.heap.size 0 0 (w.alloc (.cells #[.slice none 0 0] 39)) := by
    refine ⟨by rw [heap_alloc_old _ _ (by omega)]; exact hg, by have := hT.good.pos; omega, ⟨.slice none 0 0, heap_alloc_new _ _, World.ownsRow_nil _ _ _ _⟩, (Below.refl _ _).alloc (by omega) _, l2, by simp⟩
  have HE := Lib.hid (each_keys #[.pointer (some ⟨w.heap.size, 0, none⟩)] _ hI (KInv.keeps w S gb w.heap.size) hS fun g i wr hg hi hf h => keysC h hS hg hi hf)
  clear hg hT hI
  go_enter Try.func26, Try.ntmps26
  go_wp2_with (go_at_call 60; refine HE.out.mono ?_; rintro e w2 ⟨rfl, hk⟩; obtain ⟨v, h1, h2⟩ := hk.out; obtain ⟨a, c, rfl⟩ := owns_slice h2; have cv : w2.cell? ⟨w.heap.size, 0, none⟩ = some (.slice a _ c) := (by rw [cell_of_row _ _ _ _ _ _ h1]; rfl))
  go_ret
  rw [keysV_zero] at h2 ⊢
  exact ⟨_, rfl, owns_base h2 (by omega), hk.bel⟩
end Go.Proofs.Ytkkijcnipjojoaa
