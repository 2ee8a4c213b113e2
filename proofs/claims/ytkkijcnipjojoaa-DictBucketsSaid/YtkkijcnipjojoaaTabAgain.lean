/- Contracts of package table: all keys put anew. -/
import Derived.Test.YtkkijcnipjojoaaTabEach
namespace Go.Proofs.Ytkkijcnipjojoaa
open Go.RowKit

theorem TabAt.fresh {w : World} {tb gb g2 : Nat} {seed : Int} {S T : Grps} {n mk : Int} (h : TabAt w tb gb seed S n mk) (h2 : w.heap[g2]? = some (.cells (flatG T) 84 (0, 0))) (hne : tb ≠ g2) :
    TabAt (((w.setCell ⟨tb, 1, none⟩ (.slice (some ⟨g2, 0, none⟩) T.G T.G)).setCell ⟨tb, 2, none⟩ (.int .i64 0)).setCell ⟨tb, 3, none⟩ (.int .i64 0)) tb g2 seed T 0 0 := by
  have e1 := heap_setCell_same w tb 1 _ _ (.slice (some ⟨g2, 0, none⟩) T.G T.G) h.ht
  have e2 := heap_setCell_same _ tb 2 _ _ (.int .i64 0) e1
  have e3 := heap_setCell_same _ tb 3 _ _ (.int .i64 0) e2
  refine ⟨e3, ?_, hne⟩
  rw [heap_setCell_other _ _ _ _ (by exact fun e => hne e.symm), heap_setCell_other _ _ _ _ (by exact fun e => hne e.symm), heap_setCell_other _ _ _ _ (by exact fun e => hne e.symm)]
  exact h2

theorem Tab.empty {w : World} {tb gb : Nat} {seed : Int} {G : Nat} (hG : 0 < G) (hG2 : G ≤ 64) (h : TabAt w tb gb seed (emptyG G) 0 0) : Tab w tb gb seed (emptyG G) (fun _ => none) := by
  have c1 : cnt isFull (emptyG G).w (emptyG G).G = 0 := cnt_new isFull rfl G
  have c2 : cnt (isByte 254) (emptyG G).w (emptyG G).G = 0 := cnt_new (isByte 254) rfl G
  exact ⟨by rw [c1, c2]; exact h, Good.empty seed G hG, by rw [c1, c2]; omega, hG2, fun k x h => by cases h⟩

set_option maxRecDepth 100000 in
set_option maxHeartbeats 4000000 in
theorem againE {w w1 : World} {tb gb g2 : Nat} {seed : Int} {S : Grps} {m : ByteArray → Option Int} (hT : Tab w tb gb seed S m) {G : Nat} (hG : 0 < G) (hG2 : G ≤ 64) (hn : cnt isFull S.w S.G ≤ 7 * G)
    (hg2 : w.heap.size ≤ g2) (hh2 : w1.heap[g2]? = some (.cells (flatG (emptyG G)) 84 (0, 0))) (hb1 : Below w.heap.size w w1) :
    Calls Try.prog 60 #[.slice (some ⟨gb, 0, none⟩) S.G S.G, .func (Fn.func 56) #[.pointer (some ⟨tb, 0, none⟩)] #[]] (((w1.setCell ⟨tb, 1, none⟩ (.slice (some ⟨g2, 0, none⟩) G G)).setCell ⟨tb, 2, none⟩ (.int .i64 0)).setCell ⟨tb, 3, none⟩ (.int .i64 0)) fun e w' =>
      e = .returned (.tuple #[]) ∧ ∃ gb' S', w.heap.size ≤ gb' ∧ Tab w' tb gb' seed S' m ∧ S'.G = G ∧ cnt isFull S'.w S'.G = cnt isFull S.w S.G ∧ cnt (isByte 254) S'.w S'.G = 0 ∧ Touch w w' tb gb := by
  obtain ⟨l1, l2⟩ := hT.at'.lt
  have ht1 := hT.at'.below hb1
  have hne := ht1.ne
  have ht2 : TabAt (((w1.setCell ⟨tb, 1, none⟩ (.slice (some ⟨g2, 0, none⟩) G G)).setCell ⟨tb, 2, none⟩ (.int .i64 0)).setCell ⟨tb, 3, none⟩ (.int .i64 0)) tb g2 seed (emptyG G) 0 0 := TabAt.fresh (T := emptyG G) ht1 hh2 (by omega)
  have htch : Touch w (((w1.setCell ⟨tb, 1, none⟩ (.slice (some ⟨g2, 0, none⟩) G G)).setCell ⟨tb, 2, none⟩ (.int .i64 0)).setCell ⟨tb, 3, none⟩ (.int .i64 0)) tb gb := by
    have q0 : Touch w w1 tb gb := Touch.of_below hb1
    have q1 := q0.setCell ⟨tb, 1, none⟩ (Or.inl rfl) (.slice (some ⟨g2, 0, none⟩) G G)
    have q2 := q1.setCell ⟨tb, 2, none⟩ (Or.inl rfl) (.int .i64 0)
    exact q2.setCell ⟨tb, 3, none⟩ (Or.inl rfl) (.int .i64 0)
  have hold : (((w1.setCell ⟨tb, 1, none⟩ (.slice (some ⟨g2, 0, none⟩) G G)).setCell ⟨tb, 2, none⟩ (.int .i64 0)).setCell ⟨tb, 3, none⟩ (.int .i64 0)).heap[gb]? = some (.cells (flatG S) 84 (0, 0)) := by
    rw [heap_setCell_other _ _ _ _ (by exact fun e => hne e.symm), heap_setCell_other _ _ _ _ (by exact fun e => hne e.symm), heap_setCell_other _ _ _ _ (by exact fun e => hne e.symm)]
    exact ht1.hg
  generalize (((w1.setCell ⟨tb, 1, none⟩ (.slice (some ⟨g2, 0, none⟩) G G)).setCell ⟨tb, 2, none⟩ (.int .i64 0)).setCell ⟨tb, 3, none⟩ (.int .i64 0)) = w2 at *
  have c1 : cnt isFull (emptyG G).w (emptyG G).G = cnt isFull S.w 0 + (slotsI isFull (S.w 0) 0).length := by
    rw [slots_zero, List.length_nil, Nat.add_zero]
    exact (cnt_new isFull rfl G).trans (by rw [cnt])
  have c2 : cnt (isByte 254) (emptyG G).w (emptyG G).G = 0 := cnt_new (isByte 254) rfl G
  have hei : EI w2 gb tb g2 seed S G 0 0 w2 := ⟨hold, ⟨emptyG G, _, Tab.empty hG hG2 ht2, Part.zero S, rfl, c1, c2⟩, Touch.refl _ _ _⟩
  refine (eachI_any w2 hei hT.good hT.gle ⟨fun e => hne e.symm, by omega⟩ hT.ksz hn).mono ?_
  rintro e w' ⟨rfl, h⟩
  obtain ⟨Sn, mn, hT', hP, e1, e2, e3⟩ := h.tab
  obtain rfl := hP.all hT.good
  refine ⟨rfl, g2, Sn, hg2, hT', e1, by rw [e2]; simp [slots_zero], e3, ?_⟩
  refine ⟨h.tch.os.trans htch.os, h.tch.tape.trans htch.tape, h.tch.output.trans htch.output, Nat.le_trans htch.size h.tch.size, fun k h1 h2 h3 => ?_⟩
  exact (h.tch.block k (by have := htch.size; omega) h2 (by omega)).trans (htch.block k h1 h2 h3)

set_option maxRecDepth 100000 in
set_option maxHeartbeats 4000000 in
theorem again_any {tb gb : Nat} {seed : Int} {S : Grps} {m : ByteArray → Option Int} (w : World) (hT : Tab w tb gb seed S m) (G : Nat) (hG : 0 < G) (hG2 : G ≤ 64) (hn : cnt isFull S.w S.G ≤ 7 * G) :
    Calls Try.prog 55 #[.pointer (some ⟨tb, 0, none⟩), .int .i64 (G : Nat)] w fun e w' => e = .returned (.tuple #[]) ∧ ∃ gb' S', w.heap.size ≤ gb' ∧ Tab w' tb gb' seed S' m ∧ S'.G = G ∧ cnt isFull S'.w S'.G = cnt isFull S.w S.G ∧ cnt (isByte 254) S'.w S'.G = 0 ∧ Touch w w' tb gb := by
  obtain ⟨l1, l2⟩ := hT.at'.lt
  have HT := Lib.hid hT
  have cg := hT.at'.cGroups
  have hgl := hT.gle
  clear hT
  go_enter Try.func55, Try.ntmps55
  go_wp2_with (first | (go_at_call 53; refine (empty_any G _ hG2).mono ?_; rintro e w1 ⟨g2, rfl, hg2, hh2, hb1⟩; have ht1 := (HT.out.later hb1).at'; have d1 := ht1.cGroups; have d2 := ht1.cN; have d3 := ht1.cMarks; have f1 := frozen_of_row _ _ 1 _ _ ht1.ht; have f2 := frozen_of_row _ _ 2 _ _ ht1.ht; have f3 := frozen_of_row _ _ 3 _ _ ht1.ht) | (go_at_call 60; refine (againE HT.out hG hG2 hn hg2 hh2 hb1).mono ?_; rintro e w2 ⟨rfl, hres⟩))
  (try simp only [Exit.inBlock, Exit.then])
  refine bodyPost_end (results_none rfl _ _ _) rfl ?_
  exact ⟨rfl, hres⟩
end Go.Proofs.Ytkkijcnipjojoaa
