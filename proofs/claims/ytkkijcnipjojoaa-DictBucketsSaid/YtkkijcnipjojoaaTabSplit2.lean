/- Contracts of package table: Split, whole. -/
import Derived.Test.YtkkijcnipjojoaaTabSplit
namespace Go.Proofs.Ytkkijcnipjojoaa
open Go.RowKit

/-- What Split answers: two tables of their own. -/
def SplitRes (w w' : World) (seed bit : Int) (m : ByteArray → Option Int) (e : Ending) : Prop :=
  ∃ ta ga Sa tc gc Sc, e = .returned (.tuple #[.pointer (some ⟨ta, 0, none⟩), .pointer (some ⟨tc, 0, none⟩)]) ∧ Below w.heap.size w w' ∧
    Tab w' ta ga seed Sa (fun k => if sideI (hk seed k) bit = 0 then m k else none) ∧ Tab w' tc gc seed Sc (fun k => if sideI (hk seed k) bit = 1 then m k else none) ∧ Pow Sa.G ∧ Pow Sc.G ∧
    w.heap.size ≤ ta ∧ w.heap.size ≤ ga ∧ w.heap.size ≤ tc ∧ w.heap.size ≤ gc ∧ ta ≠ tc ∧ ga ≠ gc ∧ ga ≠ tc ∧ gc ≠ ta

theorem half_all {seed : Int} {S : Grps} {m : ByteArray → Option Int} (h : Good seed S m) (bit : Int) (s : Nat) : half m seed bit (keysL S S.G) s = fun k => if sideI (hk seed k) bit = s then m k else none := by
  funext k
  unfold half
  by_cases c : sideI (hk seed k) bit = s
  · rw [if_pos c]
    by_cases d : k ∈ keysL S S.G
    · rw [if_pos ⟨inB_iff.2 d, c⟩]
    · rw [if_neg (fun e => d (inB_iff.1 e.1))]
      have := (h.keys_mem k).2
      cases hm : m k with
      | none => rfl
      | some x => exact absurd (this (by rw [hm]; simp)) d
  · rw [if_neg c, if_neg (fun e => c e.2)]

/-- Two new tables, and the array of both. -/
structure SpM (w2 W : World) (lb ta ga tc gc : Nat) (seed : Int) : Prop where
  bel : Below w2.heap.size w2 W
  ll : W.heap[lb]? = some (.cells #[.pointer (some ⟨ta, 0, none⟩), .pointer (some ⟨tc, 0, none⟩)] 90 (0, 0))
  a : TabAt W ta ga seed (emptyG 1) 0 0
  c : TabAt W tc gc seed (emptyG 1) 0 0
  d : w2.heap.size ≤ lb ∧ w2.heap.size ≤ ga ∧ w2.heap.size ≤ gc ∧ ga < ta ∧ gc < tc ∧ ta ≠ tc ∧ ta ≠ gc ∧ ga ≠ tc ∧ ga ≠ gc ∧ ta ≠ lb ∧ tc ≠ lb ∧ ga ≠ lb ∧ gc ≠ lb
theorem mid1 {w2 w3 w4 : World} {ta ga tc gc : Nat} {seed : Int} (hk2 : Below w2.heap.size w2 w4) (_ : w2.heap.size ≤ w3.heap.size) (hb2 : Below w3.heap.size w3 w4) (hga : w2.heap.size ≤ ga) (hta : ga < ta) (hA : TabAt w3 ta ga seed (emptyG 1) 0 0)
    (hgc : w3.heap.size ≤ gc) (htc : gc < tc) (hC : TabAt w4 tc gc seed (emptyG 1) 0 0) :
    SpM w2 (w4.alloc (Obj.cells #[.pointer (some ⟨ta, 0, none⟩), .pointer (some ⟨tc, 0, none⟩)] 90)) w4.heap.size ta ga tc gc seed := by
  have l3 := hA.lt
  have l4 := hC.lt
  have hs := hb2.size
  exact ⟨hk2.alloc hk2.size _, heap_alloc_new _ _, (hA.below hb2).below ((Below.refl _ _).alloc (Nat.le_refl _) _), hC.below ((Below.refl _ _).alloc (Nat.le_refl _) _), by omega⟩
theorem mid2 {w2 w3 w4 : World} {lb ta ga tc gc : Nat} {seed : Int} (hk2 : Below w2.heap.size w2 w4) (h3 : w2.heap.size ≤ lb) (h4 : lb < ga ∨ lb = w3.heap.size) (_ : lb ≤ w3.heap.size) (hA : TabAt w3 ta ga seed (emptyG 1) 0 0)
    (hA4 : TabAt w4 ta ga seed (emptyG 1) 0 0) (hga : w2.heap.size ≤ ga) (hta : ga < ta) (hgc : w3.heap.size ≤ gc ∧ lb < gc) (htc : gc < tc) (hC : TabAt w4 tc gc seed (emptyG 1) 0 0)
    (hl : w4.heap[lb]? = some (.cells #[.pointer none, .pointer none] 90 (0, 0))) :
    SpM w2 ((w4.setCell ⟨lb, 0, none⟩ (.pointer (some ⟨ta, 0, none⟩))).setCell ⟨lb, 1, none⟩ (.pointer (some ⟨tc, 0, none⟩))) lb ta ga tc gc seed := by
  have l3 := hA.lt
  have l4 := hC.lt
  have e1 := heap_setCell_same w4 lb 0 _ _ (.pointer (some ⟨ta, 0, none⟩)) hl
  have e2 := heap_setCell_same _ lb 1 _ _ (.pointer (some ⟨tc, 0, none⟩)) e1
  have eo : ∀ k, k ≠ lb → ((w4.setCell ⟨lb, 0, none⟩ (.pointer (some ⟨ta, 0, none⟩))).setCell ⟨lb, 1, none⟩ (.pointer (some ⟨tc, 0, none⟩))).heap[k]? = w4.heap[k]? := fun k hk => by
    rw [heap_setCell_other _ _ _ _ (by exact hk), heap_setCell_other _ _ _ _ (by exact hk)]
  exact ⟨(hk2.setCell h3 _).setCell h3 _, e2, hA4.later (eo _ (by omega)) (eo _ (by omega)), hC.later (eo _ (by omega)) (eo _ (by omega)), by omega⟩

theorem bcell {W w1 : World} (hb : Below W.heap.size W w1) : (∀ b o, b < W.heap.size → w1.cell? ⟨b, o, none⟩ = W.cell? ⟨b, o, none⟩) ∧ (∀ b o, b < W.heap.size → w1.frozen? ⟨b, o, none⟩ = W.frozen? ⟨b, o, none⟩) :=
  ⟨fun b o h => hb.cell (p := ⟨b, o, none⟩) h, fun b o h => hb.frozen (p := ⟨b, o, none⟩) h⟩

theorem half_nil (m : ByteArray → Option Int) (seed bit : Int) (s : Nat) : (fun _ => none) = half m seed bit [] s := by
  funext k
  exact (half_none (by simp)).symm
theorem split_end {w w5 : World} {seed bit : Int} {S : Grps} {m : ByteArray → Option Int} {tb gb bb xb lb ta tc : Nat} (hT : Tab w tb gb seed S m) (h : SpI w S m seed bit tb gb bb xb lb ta tc S.G 0 w5) (n : Nat) (hd : ta ≠ tc ∧ w.heap.size ≤ ta ∧ w.heap.size ≤ tc) :
    SplitRes w (w5.drewN n) seed bit m (.returned (.tuple #[.pointer (some ⟨ta, 0, none⟩), .pointer (some ⟨tc, 0, none⟩)])) := by
  obtain ⟨ga, Sa, gc, Sc, h1, h2, h3, h4, h5, h6, h7, h8, h9, _⟩ := h.tabs
  rw [keysV_zero, half_all hT.good] at h1 h2
  exact ⟨ta, ga, Sa, tc, gc, Sc, rfl, below_drewN h.bel n, h1.later ((IsDrew.one _ n).below _), h2.later ((IsDrew.one _ n).below _), h3, h4, hd.2.1, h5, hd.2.2, h6, hd.1, h7, h8, h9⟩

set_option maxRecDepth 100000 in
set_option maxHeartbeats 4000000 in
theorem split_any {tb gb : Nat} {seed bit : Int} {S : Grps} {m : ByteArray → Option Int} (w : World) (hT : Tab w tb gb seed S m) (hP : Pow S.G) :
    Calls Try.prog 28 #[.pointer (some ⟨tb, 0, none⟩), .int .i64 bit] w fun e w' => SplitRes w w' seed bit m e := by
  obtain ⟨l1, l2⟩ := hT.at'.lt
  have ht := hT.at'
  have hTb : ∀ W, Below w.heap.size w W → Tab W tb gb seed S m := fun W hb => ⟨ht.belowB hb l1 l2, hT.good, hT.sum, hT.gle, hT.ksz⟩
  have HT := Lib.hid hTb
  have HT0 := Lib.hid hT
  have HP := Lib.hid hP
  clear hT hP hTb
  go_enter Try.func28, Try.ntmps28
  go_wp2
  have hsz : ((w.alloc (Obj.cells #[Value.pointer (some ⟨tb, 0, none⟩)] 23)).alloc (Obj.cells #[Value.int IntKind.i64 bit] 3)).heap.size = w.heap.size + 2 := by simp
  have hbel : Below w.heap.size w ((w.alloc (Obj.cells #[Value.pointer (some ⟨tb, 0, none⟩)] 23)).alloc (Obj.cells #[Value.int IntKind.i64 bit] 3)) :=
    Below.alloc (Below.alloc (Below.refl _ _) (Nat.le_refl _) _) (by simp) _
  have hx : ((w.alloc (Obj.cells #[Value.pointer (some ⟨tb, 0, none⟩)] 23)).alloc (Obj.cells #[Value.int IntKind.i64 bit] 3)).heap[w.heap.size]? = some (.cells #[Value.pointer (some ⟨tb, 0, none⟩)] 23 (0, 0)) := by
    rw [heap_alloc_old _ _ (by simp)]; exact heap_alloc_new _ _
  have hbx : ((w.alloc (Obj.cells #[Value.pointer (some ⟨tb, 0, none⟩)] 23)).alloc (Obj.cells #[Value.int IntKind.i64 bit] 3)).heap[w.heap.size + 1]? = some (.cells #[Value.int IntKind.i64 bit] 3 (0, 0)) := by
    have := heap_alloc_new (w.alloc (Obj.cells #[Value.pointer (some ⟨tb, 0, none⟩)] 23)) (Obj.cells #[Value.int IntKind.i64 bit] 3)
    simpa using this
  generalize ((w.alloc (Obj.cells #[Value.pointer (some ⟨tb, 0, none⟩)] 23)).alloc (Obj.cells #[Value.int IntKind.i64 bit] 3)) = w2 at *
  have hkA : Hid (∀ W', Below w2.heap.size w2 W' → W'.cell? ⟨w.heap.size, 0, none⟩ = some (.pointer (some ⟨tb, 0, none⟩)) ∧ W'.cell? ⟨tb, 0, none⟩ = some (.int .u64 seed)) := fun W' hb =>
    ⟨by rw [cell_of_row _ _ _ _ _ _ ((hb.block w.heap.size (by omega)).trans hx)]; rfl, (ht.belowB (hbel.trans (hb.mono (by omega))) l1 l2).cSeed⟩
  have HSZ := Lib.hid hsz
  clear hsz
  have tok1 : True := trivial
  go_region_held3 (fun W => W.cell? ⟨w.heap.size, 0, none⟩ = some (.pointer (some ⟨tb, 0, none⟩)) ∧ W.cell? ⟨tb, 0, none⟩ = some (.int .u64 seed))
    ((first | exact hkA.out _ (Below.refl _ _).drew | exact hkA.out _ (((Below.refl _ _).drew).alloc (Nat.le_refl _) _) | exact hkA.out _ (((Below.refl _ _).alloc (Nat.le_refl _) _).drew) | exact hkA.out _ hk2 | exact hkA.out _ (hk2.alloc hk2.size _) | exact hkA.out _ ((hk2.setCell (Nat.le_refl _) _).setCell (Nat.le_refl _) _) | exact hkA.out _ ((hk2.setCell hk1.size _).setCell hk1.size _) | exact hkA.out _ hk1 | exact hkA.out _ (hk1.alloc hk1.size _)))
    (first | (go_at_call 15; have _t := tok1; refine (new8_any _ _).mono ?_; rintro e w3 ⟨ta, ga, rfl, hga, hta, hA, hb1⟩; have hk1 : Below w2.heap.size w2 w3 := Below.trans (by first | exact (Below.refl _ _).drew | exact ((Below.refl _ _).alloc (Nat.le_refl _) _).drew | exact ((Below.refl _ _).drew).alloc (Nat.le_refl _) _) (hb1.mono (by first | exact Nat.le_refl _ | simp)); obtain ⟨q1, q2⟩ := bcell hb1; have q3 := hb1.size; (try simp at q3); (try (have q7 : w2.heap.size < w3.heap.size := (by omega))); clear tok1) | (go_at_call 15; refine (new8_any _ _).mono ?_; rintro e w4 ⟨tc, gc, rfl, hgc, htc, hC, hb2⟩; have hk2 : Below w2.heap.size w2 w4 := Below.trans (by first | exact hk1 | exact hk1.alloc hk1.size _) (hb2.mono (by first | exact hk1.size | (have := hk1.size; simp; omega))); obtain ⟨q4, q5⟩ := bcell hb2; have q6 := hb2.size; (try simp at q6); (try (have z0 : w4.cell? ⟨w2.heap.size, 0, none⟩ = some (.pointer none) := (by rw [q4 _ _ (by omega), q1 _ _ (by simp)]; simp))); (try (have y0 : w4.frozen? ⟨w2.heap.size, 0, none⟩ = false := (by rw [q5 _ _ (by omega), q2 _ _ (by simp)]; simp))); (try (have z1 : w4.cell? ⟨w2.heap.size, 1, none⟩ = some (.pointer none) := (by rw [q4 _ _ (by omega), q1 _ _ (by simp)]; simp))); (try (have y1 : w4.frozen? ⟨w2.heap.size, 1, none⟩ = false := (by rw [q5 _ _ (by omega), q2 _ _ (by simp)]; simp))); (try (have x0 : w4.cell? ⟨w3.heap.size, 0, none⟩ = some (.pointer none) := (by rw [q4 _ _ (by simp)]; simp))); (try (have u0 : w4.frozen? ⟨w3.heap.size, 0, none⟩ = false := (by rw [q5 _ _ (by simp)]; simp))); (try (have x1 : w4.cell? ⟨w3.heap.size, 1, none⟩ = some (.pointer none) := (by rw [q4 _ _ (by simp)]; simp))); (try (have u1 : w4.frozen? ⟨w3.heap.size, 1, none⟩ = false := (by rw [q5 _ _ (by simp)]; simp))); clear q1 q2 q4 q5))
  · have F := mid1 hk2 hk1.size hb2 hga hta hA hgc htc hC
    generalize (w4.alloc (Obj.cells #[.pointer (some ⟨ta, 0, none⟩), .pointer (some ⟨tc, 0, none⟩)] 90)) = W at *
    generalize w4.heap.size = lb at *
    have hb0 : Below w.heap.size w W := hbel.trans (F.bel.mono (by have := HSZ.out; omega))
    have hT1 := HT.out W hb0
    obtain ⟨p1, p2⟩ := hkA.out W F.bel
    have p3 := hT1.at'.cGroups
    have hI : SpI w S m seed bit tb gb (w.heap.size + 1) w.heap.size lb ta tc 0 0 W := by
      have hz := HSZ.out
      have hd := F.d
      have hs := F.bel.size
      refine ⟨hb0, by omega, (F.bel.block _ (by omega)).trans hbx, (F.bel.block _ (by omega)).trans hx, F.ll, .inr rfl, ga, emptyG 1, gc, emptyG 1, ?_, ?_, .inl rfl, .inl rfl, by omega, by omega, by omega, by omega, by omega, ⟨by omega, by omega, by omega⟩, by omega, by omega, by omega⟩
      · rw [keysV_zero]; exact half_nil m seed bit 0 ▸ Tab.empty (by omega) (by omega) F.a
      · rw [keysV_zero]; exact half_nil m seed bit 1 ▸ Tab.empty (by omega) (by omega) F.c
    have HE := Lib.hid (each_split #[.pointer (some ⟨w.heap.size + 1, 0, none⟩), .pointer (some ⟨w.heap.size, 0, none⟩), .pointer (some ⟨lb, 0, none⟩)] W hI (SpI.keeps HT0.out) HT0.out.gle
      fun g i wr hg hi hf h => splitC HT0.out HP.out (by have := F.d; have := HSZ.out; omega) h hg hi hf)
    have hdd := F.d
    clear hI hT1 hbx hx F
    go_wp2_with (go_at_call 60; refine HE.out.mono ?_; rintro e w5 ⟨rfl, h5⟩; have z1 : w5.cell? ⟨lb, 0, none⟩ = some (.pointer (some ⟨ta, 0, none⟩)) := (by rw [cell_of_row _ _ _ _ _ _ h5.ll]; rfl); have z2 : w5.cell? ⟨lb, 1, none⟩ = some (.pointer (some ⟨tc, 0, none⟩)) := (by rw [cell_of_row _ _ _ _ _ _ h5.ll]; rfl))
    go_quiet (fail)
    go_wp2
    go_ret2
    exact split_end HT0.out h5 nq (by have := HSZ.out; omega)
  · have F := mid2 (w3 := w3) (lb := w3.heap.size) hk2 hk1.size (.inr rfl) (Nat.le_refl _) hA ((hA.below ((Below.refl _ _).alloc (Nat.le_refl _) _)).below hb2) hga hta (by simp at hgc; omega) htc hC ((hb2.block _ (by simp)).trans (heap_alloc_new _ _))
    generalize ((w4.setCell ⟨w3.heap.size, 0, none⟩ (.pointer (some ⟨ta, 0, none⟩))).setCell ⟨w3.heap.size, 1, none⟩ (.pointer (some ⟨tc, 0, none⟩))) = W at *
    generalize w3.heap.size = lb at *
    have hb0 : Below w.heap.size w W := hbel.trans (F.bel.mono (by have := HSZ.out; omega))
    have hT1 := HT.out W hb0
    obtain ⟨p1, p2⟩ := hkA.out W F.bel
    have p3 := hT1.at'.cGroups
    have hI : SpI w S m seed bit tb gb (w.heap.size + 1) w.heap.size lb ta tc 0 0 W := by
      have hz := HSZ.out
      have hd := F.d
      have hs := F.bel.size
      refine ⟨hb0, by omega, (F.bel.block _ (by omega)).trans hbx, (F.bel.block _ (by omega)).trans hx, F.ll, .inr rfl, ga, emptyG 1, gc, emptyG 1, ?_, ?_, .inl rfl, .inl rfl, by omega, by omega, by omega, by omega, by omega, ⟨by omega, by omega, by omega⟩, by omega, by omega, by omega⟩
      · rw [keysV_zero]; exact half_nil m seed bit 0 ▸ Tab.empty (by omega) (by omega) F.a
      · rw [keysV_zero]; exact half_nil m seed bit 1 ▸ Tab.empty (by omega) (by omega) F.c
    have HE := Lib.hid (each_split #[.pointer (some ⟨w.heap.size + 1, 0, none⟩), .pointer (some ⟨w.heap.size, 0, none⟩), .pointer (some ⟨lb, 0, none⟩)] W hI (SpI.keeps HT0.out) HT0.out.gle
      fun g i wr hg hi hf h => splitC HT0.out HP.out (by have := F.d; have := HSZ.out; omega) h hg hi hf)
    have hdd := F.d
    clear hI hT1 hbx hx F
    go_wp2_with (go_at_call 60; refine HE.out.mono ?_; rintro e w5 ⟨rfl, h5⟩; have z1 : w5.cell? ⟨lb, 0, none⟩ = some (.pointer (some ⟨ta, 0, none⟩)) := (by rw [cell_of_row _ _ _ _ _ _ h5.ll]; rfl); have z2 : w5.cell? ⟨lb, 1, none⟩ = some (.pointer (some ⟨tc, 0, none⟩)) := (by rw [cell_of_row _ _ _ _ _ _ h5.ll]; rfl))
    go_quiet (fail)
    go_wp2
    go_ret2
    exact split_end HT0.out h5 nq (by have := HSZ.out; omega)
  · have F := mid2 (w3 := w3) (lb := w2.heap.size) hk2 (Nat.le_refl _) (.inl (by simp at hga; omega)) hk1.size hA (hA.below hb2) (by simp at hga; omega) hta (by omega) htc hC ((hb2.block _ q7).trans ((hb1.block _ (by simp)).trans (heap_alloc_new _ _)))
    generalize ((w4.setCell ⟨w2.heap.size, 0, none⟩ (.pointer (some ⟨ta, 0, none⟩))).setCell ⟨w2.heap.size, 1, none⟩ (.pointer (some ⟨tc, 0, none⟩))) = W at *
    obtain ⟨lb, hlb⟩ : ∃ lb, lb = w2.heap.size := ⟨_, rfl⟩
    rw [← hlb] at F ⊢
    clear hlb
    have hb0 : Below w.heap.size w W := hbel.trans (F.bel.mono (by have := HSZ.out; omega))
    have hT1 := HT.out W hb0
    obtain ⟨p1, p2⟩ := hkA.out W F.bel
    have p3 := hT1.at'.cGroups
    have hI : SpI w S m seed bit tb gb (w.heap.size + 1) w.heap.size lb ta tc 0 0 W := by
      have hz := HSZ.out
      have hd := F.d
      have hs := F.bel.size
      refine ⟨hb0, by omega, (F.bel.block _ (by omega)).trans hbx, (F.bel.block _ (by omega)).trans hx, F.ll, .inr rfl, ga, emptyG 1, gc, emptyG 1, ?_, ?_, .inl rfl, .inl rfl, by omega, by omega, by omega, by omega, by omega, ⟨by omega, by omega, by omega⟩, by omega, by omega, by omega⟩
      · rw [keysV_zero]; exact half_nil m seed bit 0 ▸ Tab.empty (by omega) (by omega) F.a
      · rw [keysV_zero]; exact half_nil m seed bit 1 ▸ Tab.empty (by omega) (by omega) F.c
    have HE := Lib.hid (each_split #[.pointer (some ⟨w.heap.size + 1, 0, none⟩), .pointer (some ⟨w.heap.size, 0, none⟩), .pointer (some ⟨lb, 0, none⟩)] W hI (SpI.keeps HT0.out) HT0.out.gle
      fun g i wr hg hi hf h => splitC HT0.out HP.out (by have := F.d; have := HSZ.out; omega) h hg hi hf)
    have hdd := F.d
    clear hI hT1 hbx hx F
    go_wp2_with (go_at_call 60; refine HE.out.mono ?_; rintro e w5 ⟨rfl, h5⟩; have z1 : w5.cell? ⟨lb, 0, none⟩ = some (.pointer (some ⟨ta, 0, none⟩)) := (by rw [cell_of_row _ _ _ _ _ _ h5.ll]; rfl); have z2 : w5.cell? ⟨lb, 1, none⟩ = some (.pointer (some ⟨tc, 0, none⟩)) := (by rw [cell_of_row _ _ _ _ _ _ h5.ll]; rfl))
    go_quiet (fail)
    go_wp2
    go_ret2
    exact split_end HT0.out h5 nq (by have := HSZ.out; omega)
end Go.Proofs.Ytkkijcnipjojoaa
