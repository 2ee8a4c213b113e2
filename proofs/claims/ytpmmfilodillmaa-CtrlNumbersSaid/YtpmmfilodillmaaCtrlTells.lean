/- CtrlTells and CtrlNumbers: what is told of a word is what the document says. -/
import Derived.Test.YtpmmfilodillmaaSame7
namespace Go.Proofs.Ytpmmfilodillmaa
open Go.RowKit

set_option maxRecDepth 100000 in
set_option maxHeartbeats 8000000 in
theorem ctrlNumbers_walk (w : World) : Calls Try.prog 7 #[] w (TrueBelow w) := by
  have hwb : wordI (fun _ => 128) = 9259542123273814144 := by decide +kernel
  have HWB := Lib.hid hwb
  clear hwb
  go_enter Try.func7, Try.ntmps7
  go_wp2
  go_loopw [1] (fun c wr => ∃ k : Nat, k ≤ 256 ∧ c = .int .i64 k ∧ Below w.heap.size w wr) (fun c _ => 256 - (intOf c).toNat)
  case atStart => exact ⟨0, by omega, rfl, Below.refl _ _⟩
  case round =>
    obtain ⟨k, hk, rfl, acc⟩ := hrel
    by_cases hlt : k < 256
    · have hd : decide ((k : Int) < 256) = true := by simp; omega
      go_wp2_with (go_at_call 27; refine (new_any _).mono ?_; rintro e w' ⟨rfl, rfl⟩)
      go_loopw [2, 3] (fun x i ws => ∃ (j : Nat) (z : Int), j ≤ 10 ∧ i = .int .i64 ((j : Int) - 1) ∧ x = .int .u64 z ∧ 0 ≤ z ∧ z < 18446744073709551616 ∧ Below w.heap.size w ws) (fun _ i _ => (9 - intOf i).toNat)
      case atStart => exact ⟨0, _, by omega, rfl, rfl, by omega, by omega, acc⟩
      case round =>
        obtain ⟨j, z, hj, rfl, rfl, z0, z1, acc2⟩ := hrel
        by_cases hjl : j < 10
        · obtain ⟨p0, p1⟩ := put_bd z ((j : Int) - 1) (wrap64 ((k : Int) * ((j : Int) - 1 + 3)) % 256) z0 z1 (by omega) (by omega)
          go_wp2_with (first | (go_at_call 24; refine (set_any _ _ _ _ (by omega) (by omega) (by omega) (by omega)).mono ?_; rintro e w' ⟨rfl, m2, rfl⟩; replace acc2 := below_draws acc2 m2) | (go_at_call 29; refine (same7_any _ _ _ _ (by omega) (by omega) (by omega) (by omega)).mono ?_; rintro e w3 ⟨rfl, hb3⟩; replace acc2 := below_step acc2 hb3; clear hb3))
          go_roundw
          case rel => exact ⟨j + 1, _, by omega, by go_num, rfl, p0, p1, acc2⟩
          case measure => simp [intOf]; omega
        · go_wp2
          go_roundw
          case rel => exact ⟨k + 1, by omega, by go_num, acc2⟩
          case measure => simp [intOf]; omega
    · go_wp2_with (first | (go_at_call 27; refine (new_any _).mono ?_; rintro e w' ⟨rfl, rfl⟩) | (go_at_call 28; refine (word_lit (fun _ => 128) _ (fun _ _ => by omega)).mono ?_; rintro e w3 ⟨rfl, hb3⟩; rw [HWB.out]; replace acc := below_step acc hb3; clear hb3) | (go_at_call 26; refine (known7_any _).mono ?_; rintro e w3 ⟨rfl, hb3⟩; replace acc := below_step acc hb3; clear hb3))
      go_ret
      exact ⟨rfl, acc⟩

theorem row_stored {wr : World} {gb : Nat} {f : Nat → Int} {t : TypeId} (hh : wr.heap[gb]? = some (.cells (arr f) t (0, 0))) (hg : gb < wr.heap.size) (O : Obj) (k : Nat) (hk : k < 8) (v : Int) :
    (((wr.setCell ⟨gb, k, none⟩ (.int .u8 v)).alloc O).drew).heap[gb]? = some (.cells (arr fun i => if i = k then v else f i) t (0, 0)) := by
  show ((wr.setCell ⟨gb, k, none⟩ (.int .u8 v)).alloc O).heap[gb]? = _
  rw [heap_alloc_old _ _ (by simpa [World.setCell] using hg), heap_setCell_same _ _ _ _ _ _ hh, arr_set f k v hk]
theorem row_below {w wr : World} {gb : Nat} (acc : Below w.heap.size w wr) (hlo : w.heap.size ≤ gb) (O : Obj) (k : Nat) (v : Value) : Below w.heap.size w (((wr.setCell ⟨gb, k, none⟩ v).alloc O).drew) :=
  ((acc.setCell (p := ⟨gb, k, none⟩) hlo v).alloc (by have := acc.size; simpa [World.setCell] using this) O).drew
structure Keep8 (w : World) (gb : Nat) (f : Nat → Int) (W : World) : Prop where
  bel : Below w.heap.size w W
  hs : W.heap[gb]? = some (.cells (arr f) 38 (0, 0))
theorem Keep8.step {w : World} {gb : Nat} {f : Nat → Int} {W W' : World} (h : Keep8 w gb f W) (hb : Below W.heap.size W W') : Keep8 w gb f W' :=
  ⟨h.bel.trans (hb.mono h.bel.size), (hb.block _ (heap_lt h.hs)).trans h.hs⟩
theorem Keep8.drew {w : World} {gb : Nat} {f : Nat → Int} {W : World} (h : Keep8 w gb f W) : Keep8 w gb f W.drew := h.step ((Below.refl _ _).drew)
abbrev S8 (w : World) (gb : Nat) (f : Nat → Int) (W : World) : Prop :=
  (W.cell? ⟨gb, 0, none⟩ = some (.int .u8 (f 0)) ∧ W.cell? ⟨gb, 1, none⟩ = some (.int .u8 (f 1)) ∧ W.cell? ⟨gb, 2, none⟩ = some (.int .u8 (f 2)) ∧ W.cell? ⟨gb, 3, none⟩ = some (.int .u8 (f 3)) ∧ W.cell? ⟨gb, 4, none⟩ = some (.int .u8 (f 4)) ∧ W.cell? ⟨gb, 5, none⟩ = some (.int .u8 (f 5)) ∧ W.cell? ⟨gb, 6, none⟩ = some (.int .u8 (f 6)) ∧ W.cell? ⟨gb, 7, none⟩ = some (.int .u8 (f 7))) ∧ Keep8 w gb f W
abbrev S8t (w : World) (gb : Nat) (f : Nat → Int) (t : Int) (W : World) : Prop :=
  (W.cell? ⟨gb, 0, none⟩ = some (.int .u8 (f 0)) ∧ W.cell? ⟨gb, 1, none⟩ = some (.int .u8 (f 1)) ∧ W.cell? ⟨gb, 2, none⟩ = some (.int .u8 (f 2)) ∧ W.cell? ⟨gb, 3, none⟩ = some (.int .u8 (f 3)) ∧ W.cell? ⟨gb, 4, none⟩ = some (.int .u8 (f 4)) ∧ W.cell? ⟨gb, 5, none⟩ = some (.int .u8 (f 5)) ∧ W.cell? ⟨gb, 6, none⟩ = some (.int .u8 (f 6)) ∧ W.cell? ⟨gb, 7, none⟩ = some (.int .u8 (f 7))) ∧ Keep8 w gb f W ∧ W.cell? ⟨gb, t.toNat, none⟩ = some (.int .u8 (f t.toNat))
theorem Keep8.all {w : World} {gb : Nat} {f : Nat → Int} {W : World} (h : Keep8 w gb f W) : S8 w gb f W :=
  ⟨⟨row_cells h.hs 0 (by omega), row_cells h.hs 1 (by omega), row_cells h.hs 2 (by omega), row_cells h.hs 3 (by omega), row_cells h.hs 4 (by omega), row_cells h.hs 5 (by omega), row_cells h.hs 6 (by omega), row_cells h.hs 7 (by omega)⟩, h⟩
theorem Keep8.all2 {w : World} {gb : Nat} {f : Nat → Int} {W : World} (h : Keep8 w gb f W) (t : Int) (_ : 0 ≤ t) (_ : t ≤ 7) : S8t w gb f t W :=
  ⟨h.all.1, h, row_cells h.hs t.toNat (by omega)⟩
theorem upd_bd {f : Nat → Int} (hf : ∀ i, i < 8 → 0 ≤ f i ∧ f i < 256) (k : Nat) (v : Int) (v0 : 0 ≤ v) (v1 : v < 256) : Hid (∀ i, i < 8 → 0 ≤ (fun i => if i = k then v else f i) i ∧ (fun i => if i = k then v else f i) i < 256) := by
  intro i hi
  show 0 ≤ (if i = k then v else f i) ∧ (if i = k then v else f i) < 256
  split
  · exact ⟨v0, v1⟩
  · exact hf i hi

set_option maxRecDepth 100000 in
set_option maxHeartbeats 8000000 in
theorem ctrlTells_walk (x i c : Int) (a : Option Addr) (len cap : Nat) (zs : List Int) (w : World) (x0 : 0 ≤ x) (x1 : x < 18446744073709551616) (c0 : 0 ≤ c) (c1 : c < 256)
    (hr : Reads .u8 w (.slice a len cap) zs) (hz : ∀ z ∈ zs, 0 ≤ z ∧ z < 256) :
    Calls Try.prog 8 #[.int .u64 x, .int .i64 i, .int .u8 c, .slice a len cap] w (TrueBelow w) := by
  obtain ⟨t0, t1⟩ := within_bd i 0 7 (by omega)
  generalize ht : within i 0 7 = t at *
  have HT := Lib.hid ht
  clear ht
  obtain ⟨a', c', he, hm, hcells⟩ := hr
  simp only [Value.slice.injEq] at he
  obtain ⟨rfl, rfl, rfl⟩ := he
  have HC := Lib.hid hcells
  have HZ := Lib.hid hz
  unfold maxLen at hm
  clear hcells hz
  go_enter Try.func8, Try.ntmps8
  go_wp2_with (go_at_call 30; refine (bytes_any _ _).mono ?_; rintro e w1 ⟨rfl, hb1⟩; unfold arr)
  have acc0 : Below w.heap.size w (w1.alloc (.cells (arr (bytI x)) 38)) := hb1.alloc hb1.size _
  have hh0 : (w1.alloc (.cells (arr (bytI x)) 38)).heap[w1.heap.size]? = some (.cells (arr (bytI x)) 38 (0, 0)) := heap_alloc_new _ _
  have hlo := hb1.size
  generalize hgb : w1.heap.size = gb at *
  clear hgb hb1
  go_loopw [10] (fun n wr => ∃ (k : Nat) (f : Nat → Int), k ≤ 8 ∧ n = .int .i64 k ∧ wr.heap[gb]? = some (.cells (arr f) 38 (0, 0)) ∧ Hid (∀ i, i < 8 → 0 ≤ f i ∧ f i < 256) ∧ Below w.heap.size w wr) (fun n _ => 8 - (intOf n).toNat)
  case atStart => exact ⟨0, bytI x, by omega, rfl, hh0, fun i _ => byt_bd x i, acc0⟩
  case round =>
    clear hh0 acc0
    obtain ⟨k, f, hk, rfl, hh, hf, acc⟩ := hrel
    have hgw : gb < wr.heap.size := heap_lt hh
    by_cases hlt : k < 8 ∧ k < zs.length
    · obtain ⟨hl8, hlz⟩ := hlt
      obtain ⟨z, hq⟩ : ∃ z, zs[k]? = some z := ⟨zs[k], List.getElem?_eq_getElem hlz⟩
      obtain ⟨z0, z1⟩ := HZ.out z (List.mem_of_getElem? hq)
      obtain ⟨b, off, rfl, hcell⟩ := HC.out k z hq
      have hbw : b < w.heap.size := World.block_lt_of_cell? w _ hcell
      have hcw : wr.cell? ⟨b, off + k, none⟩ = some (.int .u8 z) := (acc.cell (p := ⟨b, off + k, none⟩) hbw).trans hcell
      have hca : wr.cell? ⟨gb, k, none⟩ = some (.int .u8 (f k)) := row_cells hh k hl8
      have hfr := frozen_of_row wr gb k _ _ hh
      have hcw2 : ∀ O, (wr.alloc O).cell? ⟨b, off + k, none⟩ = some (.int .u8 z) := fun O => (World.cell?_alloc_past _ _ _ (World.block_lt_of_cell? wr _ hcw)).trans hcw
      have hca2 : ∀ O, (wr.alloc O).cell? ⟨gb, k, none⟩ = some (.int .u8 (f k)) := fun O => (World.cell?_alloc_past _ _ _ hgw).trans hca
      have hfr2 : ∀ O, (wr.alloc O).frozen? ⟨gb, k, none⟩ = false := fun O => frozen_of_row _ gb k _ _ ((heap_alloc_old _ _ hgw).trans hh)
      clear hq hcell
      have H4 : z % 4 = 0 ∨ z % 4 = 1 ∨ z % 4 = 2 ∨ z % 4 = 3 := by omega
      rcases H4 with h4 | h4 | h4 | h4
      all_goals
        go_wp2
        go_region
        all_goals
          go_wp2
          go_roundw
          case rel => exact ⟨k + 1, _, by omega, by go_num, row_stored hh hgw _ k hl8 _, upd_bd hf.out k _ (by omega) (by omega), row_below acc hlo _ k _⟩
          case measure => simp [intOf]; omega
    · have hdec : decide (k < zs.length) = false ∨ decide (k < zs.length) = true ∧ decide ((k : Int) < 8) = false := by
        by_cases h1 : k < zs.length
        · right; exact ⟨by simp; omega, by simp; omega⟩
        · left; simp; omega
      have hk8 : Keep8 w gb f wr := ⟨acc, hh⟩
      have hwd := word_bd f hf.out
      obtain ⟨y0, y1⟩ := hwd
      obtain ⟨ft0, ft1⟩ := hf.out t.toNat (by omega)
      generalize hyf : wordI f = y at *
      have HY := Lib.hid hyf
      clear hyf
      obtain ⟨⟨c0', c1', c2', c3', c4', c5', c6', c7'⟩, _⟩ := hk8.all
      have ct := row_cells hh t.toNat (by omega)
      have t8 : t < 8 := by omega
      clear hh acc hgw hlt
      rcases hdec with hdec | ⟨hdec, hdec2⟩
      all_goals
        go_wp2_with (go_at_call 23; refine (within_any _ _ _ _ (by omega) (by omega) (by omega)).mono ?_; rintro e w' ⟨rfl, rfl⟩; rw [HT.out])
        go_region_held3 (fun W => (W.cell? ⟨gb, 0, none⟩ = some (.int .u8 (f 0)) ∧ W.cell? ⟨gb, 1, none⟩ = some (.int .u8 (f 1)) ∧ W.cell? ⟨gb, 2, none⟩ = some (.int .u8 (f 2)) ∧ W.cell? ⟨gb, 3, none⟩ = some (.int .u8 (f 3)) ∧ W.cell? ⟨gb, 4, none⟩ = some (.int .u8 (f 4)) ∧ W.cell? ⟨gb, 5, none⟩ = some (.int .u8 (f 5)) ∧ W.cell? ⟨gb, 6, none⟩ = some (.int .u8 (f 6)) ∧ W.cell? ⟨gb, 7, none⟩ = some (.int .u8 (f 7))) ∧ Keep8 w gb f W ∧ W.cell? ⟨gb, t.toNat, none⟩ = some (.int .u8 (f t.toNat)))
          ((first | with_reducible exact hk8.drew.all2 t t0 t1 | with_reducible exact hs1.all2 t t0 t1 | with_reducible exact hs2.all2 t t0 t1 | with_reducible exact hs3.all2 t t0 t1 | with_reducible exact hs4.all2 t t0 t1 | with_reducible exact hs5.all2 t t0 t1 | with_reducible exact hs6.all2 t t0 t1))
          (first
            | (go_at_call 29; (with_reducible refine (same7_any x i c _ x0 x1 c0 c1).mono ?_); rintro e s1 ⟨rfl, hb1⟩; have hs1 := hk8.drew.step hb1)
            | (go_at_call 29; (with_reducible refine (same7_any y t c _ y0 y1 c0 c1).mono ?_); rintro e s3 ⟨rfl, hb3⟩; have hs3 := hs2.step hb3)
            | (go_at_call 29; (with_reducible refine (same7_any y t (f t.toNat) _ y0 y1 ft0 ft1).mono ?_); rintro e s5 ⟨rfl, hb5⟩; have hs5 := hs4.step hb5)
            | (go_at_call 28; have _t := hs3; (with_reducible refine (word_lit f _ hf.out).mono ?_); rintro e s4 ⟨rfl, hb4⟩; rw [HY.out]; have hs4 := hs3.step hb4)
            | (go_at_call 28; (with_reducible refine (word_lit f _ hf.out).mono ?_); rintro e s2 ⟨rfl, hb2⟩; rw [HY.out]; have hs2 := hs1.step hb2)
            | (go_at_call 26; refine (known7_any _).mono ?_; rintro e s6 ⟨rfl, hb6⟩; have hs6 := hs5.step hb6))
        go_wp2
        go_ret
        exact ⟨rfl, hs6.bel⟩
end Go.Proofs.Ytpmmfilodillmaa
