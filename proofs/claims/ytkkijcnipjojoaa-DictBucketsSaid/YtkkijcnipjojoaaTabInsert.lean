/- Contracts of package table: a key goes into a slot that is free. -/
import Derived.Test.YtkkijcnipjojoaaTabGet
import Derived.Deep.RegionLaw
namespace Go.Proofs.Ytkkijcnipjojoaa
open Go.RowKit

/-- All blocks but two stand as they stood. -/
structure Touch (w w' : World) (tb gb : Nat) : Prop where
  os : w'.os = w.os
  tape : w'.tape = w.tape
  output : w'.output = w.output
  size : w.heap.size ≤ w'.heap.size
  block : ∀ k, k < w.heap.size → k ≠ tb → k ≠ gb → w'.heap[k]? = w.heap[k]?
section
variable {w w' w'' : World} {tb gb : Nat}
theorem Touch.refl (w : World) (tb gb : Nat) : Touch w w tb gb := ⟨rfl, rfl, rfl, Nat.le_refl _, fun _ _ _ _ => rfl⟩
theorem Touch.trans (h : Touch w w' tb gb) (k : Touch w' w'' tb gb) : Touch w w'' tb gb :=
  ⟨k.os.trans h.os, k.tape.trans h.tape, k.output.trans h.output, Nat.le_trans h.size k.size, fun q h1 h2 h3 => (k.block q (by have := h.size; omega) h2 h3).trans (h.block q h1 h2 h3)⟩
theorem Touch.of_below (h : Below w.heap.size w w') : Touch w w' tb gb := ⟨h.os, h.tape, h.output, h.size, fun k hk _ _ => h.block k hk⟩
theorem Touch.setCell (h : Touch w w' tb gb) (a : Addr) (ha : a.block = tb ∨ a.block = gb) (v : Value) : Touch w (w'.setCell a v) tb gb :=
  ⟨h.os, h.tape, h.output, by have := h.size; simpa [World.setCell] using this, fun k h1 h2 h3 => by
    rw [heap_setCell_other _ _ _ _ (by rcases ha with e | e <;> omega)]; exact h.block k h1 h2 h3⟩
theorem Touch.drewN (h : Touch w w' tb gb) (m : Nat) : Touch w (w'.drewN m) tb gb := h.trans (Touch.of_below ((IsDrew.one w' m).below _))
theorem Touch.below (h : Touch w w' tb gb) {B : Nat} (h0 : B ≤ w.heap.size) (h1 : B ≤ tb) (h2 : B ≤ gb) : Below B w w' :=
  ⟨h.os, h.tape, h.output, h.size, fun k hk => h.block k (by omega) (by omega) (by omega)⟩
end

section
variable {w : World} {tb gb : Nat} {seed : Int} {S : Grps} {n mk : Int}
theorem TabAt.setMarks (h : TabAt w tb gb seed S n mk) (x : Int) : TabAt (w.setCell ⟨tb, 3, none⟩ (.int .i64 x)) tb gb seed S n x :=
  ⟨by rw [heap_setCell_same _ _ _ _ _ _ h.ht]; rfl, by rw [heap_setCell_other _ _ _ _ (by exact fun e => h.ne e.symm)]; exact h.hg, h.ne⟩
theorem TabAt.setN (h : TabAt w tb gb seed S n mk) (x : Int) : TabAt (w.setCell ⟨tb, 2, none⟩ (.int .i64 x)) tb gb seed S x mk :=
  ⟨by rw [heap_setCell_same _ _ _ _ _ _ h.ht]; rfl, by rw [heap_setCell_other _ _ _ _ (by exact fun e => h.ne e.symm)]; exact h.hg, h.ne⟩
theorem TabAt.setW (h : TabAt w tb gb seed S n mk) (g : Nat) (hg : g < S.G) (x : Int) : TabAt (w.setCell ⟨gb, g * 17, none⟩ (.int .u64 x)) tb gb seed (setWG S g x) n mk :=
  ⟨by rw [heap_setCell_other _ _ _ _ (by exact h.ne)]; exact h.ht, by rw [heap_setCell_same _ _ _ _ _ _ h.hg, flat_setW _ _ _ hg], h.ne⟩
theorem TabAt.setK (h : TabAt w tb gb seed S n mk) (g i : Nat) (hg : g < S.G) (hi : i < 8) (k : ByteArray) : TabAt (w.setCell ⟨gb, g * 17 + 1 + i * 2, none⟩ (.string k)) tb gb seed (setKG S g i k) n mk :=
  ⟨by rw [heap_setCell_other _ _ _ _ (by exact h.ne)]; exact h.ht, by rw [heap_setCell_same _ _ _ _ _ _ h.hg, flat_setK _ _ _ _ hg hi], h.ne⟩
theorem TabAt.setV (h : TabAt w tb gb seed S n mk) (g i : Nat) (hg : g < S.G) (hi : i < 8) (x : Int) : TabAt (w.setCell ⟨gb, g * 17 + 1 + i * 2 + 1, none⟩ (.int .i64 x)) tb gb seed (valG S g i x) n mk :=
  ⟨by rw [heap_setCell_other _ _ _ _ (by exact h.ne)]; exact h.ht, by rw [heap_setCell_same _ _ _ _ _ _ h.hg, flat_setV _ _ _ _ hg hi], h.ne⟩
end

/-- The four boxes that insert shares with its inner function. -/
structure IBox (W : World) (tb xb hb kb vb : Nat) (h : Int) (key : ByteArray) (v : Int) : Prop where
  bx : W.heap[xb]? = some (.cells #[.pointer (some ⟨tb, 0, none⟩)] 23 (0, 0))
  bh : W.heap[hb]? = some (.cells #[.int .u64 h] 22 (0, 0))
  bk : W.heap[kb]? = some (.cells #[.string key] 9 (0, 0))
  bv : W.heap[vb]? = some (.cells #[.int .i64 v] 3 (0, 0))
theorem IBox.later {W W' : World} {tb xb hb kb vb : Nat} {h : Int} {key : ByteArray} {v : Int} (x : IBox W tb xb hb kb vb h key v) (hw : Below W.heap.size W W') : IBox W' tb xb hb kb vb h key v :=
  ⟨(hw.block _ (heap_lt' x.bx)).trans x.bx, (hw.block _ (heap_lt' x.bh)).trans x.bh, (hw.block _ (heap_lt' x.bk)).trans x.bk, (hw.block _ (heap_lt' x.bv)).trans x.bv⟩
theorem IBox.cells {W : World} {tb xb hb kb vb : Nat} {h : Int} {key : ByteArray} {v : Int} (x : IBox W tb xb hb kb vb h key v) :
    W.cell? ⟨xb, 0, none⟩ = some (.pointer (some ⟨tb, 0, none⟩)) ∧ W.cell? ⟨hb, 0, none⟩ = some (.int .u64 h) ∧ W.cell? ⟨kb, 0, none⟩ = some (.string key) ∧ W.cell? ⟨vb, 0, none⟩ = some (.int .i64 v) :=
  ⟨by rw [cell_of_row _ _ _ _ _ _ x.bx]; rfl, by rw [cell_of_row _ _ _ _ _ _ x.bh]; rfl, by rw [cell_of_row _ _ _ _ _ _ x.bk]; rfl, by rw [cell_of_row _ _ _ _ _ _ x.bv]; rfl⟩

theorem IBox.setCell {W : World} {tb xb hb kb vb : Nat} {h : Int} {key : ByteArray} {v : Int} (x : IBox W tb xb hb kb vb h key v) (a : Addr) (u : Value) (ha : a.block ≠ xb ∧ a.block ≠ hb ∧ a.block ≠ kb ∧ a.block ≠ vb) : IBox (W.setCell a u) tb xb hb kb vb h key v :=
  ⟨by rw [heap_setCell_other _ _ _ _ (fun e => ha.1 e.symm)]; exact x.bx, by rw [heap_setCell_other _ _ _ _ (fun e => ha.2.1 e.symm)]; exact x.bh, by rw [heap_setCell_other _ _ _ _ (fun e => ha.2.2.1 e.symm)]; exact x.bk, by rw [heap_setCell_other _ _ _ _ (fun e => ha.2.2.2 e.symm)]; exact x.bv⟩

set_option maxRecDepth 100000 in
set_option maxHeartbeats 4000000 in
theorem insert1_any {tb gb : Nat} {seed : Int} {S : Grps} {n mk : Int} (w : World) (ht : TabAt w tb gb seed S n mk) (g : Nat) (hg : g < S.G) (xb hb kb vb : Nat) (h : Int) (key : ByteArray) (v : Int) (hbx : IBox w tb xb hb kb vb h key v)
    (x0 : 0 ≤ S.w g) (x1 : S.w g < 18446744073709551616) (s0 : 0 ≤ sevenI h) (s1 : sevenI h < 256) (n0 : 0 ≤ n) (n1 : n ≤ 100000) (m0 : 0 ≤ mk) (m1 : mk ≤ 100000)
    (hd : tb ≠ xb ∧ tb ≠ hb ∧ tb ≠ kb ∧ tb ≠ vb ∧ gb ≠ xb ∧ gb ≠ hb ∧ gb ≠ kb ∧ gb ≠ vb) :
    Calls Try.prog 90 #[.pointer (some ⟨gb, g * 17, none⟩), .pointer (some ⟨xb, 0, none⟩), .pointer (some ⟨hb, 0, none⟩), .pointer (some ⟨kb, 0, none⟩), .pointer (some ⟨vb, 0, none⟩)] w fun e w' =>
      (e = .returned (.bool false) ∧ (∀ i, i < 8 → bytI (S.w g) i < 128) ∧ Below w.heap.size w w') ∨
      (∃ i, i < 8 ∧ 128 ≤ bytI (S.w g) i ∧ e = .returned (.bool true) ∧ TabAt w' tb gb seed (putG S g i (sevenI h) key v) (n + 1) (if bytI (S.w g) i = 254 then mk - 1 else mk) ∧ Touch w w' tb gb) := by
  obtain ⟨c1, c2, c3, c4⟩ := hbx.cells
  have cw := ht.cW g hg
  have HM := Lib.hid (slots_mem isFree (S.w g) 8)
  have HS := Lib.hid (slots_pos isFree (S.w g))
  have hl := slots_len isFree (S.w g) 8
  generalize hL : slotsI isFree (S.w g) 8 = l at *
  have HL := Lib.hid hL
  clear hL
  cases l with
  | nil =>
    go_enter Try.func90, Try.ntmps90
    go_wp2_with (go_at_call 91; refine (free_any _ _).mono ?_; rintro e w1 ⟨a, c, rfl, hown, hb1⟩; rw [HL.out])
    go_ret
    refine .inl ⟨rfl, ?_, hb1⟩
    intro i hi
    by_cases q : bytI (S.w g) i < 128
    · exact q
    · exfalso
      have := HS.out.2 ⟨i, hi, by simp [isFree]; omega⟩
      simp at this
  | cons q l =>
    obtain ⟨q0, q1, hq⟩ := (HM.out q).1 List.mem_cons_self
    obtain ⟨i, rfl⟩ := Int.eq_ofNat_of_zero_le q0
    simp only [Int.toNat_natCast, isFree, decide_eq_true_eq] at hq
    have hat : Hid (atI (S.w g) i = bytI (S.w g) i) := by unfold Hid atI; rw [if_pos ⟨by omega, by omega⟩, Int.toNat_natCast]
    generalize hz : bytI (S.w g) i = z at *
    have HZ := Lib.hid hz
    clear hz
    have hi8 : i < 8 := by omega
    by_cases h254 : z = 254
    · have e254 : (z == 254) = true := by simp [h254]
      have H254 := Lib.hid h254
      clear h254 HM HS
      go_enter Try.func90, Try.ntmps90
      go_wp2_with (first | (go_at_call 91; refine (free_any _ _).mono ?_; rintro e w1 ⟨a, c, rfl, hown, hb1⟩; rw [HL.out] at hown ⊢; obtain ⟨a', c', ha', _, hcells⟩ := Reads.owns hown; obtain ⟨b, off, hab, hcell⟩ := hcells 0 i rfl; rw [Nat.add_zero] at hcell; simp only [Value.slice.injEq] at ha'; obtain ⟨rfl, _, rfl⟩ := ha'; subst hab; have ht1 := ht.below hb1; have hx1 := hbx.later hb1; obtain ⟨d1, d2, d3, d4⟩ := hx1.cells; have cw1 := ht1.cW g hg; have cm1 := ht1.cMarks; have cn1 := ht1.cN; have ft := frozen_of_row _ _ 3 _ _ ht1.ht; have hT := Touch.of_below (tb := tb) (gb := gb) hb1; clear hcells hown) | (go_at_call 92; refine (at_any _ _ _).mono ?_; rintro e w' ⟨rfl, rfl⟩; rw [hat.out]))
      have ht6 := ht1.setMarks (mk - 1)
      have hx6 := hx1.setCell ⟨tb, 3, none⟩ (.int .i64 (mk - 1)) ⟨hd.1, hd.2.1, hd.2.2.1, hd.2.2.2.1⟩
      have hT6 := hT.setCell ⟨tb, 3, none⟩ (.inl rfl) (.int .i64 (mk - 1))
      clear hcell d1 d2 d3 d4 cw1 cm1 cn1 ft hT ht1 hx1 hb1 cw c1 c2 c3 c4 hbx ht
      generalize w1.setCell ⟨tb, 3, none⟩ (.int .i64 (mk - 1)) = w6 at *
      obtain ⟨d1, d2, d3, d4⟩ := hx6.cells
      have cw6 := ht6.cW g hg
      have fg6 := frozen_of_row _ _ (g * 17) _ _ ht6.hg
      have H7 : Hid (∀ m, TabAt ((w6.drewN m).setCell ⟨gb, g * 17, none⟩ (.int .u64 (putI (S.w g) i (sevenI h)))) tb gb seed (setWG S g (putI (S.w g) i (sevenI h))) n (mk - 1) ∧ IBox ((w6.drewN m).setCell ⟨gb, g * 17, none⟩ (.int .u64 (putI (S.w g) i (sevenI h)))) tb xb hb kb vb h key v ∧
          Touch w ((w6.drewN m).setCell ⟨gb, g * 17, none⟩ (.int .u64 (putI (S.w g) i (sevenI h)))) tb gb) := fun m =>
        ⟨(ht6.below ((IsDrew.one w6 m).below _)).setW g hg _, (hx6.later ((IsDrew.one w6 m).below _)).setCell _ _ ⟨hd.2.2.2.2.1, hd.2.2.2.2.2.1, hd.2.2.2.2.2.2.1, hd.2.2.2.2.2.2.2⟩, (hT6.drewN m).setCell _ (.inr rfl) _⟩
      clear ht6 hx6 hT6
      go_region_law ((first | (go_simp; go_at_call 89; refine (seven_any _ _).mono ?_; rintro e w' ⟨rfl, rfl⟩) | (go_simp; go_at_call 58; refine (set_any _ _ _ _ x0 x1 s0 s1).mono ?_; rintro e w' ⟨rfl, m2, rfl⟩)))
      all_goals
        obtain ⟨ht7, hx7, hT7⟩ := H7.out (1 + m2)
        clear H7 d1 d2 d3 d4 cw6 fg6
        generalize (w6.drewN (1 + m2)).setCell ⟨gb, g * 17, none⟩ (.int .u64 (putI (S.w g) i (sevenI h))) = w7 at *
        obtain ⟨d1, d2, d3, d4⟩ := hx7.cells
        have ck7 := ht7.cK g i hg hi8
        have cv7 := ht7.cV g i hg hi8
        have f1 := frozen_of_row _ _ (g * 17 + 1 + i * 2) _ _ ht7.hg
        have f2 := frozen_of_row _ _ (g * 17 + 1 + i * 2 + 1) _ _ ht7.hg
        go_wp2
        go_region
      all_goals
        have ht8 : TabAt ((w7.setCell ⟨gb, g * 17 + 1 + i * 2, none⟩ (.string key)).setCell ⟨gb, g * 17 + 1 + i * 2 + 1, none⟩ (.int .i64 v)).drew tb gb seed (putG S g i (sevenI h) key v) n (mk - 1) := ((ht7.setK g i hg hi8 key).setV g i hg hi8 v).below ((Below.refl _ _).drew)
        have hx8 := ((hx7.setCell ⟨gb, g * 17 + 1 + i * 2, none⟩ (.string key) ⟨hd.2.2.2.2.1, hd.2.2.2.2.2.1, hd.2.2.2.2.2.2.1, hd.2.2.2.2.2.2.2⟩).setCell ⟨gb, g * 17 + 1 + i * 2 + 1, none⟩ (.int .i64 v) ⟨hd.2.2.2.2.1, hd.2.2.2.2.2.1, hd.2.2.2.2.2.2.1, hd.2.2.2.2.2.2.2⟩).later ((Below.refl _ _).drew)
        have hT8 := ((hT7.setCell ⟨gb, g * 17 + 1 + i * 2, none⟩ (.inr rfl) (.string key)).setCell ⟨gb, g * 17 + 1 + i * 2 + 1, none⟩ (.inr rfl) (.int .i64 v)).trans (Touch.of_below ((Below.refl _ _).drew))
        clear ht7 hx7 hT7 d1 d2 d3 d4 ck7 cv7 f1 f2
        generalize ((w7.setCell ⟨gb, g * 17 + 1 + i * 2, none⟩ (.string key)).setCell ⟨gb, g * 17 + 1 + i * 2 + 1, none⟩ (.int .i64 v)).drew = w8 at *
        obtain ⟨d1, d2, d3, d4⟩ := hx8.cells
        have cn8 := ht8.cN
        have fn8 := frozen_of_row _ _ 2 _ _ ht8.ht
        go_wp2
        go_ret
        refine .inr ⟨i, hi8, by rw [HZ.out]; exact hq, rfl, ?_, hT8.setCell _ (.inl rfl) _⟩
        rw [HZ.out, if_pos H254.out]
        exact ht8.setN (n + 1)
    · have e254 : (z == 254) = false := by simp [h254]
      have H254 := Lib.hid h254
      clear h254 HM HS
      go_enter Try.func90, Try.ntmps90
      go_wp2_with (first | (go_at_call 91; refine (free_any _ _).mono ?_; rintro e w1 ⟨a, c, rfl, hown, hb1⟩; rw [HL.out] at hown ⊢; obtain ⟨a', c', ha', _, hcells⟩ := Reads.owns hown; obtain ⟨b, off, hab, hcell⟩ := hcells 0 i rfl; rw [Nat.add_zero] at hcell; simp only [Value.slice.injEq] at ha'; obtain ⟨rfl, _, rfl⟩ := ha'; subst hab; have ht1 := ht.below hb1; have hx1 := hbx.later hb1; obtain ⟨d1, d2, d3, d4⟩ := hx1.cells; have cw1 := ht1.cW g hg; have cm1 := ht1.cMarks; have cn1 := ht1.cN; have ft := frozen_of_row _ _ 3 _ _ ht1.ht; have hT := Touch.of_below (tb := tb) (gb := gb) hb1; clear hcells hown) | (go_at_call 92; refine (at_any _ _ _).mono ?_; rintro e w' ⟨rfl, rfl⟩; rw [hat.out]))
      have ht6 := ht1
      have hx6 := hx1
      have hT6 := hT
      clear hcell d1 d2 d3 d4 cw1 cm1 cn1 ft hT ht1 hx1 hb1 cw c1 c2 c3 c4 hbx ht
      generalize w1 = w6 at *
      obtain ⟨d1, d2, d3, d4⟩ := hx6.cells
      have cw6 := ht6.cW g hg
      have fg6 := frozen_of_row _ _ (g * 17) _ _ ht6.hg
      have H7 : Hid (∀ m, TabAt ((w6.drewN m).setCell ⟨gb, g * 17, none⟩ (.int .u64 (putI (S.w g) i (sevenI h)))) tb gb seed (setWG S g (putI (S.w g) i (sevenI h))) n mk ∧ IBox ((w6.drewN m).setCell ⟨gb, g * 17, none⟩ (.int .u64 (putI (S.w g) i (sevenI h)))) tb xb hb kb vb h key v ∧
          Touch w ((w6.drewN m).setCell ⟨gb, g * 17, none⟩ (.int .u64 (putI (S.w g) i (sevenI h)))) tb gb) := fun m =>
        ⟨(ht6.below ((IsDrew.one w6 m).below _)).setW g hg _, (hx6.later ((IsDrew.one w6 m).below _)).setCell _ _ ⟨hd.2.2.2.2.1, hd.2.2.2.2.2.1, hd.2.2.2.2.2.2.1, hd.2.2.2.2.2.2.2⟩, (hT6.drewN m).setCell _ (.inr rfl) _⟩
      clear ht6 hx6 hT6
      go_region_law ((first | (go_simp; go_at_call 89; refine (seven_any _ _).mono ?_; rintro e w' ⟨rfl, rfl⟩) | (go_simp; go_at_call 58; refine (set_any _ _ _ _ x0 x1 s0 s1).mono ?_; rintro e w' ⟨rfl, m2, rfl⟩)))
      all_goals
        obtain ⟨ht7, hx7, hT7⟩ := H7.out (1 + m2)
        clear H7 d1 d2 d3 d4 cw6 fg6
        generalize (w6.drewN (1 + m2)).setCell ⟨gb, g * 17, none⟩ (.int .u64 (putI (S.w g) i (sevenI h))) = w7 at *
        obtain ⟨d1, d2, d3, d4⟩ := hx7.cells
        have ck7 := ht7.cK g i hg hi8
        have cv7 := ht7.cV g i hg hi8
        have f1 := frozen_of_row _ _ (g * 17 + 1 + i * 2) _ _ ht7.hg
        have f2 := frozen_of_row _ _ (g * 17 + 1 + i * 2 + 1) _ _ ht7.hg
        go_wp2
        go_region
      all_goals
        have ht8 : TabAt ((w7.setCell ⟨gb, g * 17 + 1 + i * 2, none⟩ (.string key)).setCell ⟨gb, g * 17 + 1 + i * 2 + 1, none⟩ (.int .i64 v)).drew tb gb seed (putG S g i (sevenI h) key v) n mk := ((ht7.setK g i hg hi8 key).setV g i hg hi8 v).below ((Below.refl _ _).drew)
        have hx8 := ((hx7.setCell ⟨gb, g * 17 + 1 + i * 2, none⟩ (.string key) ⟨hd.2.2.2.2.1, hd.2.2.2.2.2.1, hd.2.2.2.2.2.2.1, hd.2.2.2.2.2.2.2⟩).setCell ⟨gb, g * 17 + 1 + i * 2 + 1, none⟩ (.int .i64 v) ⟨hd.2.2.2.2.1, hd.2.2.2.2.2.1, hd.2.2.2.2.2.2.1, hd.2.2.2.2.2.2.2⟩).later ((Below.refl _ _).drew)
        have hT8 := ((hT7.setCell ⟨gb, g * 17 + 1 + i * 2, none⟩ (.inr rfl) (.string key)).setCell ⟨gb, g * 17 + 1 + i * 2 + 1, none⟩ (.inr rfl) (.int .i64 v)).trans (Touch.of_below ((Below.refl _ _).drew))
        clear ht7 hx7 hT7 d1 d2 d3 d4 ck7 cv7 f1 f2
        generalize ((w7.setCell ⟨gb, g * 17 + 1 + i * 2, none⟩ (.string key)).setCell ⟨gb, g * 17 + 1 + i * 2 + 1, none⟩ (.int .i64 v)).drew = w8 at *
        obtain ⟨d1, d2, d3, d4⟩ := hx8.cells
        have cn8 := ht8.cN
        have fn8 := frozen_of_row _ _ 2 _ _ ht8.ht
        go_wp2
        go_ret
        refine .inr ⟨i, hi8, by rw [HZ.out]; exact hq, rfl, ?_, hT8.setCell _ (.inl rfl) _⟩
        rw [HZ.out, if_neg H254.out]
        exact ht8.setN (n + 1)
end Go.Proofs.Ytkkijcnipjojoaa
