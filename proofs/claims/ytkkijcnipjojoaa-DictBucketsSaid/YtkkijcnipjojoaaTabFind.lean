/- Contracts of package table: how a key is found. -/
import Derived.Test.YtkkijcnipjojoaaTabNew
import Derived.Deep.RegionHeld3
namespace Go.Proofs.Ytkkijcnipjojoaa
open Go.RowKit

theorem owns_setCell {w : World} {B : Nat} {e : TypeId} {s : Nat} {v : Value} {n : Nat} {xs : List Value} (h : w.ownsRow B e s v n xs) (a : Addr) (ha : a.block < B) (x : Value) : (w.setCell a x).ownsRow B e s v n xs := by
  have hg : w.grownBy (w.setCell a x) (some a.block) := ⟨rfl, rfl, rfl, by simp [World.setCell], fun k _ hk => heap_setCell_other w a k x (fun e => hk (by rw [e]))⟩
  refine h.kept hg ?_
  cases hv : v.ownBlock with
  | none => exact .inl rfl
  | some q => exact .inr (fun e2 => by have := h.lt q hv; simp at e2; omega)

theorem heap_lt' {w : World} {g : Nat} {o : Obj} (h : w.heap[g]? = some o) : g < w.heap.size := (Array.getElem?_eq_some_iff.1 h).1

theorem bytes_ne {a b : ByteArray} (h : a ≠ b) : (a.toList == b.toList) = false := by
  rw [ByteArray.toList_eq, ByteArray.toList_eq]
  simp only [beq_eq_false_iff_ne]
  intro e
  exact h (ByteArray.ext (Array.toList_inj.1 e))
theorem bytes_eq {a b : ByteArray} (h : a = b) : (a.toList == b.toList) = true := by subst h; simp

/-- What a walk through some slots of a group has found. -/
def lookL (S : Grps) (g : Nat) (key : ByteArray) (l : List Int) : Option Int := l.foldl (fun o q => if S.k g q.toNat = key then some q else o) none
theorem look_snoc (S : Grps) (g : Nat) (key : ByteArray) (l : List Int) (q : Int) : lookL S g key (l ++ [q]) = if S.k g q.toNat = key then some q else lookL S g key l := by
  simp [lookL]
theorem look_gen (S : Grps) (g : Nat) (key : ByteArray) (l : List Int) : ∀ o, (∃ q, q ∈ l ∧ l.foldl (fun o q => if S.k g q.toNat = key then some q else o) o = some q ∧ S.k g q.toNat = key) ∨
    (l.foldl (fun o q => if S.k g q.toNat = key then some q else o) o = o ∧ ∀ q ∈ l, S.k g q.toNat ≠ key) := by
  induction l with
  | nil => intro o; right; simp
  | cons a l ih =>
    intro o
    rw [List.foldl_cons]
    rcases ih (if S.k g a.toNat = key then some a else o) with ⟨q, h1, h2, h3⟩ | ⟨h1, h2⟩
    · exact .inl ⟨q, List.mem_cons_of_mem _ h1, h2, h3⟩
    · by_cases c : S.k g a.toNat = key
      · left; rw [h1, if_pos c]; exact ⟨a, List.mem_cons_self, rfl, c⟩
      · right; rw [h1, if_neg c]; refine ⟨rfl, fun q hq => ?_⟩
        rcases List.mem_cons.1 hq with rfl | hq
        · exact c
        · exact h2 q hq
theorem look_some {S : Grps} {g : Nat} {key : ByteArray} {l : List Int} {q : Int} (h : lookL S g key l = some q) : q ∈ l ∧ S.k g q.toNat = key := by
  rcases look_gen S g key l none with ⟨q', h1, h2, h3⟩ | ⟨h1, _⟩
  · unfold lookL at h; rw [h2] at h; cases h; exact ⟨h1, h3⟩
  · unfold lookL at h; rw [h1] at h; cases h
theorem look_none {S : Grps} {g : Nat} {key : ByteArray} {l : List Int} (h : lookL S g key l = none) : ∀ q ∈ l, S.k g q.toNat ≠ key := by
  rcases look_gen S g key l none with ⟨q', h1, h2, h3⟩ | ⟨_, h2⟩
  · unfold lookL at h; rw [h2] at h; cases h
  · exact h2
def ptrOf (gb g : Nat) : Option Int → Value
  | none => .pointer none
  | some _ => .pointer (some ⟨gb, g * 17, none⟩)
def numOf : Option Int → Int
  | none => 0
  | some q => q

/-- The four boxes that find shares with its inner function. -/
structure Boxes (W : World) (hb kb ab sb : Nat) (h : Int) (key : ByteArray) (p : Value) (i : Int) : Prop where
  bh : W.heap[hb]? = some (.cells #[.int .u64 h] 22 (0, 0))
  bk : W.heap[kb]? = some (.cells #[.string key] 9 (0, 0))
  ba : W.heap[ab]? = some (.cells #[p] 76 (0, 0))
  bs : W.heap[sb]? = some (.cells #[.int .i64 i] 3 (0, 0))
theorem Boxes.later {W W' : World} {hb kb ab sb : Nat} {h : Int} {key : ByteArray} {p : Value} {i : Int} (x : Boxes W hb kb ab sb h key p i) (hw : Below W.heap.size W W') : Boxes W' hb kb ab sb h key p i :=
  ⟨(hw.block _ (heap_lt' x.bh)).trans x.bh, (hw.block _ (heap_lt' x.bk)).trans x.bk, (hw.block _ (heap_lt' x.ba)).trans x.ba, (hw.block _ (heap_lt' x.bs)).trans x.bs⟩
theorem Boxes.cells {W : World} {hb kb ab sb : Nat} {h : Int} {key : ByteArray} {p : Value} {i : Int} (x : Boxes W hb kb ab sb h key p i) :
    W.cell? ⟨hb, 0, none⟩ = some (.int .u64 h) ∧ W.cell? ⟨kb, 0, none⟩ = some (.string key) ∧ W.cell? ⟨ab, 0, none⟩ = some p ∧ W.cell? ⟨sb, 0, none⟩ = some (.int .i64 i) :=
  ⟨by rw [cell_of_row _ _ _ _ _ _ x.bh]; rfl, by rw [cell_of_row _ _ _ _ _ _ x.bk]; rfl, by rw [cell_of_row _ _ _ _ _ _ x.ba]; rfl, by rw [cell_of_row _ _ _ _ _ _ x.bs]; rfl⟩

/-- What stands through find's inner function. -/
structure FK (w : World) (tb gb : Nat) (seed : Int) (S : Grps) (n mk : Int) (B hb kb ab sb : Nat) (h : Int) (key : ByteArray) (p : Value) (i : Int) (W : World) : Prop where
  tab : TabAt W tb gb seed S n mk
  box : Boxes W hb kb ab sb h key p i
  bel : Below B w W
  lo : B ≤ W.heap.size
section
variable {w : World} {tb gb : Nat} {seed : Int} {S : Grps} {n mk : Int} {B hb kb ab sb : Nat} {h : Int} {key : ByteArray} {p : Value} {i : Int} {W W' : World}
theorem FK.step (x : FK w tb gb seed S n mk B hb kb ab sb h key p i W) (hw : Below W.heap.size W W') : FK w tb gb seed S n mk B hb kb ab sb h key p i W' :=
  ⟨x.tab.below hw, x.box.later hw, x.bel.trans (hw.mono x.lo), by have := hw.size; have := x.lo; omega⟩
theorem FK.drewN (x : FK w tb gb seed S n mk B hb kb ab sb h key p i W) (m : Nat) : FK w tb gb seed S n mk B hb kb ab sb h key p i (W.drewN m) := x.step ((IsDrew.one W m).below _)
theorem FK.drew (x : FK w tb gb seed S n mk B hb kb ab sb h key p i W) : FK w tb gb seed S n mk B hb kb ab sb h key p i W.drew := x.step ((Below.refl _ _).drew)
theorem FK.store (x : FK w tb gb seed S n mk B hb kb ab sb h key p i W) (hB : gb < B ∧ tb < B ∧ B ≤ ab ∧ B ≤ sb ∧ B ≤ hb ∧ B ≤ kb ∧ ab ≠ sb ∧ ab ≠ hb ∧ ab ≠ kb ∧ sb ≠ hb ∧ sb ≠ kb) (p' : Value) (i' : Int) :
    FK w tb gb seed S n mk B hb kb ab sb h key p' i' ((W.setCell ⟨ab, 0, none⟩ p').setCell ⟨sb, 0, none⟩ (.int .i64 i')) := by
  obtain ⟨b1, b2, b3, b4, b5, b6, b7, b8, b9, b10, b11⟩ := hB
  have E : ∀ k, k ≠ ab → k ≠ sb → ((W.setCell ⟨ab, 0, none⟩ p').setCell ⟨sb, 0, none⟩ (.int .i64 i')).heap[k]? = W.heap[k]? := fun k h1 h2 => by
    rw [heap_setCell_other _ _ _ _ h2, heap_setCell_other _ _ _ _ h1]
  refine ⟨x.tab.later (E _ (by omega) (by omega)) (E _ (by omega) (by omega)), ⟨(E _ (by omega) (by omega)).trans x.box.bh, (E _ (by omega) (by omega)).trans x.box.bk, ?_, ?_⟩, (x.bel.setCell b3 _).setCell b4 _, ?_⟩
  · rw [heap_setCell_other _ _ _ _ (by exact b7), heap_setCell_same _ _ _ _ _ _ x.box.ba]; rfl
  · have : (W.setCell ⟨ab, 0, none⟩ p').heap[sb]? = some (.cells #[.int .i64 i] 3 (0, 0)) := by rw [heap_setCell_other _ _ _ _ (by exact fun e => b7 e.symm)]; exact x.box.bs
    rw [heap_setCell_same _ _ _ _ _ _ this]; rfl
  · have := x.lo; simpa [World.setCell] using this
/-- With its cells. -/
abbrev FS (w : World) (tb gb : Nat) (seed : Int) (S : Grps) (n mk : Int) (B hb kb ab sb : Nat) (h : Int) (key : ByteArray) (p : Value) (i : Int) (g : Nat) (W : World) : Prop :=
  W.cell? ⟨gb, g * 17, none⟩ = some (.int .u64 (S.w g)) ∧ W.cell? ⟨hb, 0, none⟩ = some (.int .u64 h) ∧ W.cell? ⟨kb, 0, none⟩ = some (.string key) ∧ FK w tb gb seed S n mk B hb kb ab sb h key p i W
theorem FK.all (x : FK w tb gb seed S n mk B hb kb ab sb h key p i W) {g : Nat} (hg : g < S.G) : FS w tb gb seed S n mk B hb kb ab sb h key p i g W :=
  ⟨x.tab.cW g hg, x.box.cells.1, x.box.cells.2.1, x⟩
end

set_option maxRecDepth 100000 in
set_option maxHeartbeats 4000000 in
theorem find1_any {tb gb : Nat} {seed : Int} {S : Grps} {n mk : Int} (w : World) (ht : TabAt w tb gb seed S n mk) (g : Nat) (hg : g < S.G) (hb kb ab sb B : Nat) (h : Int) (key : ByteArray)
    (hbx : Boxes w hb kb ab sb h key (.pointer none) 0) (hB : gb < B ∧ tb < B ∧ B ≤ ab ∧ B ≤ sb ∧ B ≤ hb ∧ B ≤ kb ∧ ab ≠ sb ∧ ab ≠ hb ∧ ab ≠ kb ∧ sb ≠ hb ∧ sb ≠ kb) :
    Calls Try.prog 87 #[.pointer (some ⟨gb, g * 17, none⟩), .pointer (some ⟨hb, 0, none⟩), .pointer (some ⟨kb, 0, none⟩), .pointer (some ⟨ab, 0, none⟩), .pointer (some ⟨sb, 0, none⟩)] w fun e w' =>
      ∃ o, o = lookL S g key (slotsI (isByte (sevenI h)) (S.w g) 8) ∧ e = .returned (.bool (o.isSome || decide (0 < (slotsI (isByte 128) (S.w g) 8).length))) ∧ Boxes w' hb kb ab sb h key (ptrOf gb g o) (numOf o) ∧ Below B w w' := by
  obtain ⟨l1, l2⟩ := ht.lt
  have hk0 : FK w tb gb seed S n mk B hb kb ab sb h key (.pointer none) 0 w := ⟨ht, hbx, Below.refl _ _, by have := heap_lt' hbx.bh; have := hB.2.2.2.2.1; omega⟩
  go_enter Try.func87, Try.ntmps87
  go_wp2
  go_region_held3 (fun W => W.cell? ⟨gb, g * 17, none⟩ = some (.int .u64 (S.w g)) ∧ W.cell? ⟨hb, 0, none⟩ = some (.int .u64 h) ∧ W.cell? ⟨kb, 0, none⟩ = some (.string key) ∧ FK w tb gb seed S n mk B hb kb ab sb h key (.pointer none) 0 W)
    ((first | with_reducible exact hk0.drew.all hg | with_reducible exact (hk0.drewN _).all hg | with_reducible exact hk1.all hg))
    (first | (go_at_call 89; refine (seven_any _ _).mono ?_; rintro e w' ⟨rfl, rfl⟩) | (go_at_call 88; refine (match_any _ _ _).mono ?_; rintro e w1 ⟨a, c, rfl, hown, hbl⟩; have hk1 := hk0.drew.step hbl))
  have hl := slots_len (isByte (sevenI h)) (S.w g) 8
  have HM := Lib.hid (slots_mem (isByte (sevenI h)) (S.w g) 8)
  have hsz : w.drew.heap.size ≤ w1.heap.size := hbl.size
  have hsb : ab < w.drew.heap.size ∧ sb < w.drew.heap.size := ⟨heap_lt' hbx.ba, heap_lt' hbx.bs⟩
  generalize w.drew.heap.size = D at *
  generalize hL : slotsI (isByte (sevenI h)) (S.w g) 8 = l at *
  have HL := Lib.hid hL
  clear hL hbl ht hk0 hbx
  go_wp2
  go_loopw [17] (fun i wr => ∃ (k : Nat) (o : Option Int), k ≤ l.length ∧ i = .int .i64 k ∧ Hid (o = lookL S g key (l.take k)) ∧ FK w tb gb seed S n mk B hb kb ab sb h key (ptrOf gb g o) (numOf o) wr ∧ wr.ownsRow D 3 1 (.slice a l.length c) l.length (l.map (Value.int .i64))) (fun i _ => l.length - (intOf i).toNat)
  case atStart => exact ⟨0, none, by omega, rfl, rfl, hk1, hown⟩
  case round =>
    clear hk1 hown
    obtain ⟨k, o, hk, rfl, ho, hkk, hown⟩ := hrel
    by_cases hlt : k < l.length
    · obtain ⟨q, hq⟩ : ∃ q, l[k]? = some q := ⟨l[k], List.getElem?_eq_getElem hlt⟩
      have hqm : q ∈ l := List.mem_of_getElem? hq
      obtain ⟨q0, q1, _⟩ := (HM.out q).1 hqm
      obtain ⟨qn, rfl⟩ := Int.eq_ofNat_of_zero_le q0
      obtain ⟨a', c', ha', _, hcells⟩ := Reads.owns hown
      obtain ⟨b, off, hab, hcell⟩ := hcells k qn hq
      simp only [Value.slice.injEq] at ha'
      obtain ⟨rfl, _, rfl⟩ := ha'
      subst hab
      have ck := hkk.tab.cK g qn hg (by omega)
      obtain ⟨d1, d2, d3, d4⟩ := hkk.box.cells
      have fa := frozen_of_row _ _ 0 _ _ hkk.box.ba
      have fs := frozen_of_row _ _ 0 _ _ hkk.box.bs
      have HN : Hid (lookL S g key (l.take (k + 1)) = if S.k g qn = key then some (qn : Int) else o) := by
        unfold Hid; rw [List.take_add_one, hq, ho.out]; exact look_snoc _ _ _ _ _
      by_cases ce : S.k g qn = key
      · clear hcells hq
        go_wp2
        go_quiet (fail)
        have hk2 := (hkk.drewN nq).store hB (.pointer (some ⟨gb, g * 17, none⟩)) qn
        have ho2 := owns_setCell (owns_setCell (hown : (wr.drewN nq).ownsRow _ _ _ _ _ _) ⟨ab, 0, none⟩ hsb.1 (.pointer (some ⟨gb, g * 17, none⟩))) ⟨sb, 0, none⟩ hsb.2 (.int .i64 qn)
        go_wp2
        go_roundw
        case rel => exact ⟨k + 1, some qn, by omega, by go_num, by unfold Hid; rw [HN.out, if_pos ce], hk2, ho2⟩
        case measure => simp [intOf]; omega
      · have HE := bytes_ne ce
        clear hcells hq
        go_wp2
        go_quiet (fail)
        go_wp2
        go_roundw
        case rel => exact ⟨k + 1, o, by omega, by go_num, by unfold Hid; rw [HN.out, if_neg ce], hkk.drewN _, hown⟩
        case measure => simp [intOf]; omega
    · obtain rfl : k = l.length := by omega
      have HO : Hid (o = lookL S g key l) := by
        have := ho.out; rwa [List.take_length] at this
      obtain ⟨d1, d2, d3, d4⟩ := hkk.box.cells
      cases o with
      | none =>
        have cw := hkk.tab.cW g hg
        simp only [ptrOf] at d3
        go_wp2_with (go_at_call 57; refine (hasEmpty_any _ _).mono ?_; rintro e w2 ⟨rfl, hb2⟩)
        have hk3 := hkk.step hb2
        go_ret
        exact ⟨none, by rw [HO.out, HL.out], by simp, hk3.box, hk3.bel⟩
      | some q =>
        simp only [ptrOf] at d3
        go_wp2
        go_ret
        exact ⟨some q, by rw [HO.out, HL.out], by simp, hkk.box, hkk.bel⟩
end Go.Proofs.Ytkkijcnipjojoaa
