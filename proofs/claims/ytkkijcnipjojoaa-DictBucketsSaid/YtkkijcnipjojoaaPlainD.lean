/- Tables under a directory, in plain lists: no program in sight. -/
import Derived.Test.YtkkijcnipjojoaaPlainK
namespace Go.Proofs.Ytkkijcnipjojoaa
open Go.RowKit

/-- Two different places of a list stand in a relation. -/
def Apart {α : Type} (R : α → α → Prop) (l : List α) : Prop := ∀ (i j : Nat) (x y : α), l[i]? = some x → l[j]? = some y → i ≠ j → R x y
theorem set_get {α : Type} {l : List α} {i j : Nat} {a q : α} (h : (l.set i a)[j]? = some q) : (j = i ∧ q = a ∧ i < l.length) ∨ (j ≠ i ∧ l[j]? = some q) := by
  rw [List.getElem?_set] at h
  by_cases c : i = j
  · rw [if_pos c] at h
    by_cases d : i < l.length
    · rw [if_pos d] at h; simp only [Option.some.injEq] at h; exact .inl ⟨c.symm, h.symm, d⟩
    · rw [if_neg d] at h; simp at h
  · rw [if_neg c] at h; exact .inr ⟨fun e => c e.symm, h⟩
theorem set_here {α : Type} {l : List α} {i : Nat} {a : α} (h : i < l.length) : (l.set i a)[i]? = some a := by rw [List.getElem?_set, if_pos rfl, if_pos h]
theorem set_else {α : Type} {l : List α} {i j : Nat} {a : α} (h : j ≠ i) : (l.set i a)[j]? = l[j]? := by rw [List.getElem?_set, if_neg (fun e => h e.symm)]
section
variable {α : Type} {R : α → α → Prop} {l : List α}
theorem Apart.one (R : α → α → Prop) (x : α) : Apart R [x] := by
  intro i j a b hi hj hne
  have h1 := (List.getElem?_eq_some_iff.1 hi).1
  have h2 := (List.getElem?_eq_some_iff.1 hj).1
  simp only [List.length_singleton] at h1 h2
  omega
theorem Apart.set (h : Apart R l) (n : Nat) (x' : α) (hx : ∀ j y, l[j]? = some y → j ≠ n → R x' y ∧ R y x') : Apart R (l.set n x') := by
  intro i j a b hi hj hne
  rw [List.getElem?_set] at hi hj
  by_cases c : n = i
  · subst c
    rw [if_neg hne] at hj
    rw [if_pos rfl] at hi
    split at hi
    · simp only [Option.some.injEq] at hi; subst hi; exact (hx j b hj (fun e => hne e.symm)).1
    · simp at hi
  · rw [if_neg c] at hi
    by_cases d : n = j
    · subst d
      rw [if_pos rfl] at hj
      split at hj
      · simp only [Option.some.injEq] at hj; subst hj; exact (hx i a hi hne).2
      · simp at hj
    · rw [if_neg d] at hj
      exact h i j a b hi hj hne
theorem Apart.snoc (h : Apart R l) (x' : α) (hx : ∀ y, y ∈ l → R x' y ∧ R y x') : Apart R (l ++ [x']) := by
  have sn : ∀ (i : Nat) (a : α), (l ++ [x'])[i]? = some a → (i < l.length ∧ l[i]? = some a) ∨ (i = l.length ∧ a = x') := by
    intro i a hi
    by_cases c : i < l.length
    · rw [List.getElem?_append_left c] at hi; exact .inl ⟨c, hi⟩
    · rw [List.getElem?_append_right (by omega)] at hi
      have h1 := (List.getElem?_eq_some_iff.1 hi).1
      simp only [List.length_singleton] at h1
      have : i - l.length = 0 := by omega
      rw [this] at hi
      simp only [List.getElem?_cons_zero, Option.some.injEq] at hi
      exact .inr ⟨by omega, hi.symm⟩
  intro i j a b hi hj hne
  rcases sn i a hi with ⟨c, hi'⟩ | ⟨c, rfl⟩
  · rcases sn j b hj with ⟨d, hj'⟩ | ⟨d, rfl⟩
    · exact h i j a b hi' hj' hne
    · exact (hx a (List.mem_of_getElem? hi')).2
  · rcases sn j b hj with ⟨d, hj'⟩ | ⟨d, rfl⟩
    · exact (hx b (List.mem_of_getElem? hj')).1
    · omega
theorem Apart.imp {S : α → α → Prop} (h : Apart R l) (hs : ∀ x y, R x y → S x y) : Apart S l := fun i j x y hi hj hne => hs x y (h i j x y hi hj hne)
theorem Apart.pairwise (h : Apart R l) : l.Pairwise R := by
  rw [List.pairwise_iff_getElem]
  intro i j hi hj hij
  exact h i j _ _ (List.getElem?_eq_getElem hi) (List.getElem?_eq_getElem hj) (by omega)
end

/-- A part: its depth, its bits, its keys. -/
structure PartR where
  dep : Nat
  bits : Nat
  keys : List ByteArray
def hN (seed : Int) (k : ByteArray) : Nat := (hk seed k).toNat
theorem hN_int (seed : Int) (k : ByteArray) : hk seed k = (hN seed k : Int) := by
  have := (hk_bd seed k).1
  unfold hN; omega
theorem hN_lt (seed : Int) (k : ByteArray) : hN seed k < 18446744073709551616 := by
  have := hk_bd seed k
  unfold hN; omega
def fitsB (h : Nat) (p : PartR) : Bool := decide (h % 2 ^ p.dep = p.bits)
theorem fitsB_iff {h : Nat} {p : PartR} : fitsB h p = true ↔ h % 2 ^ p.dep = p.bits := by unfold fitsB; simp
def allK (ps : List PartR) : List ByteArray := ps.flatMap (·.keys)

/-- What holds of a dict's parts. -/
structure SOk (seed : Int) (D : Nat) (ps : List PartR) : Prop where
  dmax : D ≤ 16
  dep : ∀ p ∈ ps, p.dep ≤ D
  deep : ∃ p ∈ ps, p.dep = D
  bits : ∀ p ∈ ps, p.bits < 2 ^ p.dep
  cover : ∀ h : Nat, ∃ p ∈ ps, h % 2 ^ p.dep = p.bits
  uniq : Apart (fun p q => ∀ h : Nat, h % 2 ^ p.dep = p.bits → h % 2 ^ q.dep ≠ q.bits) ps
  keys : ∀ p ∈ ps, ∀ k ∈ p.keys, hN seed k % 2 ^ p.dep = p.bits
  nodup : ∀ p ∈ ps, p.keys.Nodup
  few : ∀ p ∈ ps, p.dep < 16 → p.keys.length ≤ 112
  size : ∀ p ∈ ps, ∀ k ∈ p.keys, k.size ≤ 20

theorem SOk.start (seed : Int) : SOk seed 0 [⟨0, 0, []⟩] where
  dmax := by omega
  dep := by simp
  deep := ⟨⟨0, 0, []⟩, by simp, rfl⟩
  bits := by simp
  cover := fun h => ⟨⟨0, 0, []⟩, by simp, by simp; omega⟩
  uniq := Apart.one _ _
  keys := by simp
  nodup := by simp
  few := by simp
  size := by simp

/-- The place of a hash's part. -/
def pix (ps : List PartR) (h : Nat) : Nat := ps.findIdx (fitsB h)
section
variable {seed : Int} {D : Nat} {ps : List PartR}
theorem SOk.pix_at (h : SOk seed D ps) (x : Nat) : ∃ p, ps[pix ps x]? = some p ∧ x % 2 ^ p.dep = p.bits ∧ p ∈ ps := by
  obtain ⟨p, hp, hx⟩ := h.cover x
  have hl : ps.findIdx (fitsB x) < ps.length := List.findIdx_lt_length_of_exists ⟨p, hp, fitsB_iff.2 hx⟩
  refine ⟨ps[ps.findIdx (fitsB x)], List.getElem?_eq_getElem hl, fitsB_iff.1 ?_, List.getElem_mem hl⟩
  exact List.findIdx_getElem (w := hl)
theorem SOk.pix_eq (h : SOk seed D ps) {x j : Nat} {q : PartR} (hj : ps[j]? = some q) (hq : x % 2 ^ q.dep = q.bits) : j = pix ps x := by
  obtain ⟨p, hp, hx, _⟩ := h.pix_at x
  by_cases c : j = pix ps x
  · exact c
  · exact absurd hx (h.uniq j _ q p hj hp c x hq)
theorem SOk.pix_same (h : SOk seed D ps) {x y : Nat} {q : PartR} (hj : ps[pix ps y]? = some q) (hx : x % 2 ^ q.dep = y % 2 ^ q.dep) : pix ps x = pix ps y := by
  obtain ⟨p, hp, hy, _⟩ := h.pix_at y
  rw [hj] at hp
  simp only [Option.some.injEq] at hp
  subst hp
  exact (h.pix_eq hj (hx.trans hy)).symm
/-- A key that some part has lies in its hash's part. -/
theorem SOk.key_at (h : SOk seed D ps) {k : ByteArray} {p : PartR} (hp : ps[pix ps (hN seed k)]? = some p) : k ∈ allK ps ↔ k ∈ p.keys := by
  unfold allK
  rw [List.mem_flatMap]
  constructor
  · rintro ⟨q, hq, hk⟩
    obtain ⟨j, hj⟩ := List.mem_iff_getElem?.1 hq
    have := h.pix_eq hj (h.keys q hq k hk)
    subst this
    rw [hj] at hp
    simp only [Option.some.injEq] at hp
    subst hp
    exact hk
  · intro hk
    exact ⟨p, List.mem_of_getElem? hp, hk⟩
theorem SOk.allK_nodup (h : SOk seed D ps) : (allK ps).Nodup := by
  unfold allK
  rw [List.Nodup, List.pairwise_flatMap]
  refine ⟨fun p hp => h.nodup p hp, ?_⟩
  have hu := h.uniq
  have h2 : Apart (fun p q => ∀ x ∈ p.keys, ∀ y ∈ q.keys, x ≠ y) ps := by
    intro i j p q hi hj hne x hx y hy e
    subst e
    exact hu i j p q hi hj hne _ (h.keys p (List.mem_of_getElem? hi) x hx) (h.keys q (List.mem_of_getElem? hj) x hy)
  exact h2.pairwise
theorem SOk.all_size (h : SOk seed D ps) {k : ByteArray} (hk : k ∈ allK ps) : k.size ≤ 20 := by
  unfold allK at hk
  obtain ⟨p, hp, hk⟩ := List.mem_flatMap.1 hk
  exact h.size p hp k hk
theorem mod_le_pow {a d e : Nat} (h : d ≤ e) : a % 2 ^ e % 2 ^ d = a % 2 ^ d := Nat.mod_mod_of_dvd a (Nat.pow_dvd_pow 2 h)
theorem SOk.bits_ne (h : SOk seed D ps) : Apart (fun p q => p.bits ≠ q.bits) ps := by
  intro i j p q hi hj hne e
  have hp := h.bits p (List.mem_of_getElem? hi)
  have hq := h.bits q (List.mem_of_getElem? hj)
  exact h.uniq i j p q hi hj hne p.bits (Nat.mod_eq_of_lt hp) (by rw [e]; exact Nat.mod_eq_of_lt hq)
theorem SOk.len_le (h : SOk seed D ps) : ps.length ≤ 2 ^ D := by
  have h1 : (ps.map (·.bits)).Nodup := by
    rw [List.Nodup, List.pairwise_map]
    exact h.bits_ne.pairwise
  have h2 : ps.map (·.bits) ⊆ List.range (2 ^ D) := by
    intro b hb
    obtain ⟨p, hp, rfl⟩ := List.mem_map.1 hb
    have e1 := h.bits p hp
    have e2 := Nat.pow_le_pow_right (show 0 < 2 by omega) (h.dep p hp)
    exact List.mem_range.2 (by omega)
  have := h1.length_le_of_subset h2
  simpa using this
theorem pow16 {D : Nat} (h : D ≤ 16) : 2 ^ D ≤ 65536 := Nat.pow_le_pow_right (by omega) h
theorem SOk.pos (h : SOk seed D ps) : 0 < ps.length := by
  obtain ⟨p, hp, _⟩ := h.deep
  exact List.length_pos_of_mem hp
end

/-- The keys of a part whose next bit is s. -/
def halfK (seed : Int) (d s : Nat) (ks : List ByteArray) : List ByteArray := ks.filter fun k => decide (hN seed k / 2 ^ d % 2 = s)
def spA (seed : Int) (p : PartR) : PartR := ⟨p.dep + 1, p.bits, halfK seed p.dep 0 p.keys⟩
def spB (seed : Int) (p : PartR) : PartR := ⟨p.dep + 1, p.bits + 2 ^ p.dep, halfK seed p.dep 1 p.keys⟩
def spS (seed : Int) (ps : List PartR) (i : Nat) (p : PartR) : List PartR := ps.set i (spA seed p) ++ [spB seed p]

theorem mod_bit (h d : Nat) : h % 2 ^ (d + 1) = h % 2 ^ d + 2 ^ d * (h / 2 ^ d % 2) := by
  rw [Nat.pow_succ, Nat.mod_mul]
theorem fit_num {r m s b : Nat} (hr : r < m) (hb : b < m) (hs : s = 0 ∨ s = 1) : (r + m * s = b ↔ r = b ∧ s = 0) ∧ (r + m * s = b + m ↔ r = b ∧ s = 1) := by
  rcases hs with rfl | rfl
  · rw [Nat.mul_zero]
    exact ⟨⟨fun e => ⟨by omega, rfl⟩, fun e => by omega⟩, ⟨fun e => by omega, fun e => by omega⟩⟩
  · rw [Nat.mul_one]
    exact ⟨⟨fun e => by omega, fun e => by omega⟩, ⟨fun e => ⟨by omega, rfl⟩, fun e => by omega⟩⟩
theorem fit_split {h d b : Nat} (hb : b < 2 ^ d) : (h % 2 ^ (d + 1) = b ↔ h % 2 ^ d = b ∧ h / 2 ^ d % 2 = 0) ∧ (h % 2 ^ (d + 1) = b + 2 ^ d ↔ h % 2 ^ d = b ∧ h / 2 ^ d % 2 = 1) := by
  rw [mod_bit]
  exact fit_num (Nat.mod_lt _ (Nat.two_pow_pos d)) hb (by omega)
theorem spS_mem {seed : Int} {ps : List PartR} {i : Nat} {p q : PartR} (h : q ∈ spS seed ps i p) : (∃ j, ps[j]? = some q ∧ j ≠ i) ∨ q = spA seed p ∨ q = spB seed p := by
  unfold spS at h
  rw [List.mem_append, List.mem_singleton] at h
  rcases h with h | h
  · obtain ⟨j, hj⟩ := List.mem_iff_getElem?.1 h
    rcases set_get hj with ⟨_, e, _⟩ | ⟨c, hj⟩
    · exact .inr (.inl e)
    · exact .inl ⟨j, hj, c⟩
  · exact .inr (.inr h)
theorem spS_old {seed : Int} {ps : List PartR} {i j : Nat} {p q : PartR} (h : ps[j]? = some q) (hne : j ≠ i) : q ∈ spS seed ps i p := by
  unfold spS
  refine List.mem_append.2 (.inl (List.mem_iff_getElem?.2 ⟨j, ?_⟩))
  rw [List.getElem?_set, if_neg (fun e => hne e.symm)]
  exact h
theorem spS_a {seed : Int} {ps : List PartR} {i : Nat} {p : PartR} (h : i < ps.length) : spA seed p ∈ spS seed ps i p := by
  unfold spS
  refine List.mem_append.2 (.inl (List.mem_iff_getElem?.2 ⟨i, ?_⟩))
  rw [List.getElem?_set, if_pos rfl, if_pos h]
theorem spS_b {seed : Int} {ps : List PartR} {i : Nat} {p : PartR} : spB seed p ∈ spS seed ps i p := by
  unfold spS
  exact List.mem_append.2 (.inr (List.mem_singleton.2 rfl))

theorem halfK_mem {seed : Int} {d s : Nat} {ks : List ByteArray} {k : ByteArray} : k ∈ halfK seed d s ks ↔ k ∈ ks ∧ hN seed k / 2 ^ d % 2 = s := by
  unfold halfK; rw [List.mem_filter]; simp

section
variable {seed : Int} {D : Nat} {ps : List PartR}
theorem SOk.split (h : SOk seed D ps) {i : Nat} {p : PartR} (hi : ps[i]? = some p) (hd : p.dep < 16) : SOk seed (max D (p.dep + 1)) (spS seed ps i p) := by
  have hl := (List.getElem?_eq_some_iff.1 hi).1
  have hp := List.mem_of_getElem? hi
  have hpb := h.bits p hp
  have hpd := h.dep p hp
  have fs := fun x => fit_split (h := x) hpb
  refine ⟨by have := h.dmax; omega, ?_, ?_, ?_, ?_, ?_, ?_, ?_, ?_, ?_⟩
  · intro q hq
    rcases spS_mem hq with ⟨j, hj, _⟩ | rfl | rfl
    · have := h.dep q (List.mem_of_getElem? hj); omega
    · simp only [spA]; omega
    · simp only [spB]; omega
  · by_cases c : D ≤ p.dep + 1
    · exact ⟨_, spS_a hl, by simp only [spA]; omega⟩
    · obtain ⟨q, hq, hqd⟩ := h.deep
      obtain ⟨j, hj⟩ := List.mem_iff_getElem?.1 hq
      have hne : j ≠ i := by
        rintro rfl
        rw [hi] at hj
        simp only [Option.some.injEq] at hj
        subst hj
        omega
      exact ⟨q, spS_old hj hne, by omega⟩
  · intro q hq
    rcases spS_mem hq with ⟨j, hj, _⟩ | rfl | rfl
    · exact h.bits q (List.mem_of_getElem? hj)
    · simp only [spA, Nat.pow_succ]; omega
    · simp only [spB, Nat.pow_succ]; omega
  · intro x
    obtain ⟨q, hq, hx⟩ := h.cover x
    obtain ⟨j, hj⟩ := List.mem_iff_getElem?.1 hq
    by_cases c : j = i
    · subst c
      rw [hi] at hj
      simp only [Option.some.injEq] at hj
      subst hj
      by_cases b : x / 2 ^ p.dep % 2 = 0
      · exact ⟨_, spS_a hl, (fs x).1.2 ⟨hx, b⟩⟩
      · exact ⟨_, spS_b, (fs x).2.2 ⟨hx, by omega⟩⟩
    · exact ⟨q, spS_old hj c, hx⟩
  · have hA : ∀ (j : Nat) (q : PartR), ps[j]? = some q → j ≠ i → ∀ x, x % 2 ^ p.dep = p.bits → x % 2 ^ q.dep ≠ q.bits := fun j q hj hne => h.uniq i j p q hi hj (fun e => hne e.symm)
    have h1 : Apart (fun p q => ∀ h : Nat, h % 2 ^ p.dep = p.bits → h % 2 ^ q.dep ≠ q.bits) (ps.set i (spA seed p)) := by
      refine h.uniq.set i _ fun j q hj hne => ⟨fun x hx => ?_, fun x hx hx' => ?_⟩
      · exact hA j q hj hne x ((fs x).1.1 hx).1
      · exact hA j q hj hne x ((fs x).1.1 hx').1 hx
    refine h1.snoc _ fun q hq => ?_
    obtain ⟨j, hj⟩ := List.mem_iff_getElem?.1 hq
    rcases set_get hj with ⟨_, rfl, _⟩ | ⟨c, hj⟩
    · refine ⟨fun x hx hx' => ?_, fun x hx hx' => ?_⟩
      · have e1 := ((fs x).2.1 hx).2; have e2 := ((fs x).1.1 hx').2; omega
      · have e1 := ((fs x).2.1 hx').2; have e2 := ((fs x).1.1 hx).2; omega
    · refine ⟨fun x hx => ?_, fun x hx hx' => ?_⟩
      · exact hA j q hj c x ((fs x).2.1 hx).1
      · exact hA j q hj c x ((fs x).2.1 hx').1 hx
  · intro q hq k hk
    rcases spS_mem hq with ⟨j, hj, _⟩ | rfl | rfl
    · exact h.keys q (List.mem_of_getElem? hj) k hk
    · obtain ⟨e1, e2⟩ := halfK_mem.1 hk
      exact (fs _).1.2 ⟨h.keys p hp k e1, e2⟩
    · obtain ⟨e1, e2⟩ := halfK_mem.1 hk
      exact (fs _).2.2 ⟨h.keys p hp k e1, e2⟩
  · intro q hq
    rcases spS_mem hq with ⟨j, hj, _⟩ | rfl | rfl
    · exact h.nodup q (List.mem_of_getElem? hj)
    · exact (h.nodup p hp).filter _
    · exact (h.nodup p hp).filter _
  · intro q hq hqd
    have hf := h.few p hp hd
    rcases spS_mem hq with ⟨j, hj, _⟩ | rfl | rfl
    · exact h.few q (List.mem_of_getElem? hj) hqd
    · exact Nat.le_trans (List.length_filter_le _ _) hf
    · exact Nat.le_trans (List.length_filter_le _ _) hf
  · intro q hq k hk
    rcases spS_mem hq with ⟨j, hj, _⟩ | rfl | rfl
    · exact h.size q (List.mem_of_getElem? hj) k hk
    · exact h.size p hp k (halfK_mem.1 hk).1
    · exact h.size p hp k (halfK_mem.1 hk).1
theorem SOk.split_all (_ : SOk seed D ps) {i : Nat} {p : PartR} (hi : ps[i]? = some p) (k : ByteArray) : k ∈ allK (spS seed ps i p) ↔ k ∈ allK ps := by
  have hl := (List.getElem?_eq_some_iff.1 hi).1
  unfold allK
  rw [List.mem_flatMap, List.mem_flatMap]
  constructor
  · rintro ⟨q, hq, hk⟩
    rcases spS_mem hq with ⟨j, hj, _⟩ | rfl | rfl
    · exact ⟨q, List.mem_of_getElem? hj, hk⟩
    · exact ⟨p, List.mem_of_getElem? hi, (halfK_mem.1 hk).1⟩
    · exact ⟨p, List.mem_of_getElem? hi, (halfK_mem.1 hk).1⟩
  · rintro ⟨q, hq, hk⟩
    obtain ⟨j, hj⟩ := List.mem_iff_getElem?.1 hq
    by_cases c : j = i
    · subst c
      rw [hi] at hj
      simp only [Option.some.injEq] at hj
      subst hj
      by_cases b : hN seed k / 2 ^ p.dep % 2 = 0
      · exact ⟨_, spS_a hl, halfK_mem.2 ⟨hk, b⟩⟩
      · exact ⟨_, spS_b, halfK_mem.2 ⟨hk, by omega⟩⟩
    · exact ⟨q, spS_old hj c, hk⟩

/-- One part's keys are changed. -/
theorem SOk.rekey (h : SOk seed D ps) {i : Nat} {p : PartR} (hi : ps[i]? = some p) (ks : List ByteArray) (hk : ∀ k ∈ ks, hN seed k % 2 ^ p.dep = p.bits) (hn : ks.Nodup) (hf : p.dep < 16 → ks.length ≤ 112)
    (hs : ∀ k ∈ ks, k.size ≤ 20) : SOk seed D (ps.set i ⟨p.dep, p.bits, ks⟩) := by
  have hl := (List.getElem?_eq_some_iff.1 hi).1
  have hp := List.mem_of_getElem? hi
  have mem : ∀ q, q ∈ ps.set i ⟨p.dep, p.bits, ks⟩ → (∃ j, ps[j]? = some q ∧ j ≠ i) ∨ q = ⟨p.dep, p.bits, ks⟩ := by
    intro q hq
    obtain ⟨j, hj⟩ := List.mem_iff_getElem?.1 hq
    rcases set_get hj with ⟨_, e, _⟩ | ⟨c, hj⟩
    · exact .inr e
    · exact .inl ⟨j, hj, c⟩
  have new : (⟨p.dep, p.bits, ks⟩ : PartR) ∈ ps.set i ⟨p.dep, p.bits, ks⟩ := List.mem_iff_getElem?.2 ⟨i, by rw [List.getElem?_set, if_pos rfl, if_pos hl]⟩
  have old : ∀ j q, ps[j]? = some q → j ≠ i → q ∈ ps.set i ⟨p.dep, p.bits, ks⟩ := fun j q hj hne => List.mem_iff_getElem?.2 ⟨j, by rw [List.getElem?_set, if_neg (fun e => hne e.symm)]; exact hj⟩
  refine ⟨h.dmax, ?_, ?_, ?_, ?_, ?_, ?_, ?_, ?_, ?_⟩
  · intro q hq
    rcases mem q hq with ⟨j, hj, _⟩ | rfl
    · exact h.dep q (List.mem_of_getElem? hj)
    · exact h.dep p hp
  · obtain ⟨q, hq, hqd⟩ := h.deep
    obtain ⟨j, hj⟩ := List.mem_iff_getElem?.1 hq
    by_cases c : j = i
    · subst c
      rw [hi] at hj
      simp only [Option.some.injEq] at hj
      subst hj
      exact ⟨_, new, hqd⟩
    · exact ⟨q, old j q hj c, hqd⟩
  · intro q hq
    rcases mem q hq with ⟨j, hj, _⟩ | rfl
    · exact h.bits q (List.mem_of_getElem? hj)
    · exact h.bits p hp
  · intro x
    obtain ⟨q, hq, hx⟩ := h.cover x
    obtain ⟨j, hj⟩ := List.mem_iff_getElem?.1 hq
    by_cases c : j = i
    · subst c
      rw [hi] at hj
      simp only [Option.some.injEq] at hj
      subst hj
      exact ⟨_, new, hx⟩
    · exact ⟨q, old j q hj c, hx⟩
  · exact h.uniq.set i _ fun j q hj hne => ⟨h.uniq i j p q hi hj (fun e => hne e.symm), h.uniq j i q p hj hi hne⟩
  · intro q hq k hkk
    rcases mem q hq with ⟨j, hj, _⟩ | rfl
    · exact h.keys q (List.mem_of_getElem? hj) k hkk
    · exact hk k hkk
  · intro q hq
    rcases mem q hq with ⟨j, hj, _⟩ | rfl
    · exact h.nodup q (List.mem_of_getElem? hj)
    · exact hn
  · intro q hq hqd
    rcases mem q hq with ⟨j, hj, _⟩ | rfl
    · exact h.few q (List.mem_of_getElem? hj) hqd
    · exact hf hqd
  · intro q hq k hkk
    rcases mem q hq with ⟨j, hj, _⟩ | rfl
    · exact h.size q (List.mem_of_getElem? hj) k hkk
    · exact hs k hkk
theorem SOk.rekey_all (h : SOk seed D ps) {i : Nat} {p : PartR} (hi : ps[i]? = some p) (ks : List ByteArray) (k : ByteArray) (hk : hN seed k % 2 ^ p.dep = p.bits) : k ∈ allK (ps.set i ⟨p.dep, p.bits, ks⟩) ↔ k ∈ ks := by
  have hl := (List.getElem?_eq_some_iff.1 hi).1
  unfold allK
  rw [List.mem_flatMap]
  constructor
  · rintro ⟨q, hq, hkq⟩
    obtain ⟨j, hj⟩ := List.mem_iff_getElem?.1 hq
    rcases set_get hj with ⟨_, rfl, _⟩ | ⟨c, hj⟩
    · exact hkq
    · exact absurd (h.keys q (List.mem_of_getElem? hj) k hkq) (h.uniq i j p q hi hj (fun e => c e.symm) _ hk)
  · intro hkk
    exact ⟨_, List.mem_iff_getElem?.2 ⟨i, by rw [List.getElem?_set, if_pos rfl, if_pos hl]⟩, hkk⟩
theorem SOk.rekey_else (h : SOk seed D ps) {i : Nat} {p : PartR} (hi : ps[i]? = some p) (ks : List ByteArray) (hks : ∀ k ∈ ks, hN seed k % 2 ^ p.dep = p.bits) (k : ByteArray) (hk : ¬ hN seed k % 2 ^ p.dep = p.bits) : k ∈ allK (ps.set i ⟨p.dep, p.bits, ks⟩) ↔ k ∈ allK ps := by
  have hl := (List.getElem?_eq_some_iff.1 hi).1
  unfold allK
  rw [List.mem_flatMap, List.mem_flatMap]
  constructor
  · rintro ⟨q, hq, hkq⟩
    obtain ⟨j, hj⟩ := List.mem_iff_getElem?.1 hq
    rcases set_get hj with ⟨_, rfl, _⟩ | ⟨c, hj⟩
    · exact absurd (hks k hkq) hk
    · exact ⟨q, List.mem_of_getElem? hj, hkq⟩
  · rintro ⟨q, hq, hkq⟩
    obtain ⟨j, hj⟩ := List.mem_iff_getElem?.1 hq
    by_cases c : j = i
    · subst c
      rw [hi] at hj
      simp only [Option.some.injEq] at hj
      subst hj
      exact absurd (h.keys p (List.mem_of_getElem? hi) k hkq) hk
    · exact ⟨q, List.mem_iff_getElem?.2 ⟨j, by rw [List.getElem?_set, if_neg (fun e => c e.symm)]; exact hj⟩, hkq⟩
end
end Go.Proofs.Ytkkijcnipjojoaa
