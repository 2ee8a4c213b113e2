/- Contracts of package table: Delete. -/
import Derived.Test.YtkkijcnipjojoaaTabPut2
namespace Go.Proofs.Ytkkijcnipjojoaa
open Go.RowKit

theorem hasEmpty_yes (x : Int) (w : World) (h : 0 < (slotsI (isByte 128) x 8).length) : Calls Try.prog 57 #[.int .u64 x] w fun e w' => e = .returned (.bool true) ∧ Below w.heap.size w w' := by
  refine (hasEmpty_any _ _).mono ?_
  rintro e w' ⟨rfl, hb⟩
  exact ⟨by simp [h], hb⟩
theorem hasEmpty_no (x : Int) (w : World) (h : ¬ 0 < (slotsI (isByte 128) x 8).length) : Calls Try.prog 57 #[.int .u64 x] w fun e w' => e = .returned (.bool false) ∧ Below w.heap.size w w' := by
  refine (hasEmpty_any _ _).mono ?_
  rintro e w' ⟨rfl, hb⟩
  exact ⟨by simp only [h, decide_false], hb⟩

/-- A slot taken away: the table stands. -/
theorem Tab.del {w w' : World} {tb gb : Nat} {seed : Int} {S : Grps} {m : ByteArray → Option Int} (h : Tab w tb gb seed S m) (g i : Nat) (hg : g < S.G) (hi : i < 8) (hf : bytI (S.w g) i < 128) (c : Int)
    (hc : c = 128 ∧ (∃ q, q < 8 ∧ bytI (S.w g) q = 128) ∨ c = 254)
    (ht : TabAt w' tb gb seed (putG S g i c ByteArray.empty 0) ((cnt isFull S.w S.G : Nat) - 1) (if c = 254 then (cnt (isByte 254) S.w S.G : Nat) + 1 else (cnt (isByte 254) S.w S.G : Nat))) :
    ∃ S', Tab w' tb gb seed S' (updM m (S.k g i) none) ∧ S'.G = S.G := by
  have c01 : 0 ≤ c ∧ c < 256 ∧ 128 ≤ c := by rcases hc with ⟨rfl, _⟩ | rfl <;> omega
  obtain ⟨c0, c1, c2⟩ := c01
  have h1 := putG_cnt isFull S g i c ByteArray.empty 0 hg hi c0 c1
  have h2 := putG_cnt (isByte 254) S g i c ByteArray.empty 0 hg hi c0 c1
  have e1 : isFull (bytI (S.w g) i) = true := by simp [isFull]; omega
  have e2 : isFull c = false := by simp [isFull]; omega
  have e3 : isByte 254 (bytI (S.w g) i) = false := by simp [isByte]; omega
  rw [e1, e2] at h1
  rw [e3] at h2
  simp only [Bool.false_eq_true, if_false, if_true] at h1 h2
  refine ⟨_, ⟨?_, h.good.delete g i hg hi hf c hc, ?_, h.gle, ?_⟩, rfl⟩
  · rw [putG_G]
    have a1 : ((cnt isFull (putG S g i c ByteArray.empty 0).w S.G : Nat) : Int) = (cnt isFull S.w S.G : Nat) - 1 := by omega
    have a2 : ((cnt (isByte 254) (putG S g i c ByteArray.empty 0).w S.G : Nat) : Int) = if c = 254 then ((cnt (isByte 254) S.w S.G : Nat) : Int) + 1 else ((cnt (isByte 254) S.w S.G : Nat) : Int) := by
      by_cases q : c = 254
      · rw [if_pos q]; rw [if_pos (by simp [isByte, q])] at h2; omega
      · rw [if_neg q]; rw [if_neg (by simp [isByte, q])] at h2; omega
    rw [a1, a2]
    exact ht
  · rw [putG_G]
    have hs := h.sum
    split at h2 <;> omega
  · intro k x hkx
    unfold updM at hkx
    by_cases q : k = S.k g i
    · rw [if_pos q] at hkx; cases hkx
    · rw [if_neg q] at hkx; exact h.ksz k x hkx

/-- What Delete does. -/
def DelRes (w w' : World) (tb gb : Nat) (seed : Int) (S : Grps) (m : ByteArray → Option Int) (key : ByteArray) (e : Ending) : Prop :=
  e = .returned (.bool (m key).isSome) ∧ ∃ S', Tab w' tb gb seed S' (updM m key none) ∧ S'.G = S.G ∧ Touch w w' tb gb

theorem updM_none {m : ByteArray → Option Int} {key : ByteArray} (h : m key = none) : updM m key none = m := by
  funext k
  unfold updM
  split
  · rename_i e; rw [e, h]
  · rfl

set_option maxRecDepth 100000 in
set_option maxHeartbeats 4000000 in
theorem delete_any {tb gb : Nat} {seed : Int} {S : Grps} {m : ByteArray → Option Int} (w : World) (hT : Tab w tb gb seed S m) (key : ByteArray) (hkey : key.size ≤ maxLen) :
    Calls Try.prog 18 #[.pointer (some ⟨tb, 0, none⟩), .string key] w fun e w' => DelRes w w' tb gb seed S m key e := by
  have HT := Lib.hid hT
  have hgl := hT.gle
  have hle := cnt_le isFull S.w S.G
  have hle2 := cnt_le (isByte 254) S.w S.G
  have hsum := hT.sum
  have hpos := hT.good.pos
  clear hT
  cases hm : m key with
  | none =>
    have HM := Lib.hid hm
    clear hm
    go_enter Try.func18, Try.ntmps18
    go_wp2_with (go_at_call 54; refine (find_none _ HT.out key hkey HM.out).mono ?_; rintro e w1 ⟨rfl, hb⟩)
    go_ret
    refine ⟨by rw [HM.out]; rfl, S, ?_, rfl, Touch.of_below hb⟩
    rw [updM_none HM.out]
    exact HT.out.later hb
  | some x =>
    have HM := Lib.hid hm
    clear hm
    go_enter Try.func18, Try.ntmps18
    go_wp2_with (go_at_call 54; refine (find_some _ HT.out key hkey HM.out).mono ?_; rintro e w1 ⟨g, i, hg, hi, hf, hk, rfl, hb⟩; have hT1 := HT.out.later hb; have cw := hT1.at'.cW g hg; have cm := hT1.at'.cMarks; have HK := Lib.hid hk; clear hk)
    have hx := HT.out.good.wb g hg
    obtain ⟨x0, x1⟩ := hx
    have hne := hT1.at'.ne
    have hne' : ¬ gb = tb := fun e => hne e.symm
    by_cases hE : 0 < (slotsI (isByte 128) (S.w g) 8).length
    · go_wp2_with (first | (go_at_call 57; refine (hasEmpty_yes _ _ hE).mono ?_; rintro e w2 ⟨rfl, hb2⟩; have hT2 := hT1.later hb2; have cw2 := hT2.at'.cW g hg; have cn2 := hT2.at'.cN; have ck2 := hT2.at'.cK g i hg hi; have cv2 := hT2.at'.cV g i hg hi; have f0 := frozen_of_row _ _ (g * 17) _ _ hT2.at'.hg; have f1 := frozen_of_row _ _ (g * 17 + 1 + i * 2) _ _ hT2.at'.hg; have f2 := frozen_of_row _ _ (g * 17 + 1 + i * 2 + 1) _ _ hT2.at'.hg; have f3 := frozen_of_row _ _ 2 _ _ hT2.at'.ht) | (go_at_call 58; refine (set_any _ _ _ _ x0 x1 (by omega) (by omega)).mono ?_; rintro e w' ⟨rfl, m2, rfl⟩))
      go_ret
      obtain ⟨q, hq, hqb⟩ := (slots_pos _ _).1 hE
      have a2 := hT2.at'.below ((IsDrew.one w2 m2).below _)
      have a3 := ((((a2.setW g hg (putI (S.w g) i 128)).setK g i hg hi ByteArray.empty).setV g i hg hi 0).setN ((cnt isFull S.w S.G : Nat) - 1))
      obtain ⟨S', h1, h2⟩ := HT.out.del g i hg hi hf 128 (.inl ⟨rfl, q, hq, by simpa [isByte] using hqb⟩) (by rw [if_neg (by decide)]; exact a3)
      rw [HK.out] at h1
      refine ⟨by rw [HM.out]; rfl, S', h1, h2, ?_⟩
      have t0 : Touch w (w2.drewN m2) tb gb := ((Touch.of_below hb).trans (Touch.of_below hb2)).drewN m2
      exact (((t0.setCell ⟨gb, g * 17, none⟩ (Or.inr rfl) (.int .u64 (putI (S.w g) i 128))).setCell ⟨gb, g * 17 + 1 + i * 2, none⟩ (Or.inr rfl) (.string ByteArray.empty)).setCell ⟨gb, g * 17 + 1 + i * 2 + 1, none⟩ (Or.inr rfl) (.int .i64 0)).setCell ⟨tb, 2, none⟩ (Or.inl rfl) (.int .i64 ((cnt isFull S.w S.G : Nat) - 1))
    · go_wp2_with (first | (go_at_call 57; refine (hasEmpty_no _ _ hE).mono ?_; rintro e w2 ⟨rfl, hb2⟩; have hT2 := hT1.later hb2; have cw2 := hT2.at'.cW g hg; have cn2 := hT2.at'.cN; have cm2 := hT2.at'.cMarks; have ck2 := hT2.at'.cK g i hg hi; have cv2 := hT2.at'.cV g i hg hi; have f0 := frozen_of_row _ _ (g * 17) _ _ hT2.at'.hg; have f1 := frozen_of_row _ _ (g * 17 + 1 + i * 2) _ _ hT2.at'.hg; have f2 := frozen_of_row _ _ (g * 17 + 1 + i * 2 + 1) _ _ hT2.at'.hg; have f3 := frozen_of_row _ _ 2 _ _ hT2.at'.ht; have f4 := frozen_of_row _ _ 3 _ _ hT2.at'.ht) | (go_at_call 58; refine (set_any _ _ _ _ x0 x1 (by omega) (by omega)).mono ?_; rintro e w' ⟨rfl, m2, rfl⟩))
      go_ret
      have a2 := (hT2.at'.setMarks ((cnt (isByte 254) S.w S.G : Nat) + 1)).below ((IsDrew.one _ m2).below _)
      have a3 := ((((a2.setW g hg (putI (S.w g) i 254)).setK g i hg hi ByteArray.empty).setV g i hg hi 0).setN ((cnt isFull S.w S.G : Nat) - 1))
      obtain ⟨S', h1, h2⟩ := HT.out.del g i hg hi hf 254 (.inr rfl) (by rw [if_pos rfl]; exact a3)
      rw [HK.out] at h1
      refine ⟨by rw [HM.out]; rfl, S', h1, h2, ?_⟩
      have t0 : Touch w w2 tb gb := (Touch.of_below hb).trans (Touch.of_below hb2)
      have t1 := (t0.setCell ⟨tb, 3, none⟩ (Or.inl rfl) (.int .i64 ((cnt (isByte 254) S.w S.G : Nat) + 1))).drewN m2
      exact (((t1.setCell ⟨gb, g * 17, none⟩ (Or.inr rfl) (.int .u64 (putI (S.w g) i 254))).setCell ⟨gb, g * 17 + 1 + i * 2, none⟩ (Or.inr rfl) (.string ByteArray.empty)).setCell ⟨gb, g * 17 + 1 + i * 2 + 1, none⟩ (Or.inr rfl) (.int .i64 0)).setCell ⟨tb, 2, none⟩ (Or.inl rfl) (.int .i64 ((cnt isFull S.w S.G : Nat) - 1))
end Go.Proofs.Ytkkijcnipjojoaa
