/- Contracts of package table: Put. -/
import Derived.Test.YtkkijcnipjojoaaTabAgain
namespace Go.Proofs.Ytkkijcnipjojoaa
open Go.RowKit

/-- How many groups a table may have. -/
def Pow (G : Nat) : Prop := G = 1 ∨ G = 2 ∨ G = 4 ∨ G = 8 ∨ G = 16
theorem Pow.two {G : Nat} (h : Pow G) (h2 : G < 16) : Pow (2 * G) := by unfold Pow at *; omega

theorem Tab.value {w : World} {tb gb : Nat} {seed : Int} {S : Grps} {m : ByteArray → Option Int} (h : Tab w tb gb seed S m) (g i : Nat) (hg : g < S.G) (hi : i < 8) (hf : bytI (S.w g) i < 128) (v : Int) :
    Tab (w.setCell ⟨gb, g * 17 + 1 + i * 2 + 1, none⟩ (.int .i64 v)) tb gb seed (valG S g i v) (updM m (S.k g i) (some v)) := by
  refine ⟨h.at'.setV g i hg hi v, h.good.value g i hg hi hf v, h.sum, h.gle, fun k x hk => ?_⟩
  unfold updM at hk
  by_cases c : k = S.k g i
  · rw [c]; exact h.ksz _ _ (h.good.val g i hg hi hf)
  · rw [if_neg c] at hk; exact h.ksz k x hk

/-- What Put does. -/
def PutRes (w w' : World) (tb gb : Nat) (seed : Int) (S : Grps) (m : ByteArray → Option Int) (key : ByteArray) (v : Int) (e : Ending) : Prop :=
  (m key = none ∧ 112 ≤ cnt isFull S.w S.G ∧ e = .returned (.int .i64 23) ∧ Tab w' tb gb seed S m ∧ Touch w w' tb gb) ∨
  ((m key ≠ none ∨ cnt isFull S.w S.G < 112) ∧ e = .returned (.int .i64 0) ∧ ∃ gb' S', (gb' = gb ∨ w.heap.size ≤ gb') ∧ Tab w' tb gb' seed S' (updM m key (some v)) ∧ Pow S'.G ∧ Touch w w' tb gb)

theorem find_some {tb gb : Nat} {seed : Int} {S : Grps} {m : ByteArray → Option Int} {x : Int} (w : World) (hT : Tab w tb gb seed S m) (key : ByteArray) (hkey : key.size ≤ maxLen) (hm : m key = some x) :
    Calls Try.prog 54 #[.pointer (some ⟨tb, 0, none⟩), .string key] w fun e w' => ∃ g i, g < S.G ∧ i < 8 ∧ bytI (S.w g) i < 128 ∧ S.k g i = key ∧ e = .returned (.tuple #[.pointer (some ⟨gb, g * 17, none⟩), .int .i64 (i : Nat)]) ∧ Below w.heap.size w w' := by
  refine (find_any w hT.at' hT.good hT.gle key hkey).mono ?_
  rintro e w' ⟨⟨g, i, h1, h2, h3, h4, h5⟩ | ⟨h1, _⟩, hb⟩
  · exact ⟨g, i, h1, h2, h3, h4, h5, hb⟩
  · rw [hm] at h1; cases h1
theorem find_none {tb gb : Nat} {seed : Int} {S : Grps} {m : ByteArray → Option Int} (w : World) (hT : Tab w tb gb seed S m) (key : ByteArray) (hkey : key.size ≤ maxLen) (hm : m key = none) :
    Calls Try.prog 54 #[.pointer (some ⟨tb, 0, none⟩), .string key] w fun e w' => e = .returned (.tuple #[.pointer none, .int .i64 0]) ∧ Below w.heap.size w w' := by
  refine (find_any w hT.at' hT.good hT.gle key hkey).mono ?_
  rintro e w' ⟨⟨g, i, h1, h2, h3, h4, h5⟩ | ⟨_, h1⟩, hb⟩
  · have := hT.good.val g i h1 h2 h3; rw [h4, hm] at this; cases this
  · exact ⟨h1, hb⟩

theorem Touch.two {w w1 w2 w3 : World} {tb gb gb' : Nat} (h1 : Below w.heap.size w w1) (h2 : Touch w1 w2 tb gb) (h3 : Touch w2 w3 tb gb') (hg : w.heap.size ≤ gb') : Touch w w3 tb gb := by
  have h0 : Touch w w2 tb gb := (Touch.of_below h1).trans h2
  refine ⟨h3.os.trans h0.os, h3.tape.trans h0.tape, h3.output.trans h0.output, Nat.le_trans h0.size h3.size, fun k a b c => ?_⟩
  exact (h3.block k (by have := h0.size; omega) b (by omega)).trans (h0.block k a b c)

set_option maxRecDepth 100000 in
set_option maxHeartbeats 4000000 in
theorem put_any {tb gb : Nat} {seed : Int} {S : Grps} {m : ByteArray → Option Int} (w : World) (hT : Tab w tb gb seed S m) (hP : Pow S.G) (key : ByteArray) (v : Int) (hkey : key.size ≤ maxLen) :
    Calls Try.prog 17 #[.pointer (some ⟨tb, 0, none⟩), .string key, .int .i64 v] w fun e w' => PutRes w w' tb gb seed S m key v e := by
  have HT := Lib.hid hT
  have HPo := Lib.hid hP
  have hgl := hT.gle
  have hle := cnt_le isFull S.w S.G
  have hle2 := cnt_le (isByte 254) S.w S.G
  have hsum := hT.sum
  have hpos := hT.good.pos
  clear hT hP
  cases hm : m key with
  | some x =>
    have HM := Lib.hid hm
    clear hm
    go_enter Try.func17, Try.ntmps17
    go_wp2_with (go_at_call 54; refine (find_some _ HT.out key hkey HM.out).mono ?_; rintro e w1 ⟨g, i, hg, hi, hf, hk, rfl, hb⟩; have cv := (HT.out.later hb).at'.cV g i hg hi; have fv := frozen_of_row _ _ (g * 17 + 1 + i * 2 + 1) _ _ (HT.out.later hb).at'.hg; have HK := Lib.hid hk; clear hk)
    go_ret
    have ht2 := (HT.out.later hb).value g i hg hi hf v
    rw [HK.out] at ht2
    exact .inr ⟨.inl (by rw [HM.out]; simp), rfl, gb, _, .inl rfl, ht2, HPo.out, (Touch.of_below hb).setCell _ (.inr rfl) _⟩
  | none =>
    have HM := Lib.hid hm
    clear hm
    by_cases c1 : 112 ≤ cnt isFull S.w S.G
    · go_enter Try.func17, Try.ntmps17
      go_wp2_with (go_at_call 54; refine (find_none _ HT.out key hkey HM.out).mono ?_; rintro e w1 ⟨rfl, hb⟩; have ht1 := (HT.out.later hb).at'; have d1 := ht1.cGroups; have d2 := ht1.cN; have d3 := ht1.cMarks)
      go_ret
      exact .inl ⟨HM.out, c1, rfl, HT.out.later hb, Touch.of_below hb⟩
    · by_cases c2 : 7 * S.G ≤ cnt isFull S.w S.G
      · have hP2 : Pow (2 * S.G) := Pow.two HPo.out (by omega)
        have hG32 : 2 * S.G ≤ 64 := by unfold Pow at hP2; omega
        have HP2 := Lib.hid hP2
        clear hP2
        go_enter Try.func17, Try.ntmps17
        go_wp2_with (first | (go_at_call 54; refine (find_none _ HT.out key hkey HM.out).mono ?_; rintro e w1 ⟨rfl, hb⟩; have ht1 := (HT.out.later hb).at'; have d1 := ht1.cGroups; have d2 := ht1.cN; have d3 := ht1.cMarks) | (go_at_call 55; rw [show (2 * (S.G : Int)) = ((2 * S.G : Nat) : Int) from by omega]; refine (again_any _ (HT.out.later hb) (2 * S.G) (by omega) hG32 (by omega)).mono ?_; rintro e w2 ⟨rfl, gb', S', hgb, hT2, e1, e2, e3, htch⟩; have HE1 := Lib.hid e1; have HE2 := Lib.hid e2; have HE3 := Lib.hid e3; clear e1 e2 e3) | (go_at_call 56; refine (insert_any _ hT2 key v hkey HM.out (by rw [HE3.out, HE2.out, HE1.out]; omega)).mono ?_; rintro e w3 ⟨rfl, S3, hT3, e4, e5, e6, htch3⟩; have HE4 := Lib.hid e4; clear e4 e5 e6))
        go_ret
        have hlo := hb.size
        exact .inr ⟨.inr (by omega), rfl, gb', S3, .inr (by omega), hT3, by rw [HE4.out, HE1.out]; exact HP2.out, Touch.two hb htch htch3 (by omega)⟩
      · have e1 : IntKind.i64.wrap ((cnt isFull S.w S.G : Nat) + (cnt (isByte 254) S.w S.G : Nat)) = (cnt isFull S.w S.G : Nat) + (cnt (isByte 254) S.w S.G : Nat) := IntWalk.i64_in _ (by omega)
        have e2 : IntKind.i64.wrap (7 * (S.G : Int)) = 7 * (S.G : Int) := IntWalk.i64_in _ (by omega)
        have E1 := Lib.hid e1
        have E2 := Lib.hid e2
        clear e1 e2
        go_enter Try.func17, Try.ntmps17
        go_wp2_with (go_at_call 54; refine (find_none _ HT.out key hkey HM.out).mono ?_; rintro e w1 ⟨rfl, hb⟩; have ht1 := (HT.out.later hb).at'; have d1 := ht1.cGroups; have d2 := ht1.cN; have d3 := ht1.cMarks)
        have e1 := E1.out
        have e2 := E2.out
        go_quiet (fail)
        clear e1 e2
        have hb' := below_draws hb nq
        clear hb ht1 d1 d2 d3
        generalize w1.drewN nq = w2 at *
        by_cases c3 : 7 * S.G ≤ cnt isFull S.w S.G + cnt (isByte 254) S.w S.G
        · go_wp2_with (first | (go_at_call 55; refine (again_any _ (HT.out.later hb') S.G (by omega) hgl (by omega)).mono ?_; rintro e w2 ⟨rfl, gb', S', hgb, hT2, e1, e2, e3, htch⟩; have HE1 := Lib.hid e1; have HE2 := Lib.hid e2; have HE3 := Lib.hid e3; clear e1 e2 e3) | (go_at_call 56; refine (insert_any _ hT2 key v hkey HM.out (by rw [HE3.out, HE2.out, HE1.out]; omega)).mono ?_; rintro e w3 ⟨rfl, S3, hT3, e4, e5, e6, htch3⟩; have HE4 := Lib.hid e4; clear e4 e5 e6))
          go_ret
          have hlo := hb'.size
          exact .inr ⟨.inr (by omega), rfl, gb', S3, .inr (by omega), hT3, by rw [HE4.out, HE1.out]; exact HPo.out, Touch.two hb' htch htch3 (by omega)⟩
        · go_wp2_with (go_at_call 56; refine (insert_any _ (HT.out.later hb') key v hkey HM.out (by omega)).mono ?_; rintro e w3 ⟨rfl, S3, hT3, e4, e5, e6, htch3⟩; have HE4 := Lib.hid e4; clear e4 e5 e6)
          go_ret
          exact .inr ⟨.inr (by omega), rfl, gb, S3, .inl rfl, hT3, by rw [HE4.out]; exact HPo.out, (Touch.of_below hb').trans htch3⟩
end Go.Proofs.Ytkkijcnipjojoaa
