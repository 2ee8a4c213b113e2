/- The contract of tallboybook.Same at numbers: whether two slices hold the same. -/
import Derived.Test.YtpmmfilodillmaaHash
import Derived.Test.YtpmmfilodillmaaReads
import Derived.BigQuiet
import Derived.Deep.QuietTactic
namespace Go.Proofs.Ytpmmfilodillmaa
open Go.RowKit

set_option maxHeartbeats 1000000 in
theorem same_uint64 (va vb : Value) (xs ys : List Int) (w : World) (ha : Reads .u64 w va xs) (hb : Reads .u64 w vb ys) :
    Calls Try.prog 49 #[va, vb] w fun e w' => e = .returned (.bool (decide (xs = ys))) ∧ IsDrew w w' := by
  obtain ⟨a, ca, rfl, hla, ha⟩ := ha
  obtain ⟨b, cb, rfl, hlb, hb⟩ := hb
  unfold maxLen at hla hlb
  have HA := Lib.hid ha
  have HB := Lib.hid hb
  clear ha hb
  by_cases hl : xs.length = ys.length
  · have hne : decide ((xs.length : Int) = (ys.length : Int)) = true := by simp; omega
    have hn2 : ((xs.length : Int) != (ys.length : Int)) = false := by simp; omega
    have HL := Lib.hid hl
    clear hl
    go_enter Try.func49, Try.ntmps49
    go_wp2
    go_loopw [5] (fun i wr => ∃ j : Nat, j ≤ xs.length ∧ i = .int .i64 j ∧ Hid (xs.take j = ys.take j) ∧ IsDrew w wr) (fun i _ => xs.length - (intOf i).toNat)
    case atStart => exact ⟨0, by omega, rfl, rfl, ⟨0, rfl⟩⟩
    case round =>
      obtain ⟨j, hj, rfl, ht, ⟨m, rfl⟩⟩ := hrel
      by_cases hlt : j < xs.length
      · obtain ⟨x, hx⟩ : ∃ x, xs[j]? = some x := ⟨xs[j], List.getElem?_eq_getElem hlt⟩
        obtain ⟨y, hy⟩ : ∃ y, ys[j]? = some y := ⟨ys[j]'(by rw [← HL.out]; exact hlt), List.getElem?_eq_getElem _⟩
        obtain ⟨bx, ox, rfl, hcx⟩ := HA.out j x hx
        obtain ⟨by', oy, rfl, hcy⟩ := HB.out j y hy
        have hlt2 : j < ys.length := by rw [← HL.out]; exact hlt
        by_cases hxy : x = y
        · subst hxy
          have HT : Hid (xs.take (j + 1) = ys.take (j + 1)) := same_lt ht.out hx hy
          clear hx hy ht
          go_wp2
          go_quiet (fail)
          go_wp2
          go_roundw
          case rel => exact ⟨j + 1, by omega, by go_num, HT, (by first | exact IsDrew.one _ _ | exact IsDrew.two _ _ _)⟩
          case measure => simp [intOf]; omega
        · have hd : (x != y) = true := by simp [hxy]
          have HN : Hid (xs ≠ ys) := by intro h; subst h; rw [hx] at hy; exact hxy (Option.some.inj hy)
          clear hx hy ht hxy
          go_wp2
          go_quiet (fail)
          go_wp2
          go_ret
          exact ⟨by simp [HN.out], (by first | exact IsDrew.one _ _ | exact IsDrew.two _ _ _)⟩
      · have HE : Hid (xs = ys) := by
          have := ht.out
          rwa [List.take_of_length_le (by omega), List.take_of_length_le (by rw [← HL.out]; omega)] at this
        clear ht
        go_wp2
        go_ret
        exact ⟨by simp [HE.out], ⟨m, rfl⟩⟩
  · have hn2 : ((xs.length : Int) != (ys.length : Int)) = true := by simp; omega
    go_enter Try.func49, Try.ntmps49
    go_wp2
    go_ret
    exact ⟨by have : xs ≠ ys := fun h => hl (by rw [h]); simp [this], ⟨0, rfl⟩⟩
set_option maxHeartbeats 1000000 in
theorem same_int (va vb : Value) (xs ys : List Int) (w : World) (ha : Reads .i64 w va xs) (hb : Reads .i64 w vb ys) :
    Calls Try.prog 35 #[va, vb] w fun e w' => e = .returned (.bool (decide (xs = ys))) ∧ IsDrew w w' := by
  obtain ⟨a, ca, rfl, hla, ha⟩ := ha
  obtain ⟨b, cb, rfl, hlb, hb⟩ := hb
  unfold maxLen at hla hlb
  have HA := Lib.hid ha
  have HB := Lib.hid hb
  clear ha hb
  by_cases hl : xs.length = ys.length
  · have hne : decide ((xs.length : Int) = (ys.length : Int)) = true := by simp; omega
    have hn2 : ((xs.length : Int) != (ys.length : Int)) = false := by simp; omega
    have HL := Lib.hid hl
    clear hl
    go_enter Try.func35, Try.ntmps35
    go_wp2
    go_loopw [5] (fun i wr => ∃ j : Nat, j ≤ xs.length ∧ i = .int .i64 j ∧ Hid (xs.take j = ys.take j) ∧ IsDrew w wr) (fun i _ => xs.length - (intOf i).toNat)
    case atStart => exact ⟨0, by omega, rfl, rfl, ⟨0, rfl⟩⟩
    case round =>
      obtain ⟨j, hj, rfl, ht, ⟨m, rfl⟩⟩ := hrel
      by_cases hlt : j < xs.length
      · obtain ⟨x, hx⟩ : ∃ x, xs[j]? = some x := ⟨xs[j], List.getElem?_eq_getElem hlt⟩
        obtain ⟨y, hy⟩ : ∃ y, ys[j]? = some y := ⟨ys[j]'(by rw [← HL.out]; exact hlt), List.getElem?_eq_getElem _⟩
        obtain ⟨bx, ox, rfl, hcx⟩ := HA.out j x hx
        obtain ⟨by', oy, rfl, hcy⟩ := HB.out j y hy
        have hlt2 : j < ys.length := by rw [← HL.out]; exact hlt
        by_cases hxy : x = y
        · subst hxy
          have HT : Hid (xs.take (j + 1) = ys.take (j + 1)) := same_lt ht.out hx hy
          clear hx hy ht
          go_wp2
          go_quiet (fail)
          go_wp2
          go_roundw
          case rel => exact ⟨j + 1, by omega, by go_num, HT, (by first | exact IsDrew.one _ _ | exact IsDrew.two _ _ _)⟩
          case measure => simp [intOf]; omega
        · have hd : (x != y) = true := by simp [hxy]
          have HN : Hid (xs ≠ ys) := by intro h; subst h; rw [hx] at hy; exact hxy (Option.some.inj hy)
          clear hx hy ht hxy
          go_wp2
          go_quiet (fail)
          go_wp2
          go_ret
          exact ⟨by simp [HN.out], (by first | exact IsDrew.one _ _ | exact IsDrew.two _ _ _)⟩
      · have HE : Hid (xs = ys) := by
          have := ht.out
          rwa [List.take_of_length_le (by omega), List.take_of_length_le (by rw [← HL.out]; omega)] at this
        clear ht
        go_wp2
        go_ret
        exact ⟨by simp [HE.out], ⟨m, rfl⟩⟩
  · have hn2 : ((xs.length : Int) != (ys.length : Int)) = true := by simp; omega
    go_enter Try.func35, Try.ntmps35
    go_wp2
    go_ret
    exact ⟨by have : xs ≠ ys := fun h => hl (by rw [h]); simp [this], ⟨0, rfl⟩⟩
end Go.Proofs.Ytpmmfilodillmaa
