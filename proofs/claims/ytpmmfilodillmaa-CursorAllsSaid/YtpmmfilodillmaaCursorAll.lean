/- The contract of cursor.All: the cursors of a depth, in order, in a slice of its own. -/
import Derived.Test.YtpmmfilodillmaaCursor
namespace Go.Proofs.Ytpmmfilodillmaa
open Go.RowKit

theorem info_u64 : (Try.prog.info? 22).map (fun i => (i.zero, i.size, i.bytes)) = some (some (.int .u64 0), 1, 8) := by kernel_rfl

def cursRow (k n : Nat) : List Value := (List.range n).map fun i => .int .u64 (trn i k : Nat)
theorem cursRow_succ (k n : Nat) : cursRow k n ++ [.int .u64 (trn n k : Nat)] = cursRow k (n + 1) := by
  simp [cursRow, List.range_succ]
theorem cursRow_len (k n : Nat) : (cursRow k n).length = n := by simp [cursRow]

def slLen : Value → Nat | .slice _ n _ => n | _ => 0
theorem slLen_owns {w : World} {B : Nat} {e : TypeId} {s : Nat} {v : Value} {n : Nat} {xs : List Value} (h : w.ownsRow B e s v n xs) : slLen v = n := by
  obtain ⟨_, h | ⟨g, cap, cur, hv, _⟩⟩ := h
  · rw [h.1, h.2]; rfl
  · rw [hv]; rfl

/-- What All hands back. -/
def AllIs (B k : Nat) (W w : World) (e : Ending) (w' : World) : Prop :=
  ∃ v : Value, e = .returned v ∧ w'.ownsRow B 22 1 v (2 ^ k) (cursRow k (2 ^ k)) ∧ Below B w w' ∧ B = W.heap.size

set_option maxHeartbeats 1000000 in
theorem all_any (d : Int) (w : World) (hd : clampI d ≤ 12) :
    Calls Try.prog 36 #[.int .i64 d] w (AllIs w.heap.size (clampI d).toNat w w) := by
  obtain ⟨b0, b1⟩ := clamp_bd d
  generalize hk : clampI d = k' at *
  obtain ⟨k, rfl⟩ := Int.eq_ofNat_of_zero_le b0
  have HK := Lib.hid hk; clear hk
  obtain ⟨i0, hi, hz0, hz1, hz2⟩ := info_parts info_u64
  have hp : 2 ^ k ≤ 4096 := by have : 2 ^ k ≤ 2 ^ 12 := Nat.pow_le_pow_right (by omega) (by omega); omega
  have hp1 : 1 ≤ 2 ^ k := Nat.one_le_two_pow
  generalize hB : w.heap.size = B
  have HB := Lib.hid hB; clear hB
  have HC := Lib.hid (clamp_in (k : Int) (by omega) (by omega))
  have hn0 : Hid (nxt 0 k = trn 1 k) := by unfold Hid; rw [nxt, trn_zero]
  go_enter Try.func36, Try.ntmps36
  go_wp2_with (first | (go_at_call 47; refine (depth_any _ _).mono ?_; rintro e w' ⟨rfl, rfl⟩; rw [HK.out]) | (go_at_call 38; refine (next_any _ _ _ (by omega) (by omega)).mono ?_; rintro e w' ⟨rfl, rfl⟩; rw [HC.out, Int.toNat_natCast, Int.toNat_zero, hn0.out]))
  go_loopw [3, 4] (fun v c wr => ∃ j : Nat, 1 ≤ j ∧ j ≤ 2 ^ k ∧ c = .int .u64 (trn j k : Nat) ∧ wr.ownsRow B 22 1 v j (cursRow k j) ∧ Below B w wr) (fun v _ _ => 2 ^ k - slLen v)
  case atStart => exact ⟨1, by omega, by omega, rfl, ⟨by simp [cursRow], .inr ⟨w.heap.size, 1, #[.int .u64 0], rfl, by rw [HB.out]; omega, heap_alloc_new w _, by omega, by decide, rfl, by simp [cursRow, trn_zero]⟩⟩, (Below.refl _ _).alloc (by rw [HB.out]; omega) _⟩
  case round =>
    obtain ⟨j, hj1, hj, rfl, hown, hb⟩ := hrel
    have hbd := trn_bd j k (by omega)
    have hsz : B ≤ wr.heap.size := by have := hb.size; rw [HB.out] at this; exact this
    by_cases hlt : j < 2 ^ k
    · have hne : ((trn j k : Int) != 0) = true := by
        have : trn j k ≠ 0 := fun h => by have := trn_inj j 0 k hlt (by omega) (by rw [h, trn_zero]); omega
        simp; omega
      have HN : Hid (nxt (trn j k) k = trn (j + 1) k) := nxt_trn j k hlt
      have hl : slLen u3 = j := slLen_owns hown
      have HL := Lib.hid hl; clear hl
      go_wp2_with (at_builtin; refine wpList_append_own _ rfl _ _ 23 rfl B 22 i0 (.int .u64 0) 1 8 Try.underlying23 hi hz0 hz1 hz2 rfl (by decide) _ _ _ rfl (hown.alloc _) ⟨wr.heap.size, 0, none⟩ 1 1 [.int .u64 (trn j k : Nat)] rfl rfl ?c1 ?c2 ?c3 ?c4 ?c5 ?_)
      case c1 =>
        intro q u hq
        match q, hq with
        | 0, hq => simp at hq; subst hq; simp [Addr.add]
      case c2 => intro u hu; simp at hu; subst hu; rfl
      case c3 => unfold maxLen; omega
      case c4 => omega
      case c5 => simp; omega
      intro v' w1 hown' hgrow _
      have R : w1.ownsRow B 22 1 v' (j + 1) (cursRow k (j + 1)) ∧ Below B w w1 ∧ slLen v' = j + 1 := by
        rw [cursRow_succ] at hown'
        exact ⟨hown', (hb.alloc hsz _).grown hgrow (by simp; omega) (fun q hq => (hown.lt q hq).1), slLen_owns hown'⟩
      obtain ⟨r1, r2, r3⟩ := R
      have R3 := Lib.hid r3
      clear hown' hgrow hown r3
      go_wp2_with (go_at_call 38; refine (next_any _ _ _ (by omega) (by omega)).mono ?_; rintro e w' ⟨rfl, rfl⟩; rw [HC.out, Int.toNat_natCast, Int.toNat_natCast, HN.out])
      go_roundw
      case rel => exact ⟨j + 1, by omega, by omega, rfl, r1, r2⟩
      case measure => rw [R3.out, HL.out]; omega
    · obtain rfl : j = 2 ^ k := by omega
      have hne : ((trn (2 ^ k) k : Int) != 0) = false := by rw [trn_full]; rfl
      go_wp2
      go_ret
      exact ⟨_, rfl, hown, hb, HB.out.symm⟩
theorem owns_slice {w : World} {B : Nat} {e : TypeId} {s : Nat} {v : Value} {n : Nat} {xs : List Value} (h : w.ownsRow B e s v n xs) : ∃ a c, v = .slice a n c := by
  obtain ⟨_, h | ⟨g, cap, cur, hv, _⟩⟩ := h
  · exact ⟨none, 0, by rw [h.1, h.2]⟩
  · exact ⟨_, _, hv⟩

/-- What All hands back, its slice written out. -/
def AllAt (k n : Nat) (w : World) (e : Ending) (w' : World) : Prop :=
  ∃ a c, e = .returned (.slice a n c) ∧ w'.ownsRow w.heap.size 22 1 (.slice a n c) n (cursRow k n) ∧ Below w.heap.size w w'

theorem all_at (d : Int) (k n : Nat) (w : World) (hk : clampI d = k) (hn : 2 ^ k = n) (hd : k ≤ 12) : Calls Try.prog 36 #[.int .i64 d] w (AllAt k n w) := by
  refine (all_any d w (by omega)).mono fun e w' h => ?_
  obtain ⟨v, rfl, hown, hb, _⟩ := h
  rw [hk, Int.toNat_natCast, hn] at hown
  obtain ⟨a, c, rfl⟩ := owns_slice hown
  exact ⟨a, c, rfl, hown, hb⟩

theorem all_deep (d : Int) (w : World) (hd : 12 < d) : Calls Try.prog 36 #[.int .i64 d] w fun e w' => e = .returned (.slice none 0 0) ∧ w = w' := by
  have hk : 12 < clampI d := by unfold clampI; split <;> (try split) <;> omega
  obtain ⟨b0, b1⟩ := clamp_bd d
  generalize hc : clampI d = k at *
  have HK := Lib.hid hc; clear hc
  go_enter Try.func36, Try.ntmps36
  go_wp2_with (go_at_call 47; refine (depth_any _ _).mono ?_; rintro e w' ⟨rfl, rfl⟩; rw [HK.out])
  go_ret
  exact ⟨rfl, rfl⟩
end Go.Proofs.Ytpmmfilodillmaa
