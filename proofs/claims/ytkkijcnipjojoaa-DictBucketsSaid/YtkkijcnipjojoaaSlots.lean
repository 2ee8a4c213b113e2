/- Contracts of package ctrl on all slots of a word. -/
import Derived.Test.YtkkijcnipjojoaaCtrl
import Derived.Test.YtkkijcnipjojoaaReads
import Derived.Test.YtkkijcnipjojoaaPlainS
namespace Go.Proofs.Ytkkijcnipjojoaa
open Go.RowKit

theorem info_int : (Try.prog.info? 3).map (fun i => (i.zero, i.size, i.bytes)) = some (some (.int .i64 0), 1, 8) := by kernel_rfl

theorem freeF_any (b : Int) (w : World) : Calls Try.prog 99 #[.int .u8 b] w fun e w' => e = .returned (.bool (isFree b)) ∧ w = w' := by
  go_enter Try.func99, Try.ntmps99
  go_wp2
  go_ret
  exact ⟨rfl, rfl⟩
theorem matchF_any (b c : Int) (g : Nat) (w : World) (hc : w.cell? ⟨g, 0, none⟩ = some (.int .u8 c)) :
    Calls Try.prog 98 #[.int .u8 b, .pointer (some ⟨g, 0, none⟩)] w fun e w' => e = .returned (.bool (isByte c b)) ∧ w = w' := by
  go_enter Try.func98, Try.ntmps98
  go_wp2
  go_ret
  exact ⟨rfl, rfl⟩

/-- What slots hands back. -/
def SlotsAre (p : Int → Bool) (x : Int) (w : World) (e : Ending) (w' : World) : Prop :=
  ∃ a c, e = .returned (.slice a (slotsI p x 8).length c) ∧ w'.ownsRow w.heap.size 3 1 (.slice a (slotsI p x 8).length c) (slotsI p x 8).length ((slotsI p x 8).map (Value.int .i64)) ∧ Below w.heap.size w w'

theorem owns_slice' {w : World} {B : Nat} {e : TypeId} {s : Nat} {v : Value} {n : Nat} {xs : List Value} (h : w.ownsRow B e s v n xs) : ∃ a c, v = .slice a n c := by
  obtain ⟨_, h | ⟨g, cap, cur, hv, _⟩⟩ := h
  · exact ⟨none, 0, by rw [h.1, h.2]⟩
  · exact ⟨_, _, hv⟩

theorem owns_down {w : World} {B B' : Nat} {e : TypeId} {s : Nat} {v : Value} {n : Nat} {xs : List Value} (h : w.ownsRow B e s v n xs) (hB : B' ≤ B) : w.ownsRow B' e s v n xs := by
  obtain ⟨h1, h2⟩ := h
  refine ⟨h1, ?_⟩
  rcases h2 with h2 | ⟨g, cap, cur, hv, hg, r⟩
  · exact .inl h2
  · exact .inr ⟨g, cap, cur, hv, by omega, r⟩

set_option maxRecDepth 100000 in
set_option maxHeartbeats 1000000 in
theorem slots_free (x : Int) (w : World) : Calls Try.prog 97 #[.int .u64 x, .func (Fn.func 99) #[] #[]] w (SlotsAre isFree x w) := by
  obtain ⟨i0, hi, hz0, hz1, hz2⟩ := info_parts info_int
  generalize hB : w.heap.size = B
  have HB := Lib.hid hB; clear hB
  go_enter Try.func97, Try.ntmps97
  go_wp2_with fail
  go_loopw [5, 7] (fun v i wr => ∃ k : Nat, k ≤ 8 ∧ i = .int .i64 k ∧ wr.ownsRow B 3 1 v (slotsI isFree x k).length ((slotsI isFree x k).map (Value.int .i64)) ∧ Below B w wr) (fun _ i _ => 8 - (intOf i).toNat)
  case atStart => exact ⟨0, by omega, rfl, World.ownsRow_nil _ _ _ _, Below.refl _ _⟩
  case round =>
    obtain ⟨k, hk, rfl, hown, hb⟩ := hrel
    have hsz : B ≤ wr.heap.size := by have := hb.size; rw [HB.out] at this; exact this
    have hl := slots_len isFree x k
    by_cases hlt : k < 8
    · have hat : Hid (atI x k = bytI x k) := by unfold Hid atI; rw [if_pos ⟨by omega, by omega⟩, Int.toNat_natCast]
      cases hp : isFree (bytI x k)
      · have HN := Lib.hid (slots_no isFree x k hp)
        have HP := Lib.hid hp
        clear hp
        go_wp2_with (first | (go_at_call 92; refine (at_any _ _ _).mono ?_; rintro e w' ⟨rfl, rfl⟩; rw [hat.out]) | (go_at_call 99; refine (freeF_any _ _).mono ?_; rintro e w' ⟨rfl, rfl⟩; rw [HP.out]))
        go_roundw
        case rel => exact ⟨k + 1, by omega, by go_num, by rw [HN.out]; exact hown, hb⟩
        case measure => simp [intOf]; omega
      · have HN := Lib.hid (slots_yes isFree x k hp)
        have HP := Lib.hid hp
        clear hp
        go_wp2_with (first | (go_at_call 92; refine (at_any _ _ _).mono ?_; rintro e w' ⟨rfl, rfl⟩; rw [hat.out]) | (go_at_call 99; refine (freeF_any _ _).mono ?_; rintro e w' ⟨rfl, rfl⟩; rw [HP.out]) | (at_builtin; refine wpList_append_own _ rfl _ _ 43 rfl B 3 i0 (.int .i64 0) 1 8 Try.underlying43 hi hz0 hz1 hz2 rfl (by decide) _ _ _ rfl (hown.alloc _) ⟨wr.heap.size, 0, none⟩ 1 1 [.int .i64 k] rfl rfl ?c1 ?c2 ?c3 ?c4 ?c5 ?_))
        case c1 =>
          intro q u hq
          match q, hq with
          | 0, hq => simp at hq; subst hq; simp [Addr.add]
        case c2 => intro u hu; simp at hu; subst hu; rfl
        case c3 => unfold maxLen; omega
        case c4 => omega
        case c5 => simp; omega
        intro v' w1 hown' hgrow _
        have R : w1.ownsRow B 3 1 v' (slotsI isFree x (k + 1)).length ((slotsI isFree x (k + 1)).map (Value.int .i64)) ∧ Below B w w1 := by
          rw [HN.out, List.map_append, List.length_append]
          exact ⟨hown', (hb.alloc hsz _).grown hgrow (by simp; omega) (fun q hq => (hown.lt q hq).1)⟩
        obtain ⟨r1, r2⟩ := R
        clear hown' hgrow hown
        go_wp2
        go_roundw
        case rel => exact ⟨k + 1, by omega, by go_num, r1, r2⟩
        case measure => simp [intOf]; omega
    · obtain rfl : k = 8 := by omega
      go_wp2
      go_ret
      obtain ⟨a, c, hv⟩ := owns_slice' hown
      subst hv
      exact ⟨a, c, rfl, by rw [HB.out]; exact hown, by rw [HB.out]; exact hb⟩
set_option maxRecDepth 100000 in
set_option maxHeartbeats 1000000 in
theorem slots_match (x b : Int) (g : Nat) (w : World) (hg : g < w.heap.size) (hcell : w.cell? ⟨g, 0, none⟩ = some (.int .u8 b)) : Calls Try.prog 97 #[.int .u64 x, .func (Fn.func 98) #[] #[.pointer (some ⟨g, 0, none⟩)]] w (SlotsAre (isByte b) x w) := by
  obtain ⟨i0, hi, hz0, hz1, hz2⟩ := info_parts info_int
  generalize hB : w.heap.size = B at *
  have HB := Lib.hid hB; clear hB
  go_enter Try.func97, Try.ntmps97
  go_wp2_with fail
  go_loopw [5, 7] (fun v i wr => ∃ k : Nat, k ≤ 8 ∧ i = .int .i64 k ∧ wr.ownsRow B 3 1 v (slotsI (isByte b) x k).length ((slotsI (isByte b) x k).map (Value.int .i64)) ∧ Below B w wr) (fun _ i _ => 8 - (intOf i).toNat)
  case atStart => exact ⟨0, by omega, rfl, World.ownsRow_nil _ _ _ _, Below.refl _ _⟩
  case round =>
    obtain ⟨k, hk, rfl, hown, hb⟩ := hrel
    have hsz : B ≤ wr.heap.size := by have := hb.size; rw [HB.out] at this; exact this
    have hcw := (hb.cell (p := ⟨g, 0, none⟩) hg).trans hcell
    have hl := slots_len (isByte b) x k
    by_cases hlt : k < 8
    · have hat : Hid (atI x k = bytI x k) := by unfold Hid atI; rw [if_pos ⟨by omega, by omega⟩, Int.toNat_natCast]
      cases hp : (isByte b) (bytI x k)
      · have HN := Lib.hid (slots_no (isByte b) x k hp)
        have HP := Lib.hid hp
        clear hp
        go_wp2_with (first | (go_at_call 92; refine (at_any _ _ _).mono ?_; rintro e w' ⟨rfl, rfl⟩; rw [hat.out]) | (go_at_call 98; refine (matchF_any _ _ _ _ hcw).mono ?_; rintro e w' ⟨rfl, rfl⟩; rw [HP.out]))
        go_roundw
        case rel => exact ⟨k + 1, by omega, by go_num, by rw [HN.out]; exact hown, hb⟩
        case measure => simp [intOf]; omega
      · have HN := Lib.hid (slots_yes (isByte b) x k hp)
        have HP := Lib.hid hp
        clear hp
        go_wp2_with (first | (go_at_call 92; refine (at_any _ _ _).mono ?_; rintro e w' ⟨rfl, rfl⟩; rw [hat.out]) | (go_at_call 98; refine (matchF_any _ _ _ _ hcw).mono ?_; rintro e w' ⟨rfl, rfl⟩; rw [HP.out]) | (at_builtin; refine wpList_append_own _ rfl _ _ 43 rfl B 3 i0 (.int .i64 0) 1 8 Try.underlying43 hi hz0 hz1 hz2 rfl (by decide) _ _ _ rfl (hown.alloc _) ⟨wr.heap.size, 0, none⟩ 1 1 [.int .i64 k] rfl rfl ?c1 ?c2 ?c3 ?c4 ?c5 ?_))
        case c1 =>
          intro q u hq
          match q, hq with
          | 0, hq => simp at hq; subst hq; simp [Addr.add]
        case c2 => intro u hu; simp at hu; subst hu; rfl
        case c3 => unfold maxLen; omega
        case c4 => omega
        case c5 => simp; omega
        intro v' w1 hown' hgrow _
        have R : w1.ownsRow B 3 1 v' (slotsI (isByte b) x (k + 1)).length ((slotsI (isByte b) x (k + 1)).map (Value.int .i64)) ∧ Below B w w1 := by
          rw [HN.out, List.map_append, List.length_append]
          exact ⟨hown', (hb.alloc hsz _).grown hgrow (by simp; omega) (fun q hq => (hown.lt q hq).1)⟩
        obtain ⟨r1, r2⟩ := R
        clear hown' hgrow hown
        go_wp2
        go_roundw
        case rel => exact ⟨k + 1, by omega, by go_num, r1, r2⟩
        case measure => simp [intOf]; omega
    · obtain rfl : k = 8 := by omega
      go_wp2
      go_ret
      obtain ⟨a, c, hv⟩ := owns_slice' hown
      subst hv
      exact ⟨a, c, rfl, by rw [HB.out]; exact hown, by rw [HB.out]; exact hb⟩

theorem free_any (x : Int) (w : World) : Calls Try.prog 91 #[.int .u64 x] w (SlotsAre isFree x w) := by
  go_enter Try.func91, Try.ntmps91
  go_wp2_with (go_at_call 97; refine (slots_free _ _).mono ?_; rintro e w' ⟨a, c, rfl, hown, hb⟩)
  go_ret
  exact ⟨a, c, rfl, hown, hb⟩
theorem match_any (x b : Int) (w : World) : Calls Try.prog 88 #[.int .u64 x, .int .u8 b] w (SlotsAre (isByte b) x w) := by
  go_enter Try.func88, Try.ntmps88
  go_wp2_with (go_at_call 97; refine (slots_match _ b _ _ (by simp) (by simp)).mono ?_; rintro e w' ⟨a, c, rfl, hown, hb⟩)
  go_ret
  exact ⟨a, c, rfl, owns_down hown (by simp), ((Below.refl _ _).alloc (Nat.le_refl _) _).trans (hb.mono (by simp))⟩

theorem hasEmpty_any (x : Int) (w : World) : Calls Try.prog 57 #[.int .u64 x] w fun e w' => e = .returned (.bool (decide (0 < (slotsI (isByte 128) x 8).length))) ∧ Below w.heap.size w w' := by
  have hl := slots_len (isByte 128) x 8
  go_enter Try.func57, Try.ntmps57
  go_wp2_with (go_at_call 88; refine (match_any _ _ _).mono ?_; rintro e w' ⟨a, c, rfl, hown, hb⟩)
  go_ret
  exact ⟨rfl, hb⟩

end Go.Proofs.Ytkkijcnipjojoaa
