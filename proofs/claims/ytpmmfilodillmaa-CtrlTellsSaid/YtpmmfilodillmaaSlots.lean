/- Contracts of package ctrl on all slots of a word. -/
import Derived.Test.YtpmmfilodillmaaCtrl
import Derived.Test.YtpmmfilodillmaaReads
import Derived.Test.YtpmmfilodillmaaPlainS
namespace Go.Proofs.Ytpmmfilodillmaa
open Go.RowKit

theorem info_int : (Try.prog.info? 3).map (fun i => (i.zero, i.size, i.bytes)) = some (some (.int .i64 0), 1, 8) := by kernel_rfl

theorem freeF_any (b : Int) (w : World) : Calls Try.prog 45 #[.int .u8 b] w fun e w' => e = .returned (.bool (isFree b)) ∧ w = w' := by
  go_enter Try.func45, Try.ntmps45
  go_wp2
  go_ret
  exact ⟨rfl, rfl⟩
theorem matchF_any (b c : Int) (g : Nat) (w : World) (hc : w.cell? ⟨g, 0, none⟩ = some (.int .u8 c)) :
    Calls Try.prog 46 #[.int .u8 b, .pointer (some ⟨g, 0, none⟩)] w fun e w' => e = .returned (.bool (isByte c b)) ∧ w = w' := by
  go_enter Try.func46, Try.ntmps46
  go_wp2
  go_ret
  exact ⟨rfl, rfl⟩

/-- What slots hands back. -/
def SlotsAre (p : Int → Bool) (x : Int) (w : World) (e : Ending) (w' : World) : Prop :=
  ∃ a c, e = .returned (.slice a (slotsI p x 8).length c) ∧ w'.ownsRow w.heap.size 3 1 (.slice a (slotsI p x 8).length c) (slotsI p x 8).length ((slotsI p x 8).map (Value.int .i64)) ∧ Below w.heap.size w w'

theorem owns_slice' {w : World} {B : Nat} {e : TypeId} {s : Nat} {v : Value} {n : Nat} {xs : List Value} (h : w.ownsRow B e s v n xs) : ∃ a c, v = .slice a n c := by
  obtain ⟨_, h | ⟨g, cap, cur, hv, _⟩⟩ := h
  · exact ⟨none, 0, by rw [h.1, h.2]⟩
  · exact ⟨_, _, hv⟩

theorem owns_down {w : World} {B B' : Nat} {e : TypeId} {s : Nat} {v : Value} {n : Nat} {xs : List Value} (h : w.ownsRow B e s v n xs) (hB : B' ≤ B) : w.ownsRow B' e s v n xs := by
  obtain ⟨h1, h2⟩ := h
  refine ⟨h1, ?_⟩
  rcases h2 with h2 | ⟨g, cap, cur, hv, hg, r⟩
  · exact .inl h2
  · exact .inr ⟨g, cap, cur, hv, by omega, r⟩

set_option maxHeartbeats 1000000 in
theorem slots_free (x : Int) (w : World) : Calls Try.prog 44 #[.int .u64 x, .func (Fn.func 45) #[] #[]] w (SlotsAre isFree x w) := by
  obtain ⟨i0, hi, hz0, hz1, hz2⟩ := info_parts info_int
  generalize hB : w.heap.size = B
  have HB := Lib.hid hB; clear hB
  go_enter Try.func44, Try.ntmps44
  go_wp2_with fail
  go_loopw [5, 7] (fun v i wr => ∃ k : Nat, k ≤ 8 ∧ i = .int .i64 k ∧ wr.ownsRow B 3 1 v (slotsI isFree x k).length ((slotsI isFree x k).map (Value.int .i64)) ∧ Below B w wr) (fun _ i _ => 8 - (intOf i).toNat)
  case atStart => exact ⟨0, by omega, rfl, World.ownsRow_nil _ _ _ _, Below.refl _ _⟩
  case round =>
    obtain ⟨k, hk, rfl, hown, hb⟩ := hrel
    have hsz : B ≤ wr.heap.size := by have := hb.size; rw [HB.out] at this; exact this
    have hl := slots_len isFree x k
    by_cases hlt : k < 8
    · have hat : Hid (atI x k = bytI x k) := by unfold Hid atI; rw [if_pos ⟨by omega, by omega⟩, Int.toNat_natCast]
      cases hp : isFree (bytI x k)
      · have HN := Lib.hid (slots_no isFree x k hp)
        have HP := Lib.hid hp
        clear hp
        go_wp2_with (first | (go_at_call 25; refine (at_any _ _ _).mono ?_; rintro e w' ⟨rfl, rfl⟩; rw [hat.out]) | (go_at_call 45; refine (freeF_any _ _).mono ?_; rintro e w' ⟨rfl, rfl⟩; rw [HP.out]))
        go_roundw
        case rel => exact ⟨k + 1, by omega, by go_num, by rw [HN.out]; exact hown, hb⟩
        case measure => simp [intOf]; omega
      · have HN := Lib.hid (slots_yes isFree x k hp)
        have HP := Lib.hid hp
        clear hp
        go_wp2_with (first | (go_at_call 25; refine (at_any _ _ _).mono ?_; rintro e w' ⟨rfl, rfl⟩; rw [hat.out]) | (go_at_call 45; refine (freeF_any _ _).mono ?_; rintro e w' ⟨rfl, rfl⟩; rw [HP.out]) | (at_builtin; refine wpList_append_own _ rfl _ _ 45 rfl B 3 i0 (.int .i64 0) 1 8 Try.underlying45 hi hz0 hz1 hz2 rfl (by decide) _ _ _ rfl (hown.alloc _) ⟨wr.heap.size, 0, none⟩ 1 1 [.int .i64 k] rfl rfl ?c1 ?c2 ?c3 ?c4 ?c5 ?_))
        case c1 =>
          intro q u hq
          match q, hq with
          | 0, hq => simp at hq; subst hq; simp [Addr.add]
        case c2 => intro u hu; simp at hu; subst hu; rfl
        case c3 => unfold maxLen; omega
        case c4 => omega
        case c5 => simp; omega
        intro v' w1 hown' hgrow _
        have R : w1.ownsRow B 3 1 v' (slotsI isFree x (k + 1)).length ((slotsI isFree x (k + 1)).map (Value.int .i64)) ∧ Below B w w1 := by
          rw [HN.out, List.map_append, List.length_append]
          exact ⟨hown', (hb.alloc hsz _).grown hgrow (by simp; omega) (fun q hq => (hown.lt q hq).1)⟩
        obtain ⟨r1, r2⟩ := R
        clear hown' hgrow hown
        go_wp2
        go_roundw
        case rel => exact ⟨k + 1, by omega, by go_num, r1, r2⟩
        case measure => simp [intOf]; omega
    · obtain rfl : k = 8 := by omega
      go_wp2
      go_ret
      obtain ⟨a, c, hv⟩ := owns_slice' hown
      subst hv
      exact ⟨a, c, rfl, by rw [HB.out]; exact hown, by rw [HB.out]; exact hb⟩
set_option maxHeartbeats 1000000 in
theorem slots_match (x b : Int) (g : Nat) (w : World) (hg : g < w.heap.size) (hcell : w.cell? ⟨g, 0, none⟩ = some (.int .u8 b)) : Calls Try.prog 44 #[.int .u64 x, .func (Fn.func 46) #[] #[.pointer (some ⟨g, 0, none⟩)]] w (SlotsAre (isByte b) x w) := by
  obtain ⟨i0, hi, hz0, hz1, hz2⟩ := info_parts info_int
  generalize hB : w.heap.size = B at *
  have HB := Lib.hid hB; clear hB
  go_enter Try.func44, Try.ntmps44
  go_wp2_with fail
  go_loopw [5, 7] (fun v i wr => ∃ k : Nat, k ≤ 8 ∧ i = .int .i64 k ∧ wr.ownsRow B 3 1 v (slotsI (isByte b) x k).length ((slotsI (isByte b) x k).map (Value.int .i64)) ∧ Below B w wr) (fun _ i _ => 8 - (intOf i).toNat)
  case atStart => exact ⟨0, by omega, rfl, World.ownsRow_nil _ _ _ _, Below.refl _ _⟩
  case round =>
    obtain ⟨k, hk, rfl, hown, hb⟩ := hrel
    have hsz : B ≤ wr.heap.size := by have := hb.size; rw [HB.out] at this; exact this
    have hcw := (hb.cell (p := ⟨g, 0, none⟩) hg).trans hcell
    have hl := slots_len (isByte b) x k
    by_cases hlt : k < 8
    · have hat : Hid (atI x k = bytI x k) := by unfold Hid atI; rw [if_pos ⟨by omega, by omega⟩, Int.toNat_natCast]
      cases hp : (isByte b) (bytI x k)
      · have HN := Lib.hid (slots_no (isByte b) x k hp)
        have HP := Lib.hid hp
        clear hp
        go_wp2_with (first | (go_at_call 25; refine (at_any _ _ _).mono ?_; rintro e w' ⟨rfl, rfl⟩; rw [hat.out]) | (go_at_call 46; refine (matchF_any _ _ _ _ hcw).mono ?_; rintro e w' ⟨rfl, rfl⟩; rw [HP.out]))
        go_roundw
        case rel => exact ⟨k + 1, by omega, by go_num, by rw [HN.out]; exact hown, hb⟩
        case measure => simp [intOf]; omega
      · have HN := Lib.hid (slots_yes (isByte b) x k hp)
        have HP := Lib.hid hp
        clear hp
        go_wp2_with (first | (go_at_call 25; refine (at_any _ _ _).mono ?_; rintro e w' ⟨rfl, rfl⟩; rw [hat.out]) | (go_at_call 46; refine (matchF_any _ _ _ _ hcw).mono ?_; rintro e w' ⟨rfl, rfl⟩; rw [HP.out]) | (at_builtin; refine wpList_append_own _ rfl _ _ 45 rfl B 3 i0 (.int .i64 0) 1 8 Try.underlying45 hi hz0 hz1 hz2 rfl (by decide) _ _ _ rfl (hown.alloc _) ⟨wr.heap.size, 0, none⟩ 1 1 [.int .i64 k] rfl rfl ?c1 ?c2 ?c3 ?c4 ?c5 ?_))
        case c1 =>
          intro q u hq
          match q, hq with
          | 0, hq => simp at hq; subst hq; simp [Addr.add]
        case c2 => intro u hu; simp at hu; subst hu; rfl
        case c3 => unfold maxLen; omega
        case c4 => omega
        case c5 => simp; omega
        intro v' w1 hown' hgrow _
        have R : w1.ownsRow B 3 1 v' (slotsI (isByte b) x (k + 1)).length ((slotsI (isByte b) x (k + 1)).map (Value.int .i64)) ∧ Below B w w1 := by
          rw [HN.out, List.map_append, List.length_append]
          exact ⟨hown', (hb.alloc hsz _).grown hgrow (by simp; omega) (fun q hq => (hown.lt q hq).1)⟩
        obtain ⟨r1, r2⟩ := R
        clear hown' hgrow hown
        go_wp2
        go_roundw
        case rel => exact ⟨k + 1, by omega, by go_num, r1, r2⟩
        case measure => simp [intOf]; omega
    · obtain rfl : k = 8 := by omega
      go_wp2
      go_ret
      obtain ⟨a, c, hv⟩ := owns_slice' hown
      subst hv
      exact ⟨a, c, rfl, by rw [HB.out]; exact hown, by rw [HB.out]; exact hb⟩

theorem free_any (x : Int) (w : World) : Calls Try.prog 33 #[.int .u64 x] w (SlotsAre isFree x w) := by
  go_enter Try.func33, Try.ntmps33
  go_wp2_with (go_at_call 44; refine (slots_free _ _).mono ?_; rintro e w' ⟨a, c, rfl, hown, hb⟩)
  go_ret
  exact ⟨a, c, rfl, hown, hb⟩
theorem match_any (x b : Int) (w : World) : Calls Try.prog 34 #[.int .u64 x, .int .u8 b] w (SlotsAre (isByte b) x w) := by
  go_enter Try.func34, Try.ntmps34
  go_wp2_with (go_at_call 44; refine (slots_match _ b _ _ (by simp) (by simp)).mono ?_; rintro e w' ⟨a, c, rfl, hown, hb⟩)
  go_ret
  exact ⟨a, c, rfl, owns_down hown (by simp), ((Below.refl _ _).alloc (Nat.le_refl _) _).trans (hb.mono (by simp))⟩

theorem count_any (x : Int) (w : World) : Calls Try.prog 32 #[.int .u64 x] w fun e w' => e = .returned (.int .i64 (8 - (slotsI isFree x 8).length)) ∧ Below w.heap.size w w' := by
  have hl := slots_len isFree x 8
  go_enter Try.func32, Try.ntmps32
  go_wp2_with (go_at_call 33; refine (free_any _ _).mono ?_; rintro e w' ⟨a, c, rfl, hown, hb⟩)
  go_ret
  exact ⟨rfl, hb⟩
theorem hasEmpty_any (x : Int) (w : World) : Calls Try.prog 43 #[.int .u64 x] w fun e w' => e = .returned (.bool (decide (0 < (slotsI (isByte 128) x 8).length))) ∧ Below w.heap.size w w' := by
  have hl := slots_len (isByte 128) x 8
  go_enter Try.func43, Try.ntmps43
  go_wp2_with (go_at_call 34; refine (match_any _ _ _).mono ?_; rintro e w' ⟨a, c, rfl, hown, hb⟩)
  go_ret
  exact ⟨rfl, hb⟩

set_option maxHeartbeats 1000000 in
theorem clean_any (x : Int) (w : World) (x0 : 0 ≤ x) (x1 : x < 18446744073709551616) : Calls Try.prog 31 #[.int .u64 x] w fun e w' => e = .returned (.int .u64 (cleanI x)) ∧ Below w.heap.size w w' := by
  have hl := slots_len (isByte 254) x 8
  have HM := Lib.hid (slots_mem (isByte 254) x 8)
  generalize hB : w.heap.size = B
  have HB := Lib.hid hB
  go_enter Try.func31, Try.ntmps31
  go_wp2_with (go_at_call 34; refine (match_any _ _ _).mono ?_; rintro e w1 ⟨a, c, rfl, hown, hb⟩)
  rw [hB] at hown hb
  clear hB
  have HF : Hid (cleanI x = (slotsI (isByte 254) x 8).foldl (fun y i => putI y i 128) x) := rfl
  generalize hs : slotsI (isByte 254) x 8 = l at *
  have HR := Lib.hid (Reads.owns hown)
  clear hs
  go_loopw [0, 8] (fun y i wr => ∃ (k : Nat) (z : Int), k ≤ l.length ∧ i = .int .i64 k ∧ y = .int .u64 z ∧ Hid (z = (l.take k).foldl (fun y i => putI y i 128) x) ∧ 0 ≤ z ∧ z < 18446744073709551616 ∧ IsDrew w1 wr) (fun _ i _ => l.length - (intOf i).toNat)
  case atStart => exact ⟨0, x, by omega, rfl, rfl, rfl, x0, x1, IsDrew.refl _⟩
  case round =>
    obtain ⟨k, z, hk, rfl, rfl, hz, z0, z1, ⟨m, rfl⟩⟩ := hrel
    by_cases hlt : k < l.length
    · obtain ⟨q, hq⟩ : ∃ q, l[k]? = some q := ⟨l[k], List.getElem?_eq_getElem hlt⟩
      obtain ⟨a', c', ha', _, hcells⟩ := HR.out
      obtain ⟨b, off, hab, hcell⟩ := hcells k q hq
      simp only [Value.slice.injEq] at ha'
      obtain ⟨rfl, _, rfl⟩ := ha'
      subst hab
      have hcw : (w1.drewN m).cell? ⟨b, off + k, none⟩ = some (.int .i64 q) := hcell
      have HQ : Hid ((l.take (k + 1)).foldl (fun y i => putI y i 128) x = putI z q 128) := by
        unfold Hid; rw [List.take_add_one, hq, List.foldl_append, ← hz.out]; rfl
      obtain ⟨p0, p1⟩ := put_bd z q 128 z0 z1 (by omega) (by omega)
      clear hcells hq hcell
      go_wp2_with (go_at_call 24; refine (set_any _ _ _ _ (by omega) (by omega) (by omega) (by omega)).mono ?_; rintro e w' ⟨rfl, m2, rfl⟩)
      go_roundw
      case rel => exact ⟨k + 1, putI z q 128, by omega, by go_num, rfl, HQ.out.symm, p0, p1, by first | exact IsDrew.one _ _ | exact IsDrew.two _ _ _⟩
      case measure => simp [intOf]; omega
    · have HZ : Hid (z = cleanI x) := by
        unfold Hid; rw [HF.out]
        have := hz.out
        rwa [List.take_of_length_le (by omega)] at this
      go_wp2
      go_ret
      exact ⟨ret_int HZ.out, below_drewN hb m⟩
end Go.Proofs.Ytpmmfilodillmaa
