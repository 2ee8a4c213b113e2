/- tallboylaw8.sound: a table's groups, words and keys are as they must be. -/
import Derived.Test.YtkkijcnipjojoaaKey8
import Derived.Test.YtkkijcnipjojoaaAsks
namespace Go.Proofs.Ytkkijcnipjojoaa
open Go.RowKit

theorem pow_bools {G : Nat} (h : Pow G) :
    (((G : Int) != 1) = false) ∨ (((G : Int) != 1) = true ∧ ((G : Int) != 2) = false) ∨ (((G : Int) != 1) = true ∧ ((G : Int) != 2) = true ∧ ((G : Int) != 4) = false) ∨
    (((G : Int) != 1) = true ∧ ((G : Int) != 2) = true ∧ ((G : Int) != 4) = true ∧ ((G : Int) != 8) = false) ∨
    (((G : Int) != 1) = true ∧ ((G : Int) != 2) = true ∧ ((G : Int) != 4) = true ∧ ((G : Int) != 8) = true ∧ ((G : Int) != 16) = false) := by
  rcases h with rfl | rfl | rfl | rfl | rfl <;> simp

/-- What sound leans on. -/
structure SndI (w : World) (tb gb : Nat) (seed : Int) (S : Grps) (m : ByteArray → Option Int) (ks : List ByteArray) : Prop where
  tab : Tab w tb gb seed S m
  pow : Pow S.G
  card : Card m ks

theorem ReadsV.grown {w w' : World} {v : Value} {zs : List Value} (h : ReadsV w v zs) (hb : Below w.heap.size w w') : ReadsV w' v zs := by
  obtain ⟨a, c, h1, h2, h3⟩ := h
  refine ⟨a, c, h1, h2, fun i x hx => ?_⟩
  obtain ⟨b, off, e1, e2⟩ := h3 i x hx
  exact ⟨b, off, e1, by rw [hb.cell (p := ⟨b, _, none⟩) (block_of_cell e2), e2]⟩

theorem raw_byt (x : Int) (k : Nat) : x / 2 ^ (8 * k) % 256 = bytI x k := by
  unfold bytI
  rw [Int.pow_mul]
  rfl

theorem slots_le8 (p : Int → Bool) (x : Int) (k : Nat) (hk : k ≤ 8) : (slotsI p x k).length ≤ 8 := by have := slots_len p x k; omega

set_option maxRecDepth 100000 in
set_option maxHeartbeats 4000000 in
theorem sound8_any {tb gb : Nat} {seed : Int} {m : ByteArray → Option Int} {ks : List ByteArray} (w : World) (hT : TB w tb gb seed m) (hc : Card m ks) (v : Value) (hv : ReadsS w v ks) :
    Calls Try.prog 30 #[.pointer (some ⟨tb, 0, none⟩), v] w fun e w' => e = .returned (.bool true) ∧ Below w.heap.size w w' := by
  obtain ⟨S, hS, hP⟩ := hT
  have hn := (hS.good.count ks hc.1 hc.2).1
  have hsum := hS.sum
  rw [hn] at hsum
  have hG := hS.gle
  have hL : Hid (∀ W, Tab W tb gb seed S m → Calls Try.prog 19 #[.pointer (some ⟨tb, 0, none⟩)] W fun e w' => e = .returned (.int .i64 (ks.length : Nat)) ∧ W = w') := fun W hW => by
    have := len8_any hW.at'; rw [hn] at this; exact this
  have hK : Hid (∀ W, Tab W tb gb seed S m → Calls Try.prog 26 #[.pointer (some ⟨tb, 0, none⟩)] W fun e w' => ∃ v l, e = .returned v ∧ w'.ownsRow W.heap.size 9 1 v l.length (l.map Value.string) ∧ List.Perm l ks ∧ Below W.heap.size W w') := fun W hW => keys_tb W ⟨S, hW, hP⟩ hc
  have HN := Lib.hid hn
  have HB8 := Lib.hid hS.good.by8
  obtain ⟨al, c, rfl, hl, _⟩ := hv.len
  have HV := Lib.hid hv
  have hks : ks.length ≤ 448 := by omega
  clear hl hn hc hv
  have hq1 : decide (7 * (S.G : Int) < (ks.length : Int)) = false := by simp; omega
  rcases pow_bools hP with g1 | ⟨g1, g2⟩ | ⟨g1, g2, g3⟩ | ⟨g1, g2, g3, g4⟩ | ⟨g1, g2, g3, g4, g5⟩
  all_goals
    go_enter Try.func30, Try.ntmps30
    go_wp2_with (first | (go_at_call 21; refine (groups8_any hS.at').mono ?_; rintro e w1 ⟨rfl, rfl⟩) | (go_at_call 64; refine (words_any _ hS).mono ?_; rintro e w1 ⟨vw, rfl, ow, bw⟩; have hS1 := hS.later bw; have hV1 := HV.out.grown bw; obtain ⟨aw, cw, rfl⟩ := owns_slice ow) | (go_at_call 19; (with_reducible refine (hL.out _ hS1).mono ?_); rintro e w2 ⟨rfl, rfl⟩) | (go_at_call 26; refine (hK.out _ hS1).mono ?_; rintro e w3 ⟨vk, lk, rfl, ok, pk, bk⟩; have hS3 := hS1.later bk; have hV3 := hV1.grown bk; have ow3 := owns_later ow bk) | (go_at_call 25; refine (bag_yes _ vk _ lk ks (ReadsV.owns ok) hV3 pk).mono ?_; rintro e w4 ⟨rfl, n4, rfl⟩; have hS4 := hS3.later ((IsDrew.one w3 n4).below _); have ow4 := owns_later ow3 ((IsDrew.one w3 n4).below _)) | (go_at_call 19; (with_reducible refine (hL.out _ hS4).mono ?_); rintro e w2 ⟨rfl, rfl⟩))
    have hb4 : Below w.heap.size w (w3.drewN n4) := below_drewN (bw.trans (bk.mono bw.size)) n4
    clear hS1 hV1 hS3 hV3 ow ow3 ok pk bw bk
    generalize w3.drewN n4 = w4 at *
    obtain ⟨aw', cw', e1, _, hcells⟩ := ReadsV.owns ow4
    have HW : Hid (∀ g, g < S.G → ∃ b off, aw = some ⟨b, off, none⟩ ∧ w4.cell? ⟨b, off + g, none⟩ = some (.int .u64 (S.w g))) := fun g hg => by
      simp only [Value.slice.injEq] at e1
      obtain ⟨rfl, _, rfl⟩ := e1
      exact hcells g _ (by simp [wordsL, hg])
    clear hcells e1 ow4
    go_loop [7, 8, 9] (fun f d i => ∃ g : Nat, g ≤ S.G ∧ i = .int .i64 g ∧ f = .int .i64 (cnt isFull S.w g : Nat) ∧ d = .int .i64 (cnt (isByte 254) S.w g : Nat)) (fun _ _ i => S.G - (intOf i).toNat)
    case atStart => exact ⟨0, by omega, rfl, rfl, rfl⟩
    case round =>
      obtain ⟨g, hg, rfl, rfl, rfl⟩ := hrel
      by_cases hlt : g < S.G
      · have k1 := cnt_le isFull S.w g
        have k2 := cnt_le (isByte 254) S.w g
        obtain ⟨b, off, hab, hcell⟩ := HW.out g hlt
        subst hab
        go_wp2
        go_loop [7, 8, 10] (fun f d i => ∃ k : Nat, k ≤ 8 ∧ i = .int .i64 k ∧ f = .int .i64 ((cnt isFull S.w g + (slotsI isFull (S.w g) k).length : Nat) : Int) ∧ d = .int .i64 ((cnt (isByte 254) S.w g + (slotsI (isByte 254) (S.w g) k).length : Nat) : Int)) (fun _ _ i => 8 - (intOf i).toNat)
        case atStart => exact ⟨0, by omega, rfl, rfl, rfl⟩
        case round =>
          obtain ⟨k, hk, rfl, rfl, rfl⟩ := hrel
          by_cases hk8 : k < 8
          · have l1 := slots_len isFull (S.w g) k
            have l2 := slots_len (isByte 254) (S.w g) k
            have hr := raw_byt (S.w g) k
            rcases HB8.out g k hlt hk8 with hz | hz | hz
            · have y1 := slots_yes isFull (S.w g) k (by simp [isFull]; omega)
              have y2 := slots_no (isByte 254) (S.w g) k (by simp [isByte]; omega)
              have q1 : S.w g / 2 ^ (8 * k) % 256 < 128 := by omega
              have Y1 := Lib.hid y1
              have Y2 := Lib.hid y2
              clear y1 y2 hr hz
              go_wp2
              exact ⟨⟨k + 1, by omega, by go_num, by rw [Y1.out, List.length_append, List.length_singleton]; congr 1, by rw [Y2.out]⟩, by simp [intOf]; omega⟩
            · have y1 := slots_no isFull (S.w g) k (by simp [isFull]; omega)
              have y2 := slots_no (isByte 254) (S.w g) k (by simp [isByte]; omega)
              have q1 : 128 ≤ S.w g / 2 ^ (8 * k) % 256 := by omega
              have q2 : (S.w g / 2 ^ (8 * k) % 256 == 254) = false := by simp; omega
              have q3 : (S.w g / 2 ^ (8 * k) % 256 != 128) = false := by simp; omega
              have Y1 := Lib.hid y1
              have Y2 := Lib.hid y2
              clear y1 y2 hr hz
              go_wp2
              exact ⟨⟨k + 1, by omega, by go_num, by rw [Y1.out], by rw [Y2.out]⟩, by simp [intOf]; omega⟩
            · have y1 := slots_no isFull (S.w g) k (by simp [isFull]; omega)
              have y2 := slots_yes (isByte 254) (S.w g) k (by simp [isByte]; omega)
              have q1 : 128 ≤ S.w g / 2 ^ (8 * k) % 256 := by omega
              have q2 : (S.w g / 2 ^ (8 * k) % 256 == 254) = true := by simp; omega
              have Y1 := Lib.hid y1
              have Y2 := Lib.hid y2
              clear y1 y2 hr hz
              go_wp2
              exact ⟨⟨k + 1, by omega, by go_num, by rw [Y1.out], by rw [Y2.out, List.length_append, List.length_singleton]; congr 1⟩, by simp [intOf]; omega⟩
          · obtain rfl : k = 8 := by omega
            clear hk8 hk
            go_wp2
            exact ⟨⟨g + 1, by omega, by go_num, rfl, rfl⟩, by simp [intOf]; omega⟩
      · obtain rfl : g = S.G := by omega
        clear hlt hg HW HB8
        rw [HN.out]
        generalize hcm : cnt (isByte 254) S.w S.G = cm at *
        have HM : Hid (Calls Try.prog 20 #[.pointer (some ⟨tb, 0, none⟩)] w4 fun e w' => e = .returned (.int .i64 (cm : Nat)) ∧ w4 = w') := by
          have := marks8_any hS4.at'; rw [hcm] at this; exact this
        have hq2 : decide ((ks.length : Int) + (cm : Int) ≤ 7 * (S.G : Int)) = true := by simp; omega
        have HS4 := Lib.hid (hL.out _ hS4)
        clear hcm hS4 hS hP
        go_wp2_with (first | (go_at_call 19; refine HS4.out.mono ?_; rintro e w5 ⟨rfl, rfl⟩) | (go_at_call 20; refine HM.out.mono ?_; rintro e w5 ⟨rfl, rfl⟩))
        go_ret
        exact ⟨rfl, hb4⟩
end Go.Proofs.Ytkkijcnipjojoaa
