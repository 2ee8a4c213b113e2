/- CtrlBuilds: a word that is built slot for slot, in any order, is the same word. -/
import Derived.Test.YtpmmfilodillmaaCtrlArr
import Derived.Test.YtpmmfilodillmaaPlainB
namespace Go.Proofs.Ytpmmfilodillmaa
open Go.RowKit

def dOf (zs : List Int) (i : Nat) : Int := (zs[i]?).getD 128

set_option maxRecDepth 100000 in
set_option maxHeartbeats 4000000 in
theorem ctrlBuilds_walk (a : Option Addr) (len cap : Nat) (zs : List Int) (turn : Int) (w : World) (hr : Reads .u8 w (.slice a len cap) zs) (hz : ∀ z ∈ zs, 0 ≤ z ∧ z < 256) :
    Calls Try.prog 6 #[.slice a len cap, .int .i64 turn] w (TrueBelow w) := by
  obtain ⟨t0, t1⟩ := within_bd turn 0 7 (by omega)
  generalize ht : within turn 0 7 = t at *
  have HT := Lib.hid ht
  clear ht
  obtain ⟨a', c', he, hm, hcells⟩ := hr
  simp only [Value.slice.injEq] at he
  obtain ⟨rfl, rfl, rfl⟩ := he
  have HC := Lib.hid hcells
  unfold maxLen at hm
  clear hcells
  have hd : ∀ i, i < 8 → 0 ≤ dOf zs i ∧ dOf zs i < 256 := by
    intro i _
    unfold dOf
    cases h : zs[i]? with
    | none => simp
    | some z => exact hz z (List.mem_of_getElem? h)
  have HD := Lib.hid hd
  have X1 := Lib.hid (xsN_word _ hd)
  have Y1 := Lib.hid (ysN_word _ hd t t0 t1)
  clear hd hz
  go_enter Try.func6, Try.ntmps6
  go_wp2_with (go_at_call 27; refine (new_any _).mono ?_; rintro e w' ⟨rfl, rfl⟩)
  go_loopw [8] (fun i wr => ∃ (k : Nat) (f : Nat → Int), k ≤ 8 ∧ i = .int .i64 k ∧ Hid (∀ i, i < k → f i = dOf zs i) ∧ Hid (wr = w.alloc (.cells (arr f) 38))) (fun i _ => 8 - (intOf i).toNat)
  case atStart => exact ⟨0, fun _ => 0, by omega, rfl, fun i h => by omega, rfl⟩
  case round =>
    obtain ⟨k, f, hk, rfl, hf, hwr⟩ := hrel
    obtain rfl := hwr.out
    clear hwr
    by_cases hlt : k < 8
    · by_cases hl : k < zs.length
      · obtain ⟨q, hq⟩ : ∃ q, zs[k]? = some q := ⟨zs[k], List.getElem?_eq_getElem hl⟩
        obtain ⟨b, off, rfl, hcell⟩ := HC.out k q hq
        have hcl : ∀ O, (w.alloc O).cell? ⟨b, off + k, none⟩ = some (.int .u8 q) := fun O => (World.cell?_alloc_past _ _ _ (World.block_lt_of_cell? w _ hcell)).trans hcell
        have HF : Hid (∀ i, i < k + 1 → (fun i => if i = k then q else (fun i => if i = k then 128 else f i) i) i = dOf zs i) := by
          intro i hi
          by_cases e : i = k
          · subst e; simp [dOf, hq]
          · simp only [e, if_false]; exact hf.out i (by omega)
        have s1 := arr_set f k 128 hlt
        have s2 := arr_set (fun i => if i = k then 128 else f i) k q hlt
        have r1 := arr_at f k hlt
        have r2 := arr_at (fun i => if i = k then 128 else f i) k hlt
        clear hq hcell hf
        go_wp2
        go_roundw
        case rel => exact ⟨k + 1, _, by omega, by go_num, HF, rfl⟩
        case measure => simp [intOf]; omega
      · have HF : Hid (∀ i, i < k + 1 → (fun i => if i = k then 128 else f i) i = dOf zs i) := by
          intro i hi
          by_cases e : i = k
          · subst e; simp [dOf, List.getElem?_eq_none (show zs.length ≤ i by omega)]
          · simp only [e, if_false]; exact hf.out i (by omega)
        have s1 := arr_set f k 128 hlt
        have r1 := arr_at f k hlt
        clear hf
        go_wp2
        go_roundw
        case rel => exact ⟨k + 1, _, by omega, by go_num, HF, rfl⟩
        case measure => simp [intOf]; omega
    · obtain rfl : k = 8 := by omega
      have acc : Below w.heap.size w (w.alloc (.cells (arr f) 38)) := (Below.refl _ _).alloc (Nat.le_refl _) _
      have hcells : ∀ i, i < 8 → (w.alloc (.cells (arr f) 38)).cell? ⟨w.heap.size, i, none⟩ = some (.int .u8 (dOf zs i)) := by
        intro i hi; simp [arr_at f i hi, hf.out i hi]
      have HCL := Lib.hid hcells
      have HW : Hid (wordI f = wordI (dOf zs)) := word_congr _ _ hf.out
      have HFB : Hid (∀ i, i < 8 → 0 ≤ f i ∧ f i < 256) := fun i hi => by rw [hf.out i hi]; exact HD.out i hi
      clear hcells hf
      go_wp2_with (go_at_call 23; refine (within_any _ _ _ _ (by omega) (by omega) (by omega)).mono ?_; rintro e w' ⟨rfl, rfl⟩; rw [HT.out])
      generalize hw2 : w.alloc (.cells (arr f) 38) = w2 at *
      have hsz : w2.heap.size = w.heap.size + 1 := by rw [← hw2]; simp
      have hblk : Hid (w2.heap[w.heap.size]? = some (.cells (arr f) 38 (0, 0))) := by unfold Hid; rw [← hw2]; exact heap_alloc_new w _
      have HW2 := Lib.hid hw2
      clear hw2
      go_loopw [5, 6, 10] (fun x y i wr => ∃ (k : Nat) (p q : Int), k ≤ 8 ∧ i = .int .i64 k ∧ x = .int .u64 p ∧ y = .int .u64 q ∧ Hid (p = xsN (dOf zs) k) ∧ Hid (q = ysN (dOf zs) t k) ∧ IsDrew w2 wr) (fun _ _ i _ => 8 - (intOf i).toNat)
      case atStart => exact ⟨0, _, _, by omega, rfl, rfl, rfl, rfl, rfl, IsDrew.refl _⟩
      case round =>
        obtain ⟨k, p, q, hk, rfl, rfl, rfl, hp, hq, ⟨m, rfl⟩⟩ := hrel
        by_cases hlt : k < 8
        · obtain ⟨p0, p1⟩ := xsN_bd _ HD.out k (by omega)
          obtain ⟨q0, q1⟩ := ysN_bd _ HD.out t k
          rw [← hp.out] at p0 p1
          rw [← hq.out] at q0 q1
          have c1 := HCL.out k hlt
          have c2 := HCL.out (((k : Int) * 3 + t) % 8).toNat (by omega)
          obtain ⟨d0, d1⟩ := HD.out k hlt
          obtain ⟨e0, e1⟩ := HD.out (((k : Int) * 3 + t) % 8).toNat (by omega)
          have HP : Hid (putI p k (dOf zs k) = xsN (dOf zs) (k + 1)) := by unfold Hid; rw [xsN, hp.out]
          have HQ : Hid (putI q (((k : Int) * 3 + t) % 8) (dOf zs (((k : Int) * 3 + t) % 8).toNat) = ysN (dOf zs) t (k + 1)) := by unfold Hid; rw [ysN, hq.out]; rfl
          generalize hdk : dOf zs k = dk at *
          generalize hdj : dOf zs (((k : Int) * 3 + t) % 8).toNat = dj at *
          clear hdk hdj
          go_wp2_with (go_at_call 24; refine (set_any _ _ _ _ (by omega) (by omega) (by omega) (by omega)).mono ?_; rintro e w' ⟨rfl, m2, rfl⟩)
          go_roundw
          case rel => exact ⟨k + 1, _, _, by omega, by go_num, rfl, rfl, HP.out, HQ.out, ⟨_, rfl⟩⟩
          case measure => simp [intOf]; omega
        · obtain rfl : k = 8 := by omega
          have HPQ : Hid (p = q) := by unfold Hid; rw [hp.out, hq.out, X1.out, Y1.out]
          have HPW : Hid (wordI f = p) := by unfold Hid; rw [hp.out, X1.out, HW.out]
          obtain rfl := HW2.out
          unfold arr at acc ⊢
          replace acc := below_draws acc m
          obtain rfl := HPQ.out
          clear hblk HCL hsz hp hq
          go_wp2_with (first | (go_at_call 28; refine (word_any f _ HFB.out).mono ?_; rintro e w3 ⟨rfl, hb3⟩; rw [HPW.out]; replace acc := below_step acc hb3; clear hb3) | (go_at_call 26; refine (known7_any _).mono ?_; rintro e w1 ⟨rfl, hb1⟩; replace acc := below_step acc hb1; clear hb1))
          go_ret
          exact ⟨rfl, acc⟩
end Go.Proofs.Ytpmmfilodillmaa
