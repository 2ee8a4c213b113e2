/- The contract of tallboylaw7.same: all that is told of a word is what its bytes say. -/
import Derived.Test.YtpmmfilodillmaaSameInv
import Derived.Deep.RegionHeld3
namespace Go.Proofs.Ytpmmfilodillmaa
open Go.RowKit

theorem info_arr : (Try.prog.info? 38).map (·.size) = some 8 := by kernel_rfl

theorem new_cell (w : World) (v : Value) (t : TypeId) : ∀ (j : Nat) (u : Value), [v][j]? = some u → (w.alloc (.cells #[v] t)).cell? ((⟨w.heap.size, 0, none⟩ : Addr).add j) = some u := by
  intro q u hq
  match q, hq with
  | 0, hq => simp at hq; subst hq; simp [Addr.add]
theorem one_cell {k : IntKind} {n : Int} : ∀ u ∈ [Value.int k n], u.oneCell' = true := by intro u hu; simp at hu; subst hu; rfl

theorem arr_lit (f : Nat → Int) : #[Value.int .u8 (f 0), .int .u8 (f 1), .int .u8 (f 2), .int .u8 (f 3), .int .u8 (f 4), .int .u8 (f 5), .int .u8 (f 6), .int .u8 (f 7)] = arr f := rfl
theorem SInv.cellsB {x : Int} {gb : Nat} {w wr : World} {vm vf : Value} {lm lf : List Int} {f : Nat → Int} (h : SInv x gb w wr vm vf lm lf f) :
    wr.cell? ⟨gb, 0, none⟩ = some (.int .u8 (bytI x 0)) ∧ wr.cell? ⟨gb, 1, none⟩ = some (.int .u8 (bytI x 1)) ∧ wr.cell? ⟨gb, 2, none⟩ = some (.int .u8 (bytI x 2)) ∧ wr.cell? ⟨gb, 3, none⟩ = some (.int .u8 (bytI x 3)) ∧
    wr.cell? ⟨gb, 4, none⟩ = some (.int .u8 (bytI x 4)) ∧ wr.cell? ⟨gb, 5, none⟩ = some (.int .u8 (bytI x 5)) ∧ wr.cell? ⟨gb, 6, none⟩ = some (.int .u8 (bytI x 6)) ∧ wr.cell? ⟨gb, 7, none⟩ = some (.int .u8 (bytI x 7)) :=
  ⟨h.cellB 0 (by omega), h.cellB 1 (by omega), h.cellB 2 (by omega), h.cellB 3 (by omega), h.cellB 4 (by omega), h.cellB 5 (by omega), h.cellB 6 (by omega), h.cellB 7 (by omega)⟩

set_option maxRecDepth 100000 in
set_option maxHeartbeats 60000000 in
theorem same7_any (x i c : Int) (w : World) (x0 : 0 ≤ x) (x1 : x < 18446744073709551616) (c0 : 0 ≤ c) (c1 : c < 256) :
    Calls Try.prog 29 #[.int .u64 x, .int .i64 i, .int .u8 c] w (TrueBelow w) := by
  obtain ⟨i0, hi, hz0, hz1, hz2⟩ := info_parts info_int
  go_enter Try.func29, Try.ntmps29
  go_wp2_with (go_at_call 30; refine (bytes_any _ _).mono ?_; rintro e w1 ⟨rfl, hb1⟩; unfold arr)
  have hinv0 : SInv x w1.heap.size w ((w1.alloc (.cells (arr (bytI x)) 38)).alloc (.cells (arr (bytI x)) 38)) (.slice none 0 0) (.slice none 0 0) [] [] (bytI x) :=
    ⟨by simp, heap_alloc2_old _ _ _, heap_alloc2_new _ _ _, World.ownsRow_nil _ _ _ _, World.ownsRow_nil _ _ _ _, .inl rfl, hb1.size, (hb1.alloc hb1.size _).alloc (by have := hb1.size; simp; omega) _⟩
  generalize hgb : w1.heap.size = gb at *
  clear hgb hb1
  go_loopw [8, 9, 10, 11, 13] (fun vm vf em n j wr => ∃ (k : Nat) (eb : Bool) (f : Nat → Int), k ≤ 8 ∧ j = .int .i64 k ∧ em = .bool eb ∧ n = .int .i64 ((k : Int) - (slotsI isFree x k).length) ∧
      Hid (eb = decide (0 < (slotsI (isByte 128) x k).length)) ∧ SInv x gb w wr vm vf (slotsI (isByte c) x k) (slotsI isFree x k) f ∧ Hid (∀ i, i < 8 → f i = if i < k then cleanB x i else bytI x i)) (fun _ _ _ _ j _ => 8 - (intOf j).toNat)
  case atStart => exact ⟨0, false, bytI x, by omega, rfl, rfl, rfl, rfl, hinv0, fun i _ => by simp⟩
  case round =>
    clear hinv0
    obtain ⟨k, eb, f, hk, rfl, rfl, rfl, heb, hinv, hf⟩ := hrel
    by_cases hlt : k < 8
    · have hl := slots_len isFree x k
      have hl2 := slots_len (isByte c) x k
      have b1 := hinv.cellB k hlt
      obtain ⟨z0, z1⟩ := byt_bd x k
      have SM1 := Lib.hid fun h => slots_yes (isByte c) x k h
      have SM0 := Lib.hid fun h => slots_no (isByte c) x k h
      have SF1 := Lib.hid fun h => slots_yes isFree x k h
      have SF0 := Lib.hid fun h => slots_no isFree x k h
      have SE1 := Lib.hid fun h => slots_yes (isByte 128) x k h
      have SE0 := Lib.hid fun h => slots_no (isByte 128) x k h
      have HCB : Hid (cleanB x k = if bytI x k = 254 then 128 else bytI x k) := rfl
      generalize hz : bytI x k = z at *
      have HZ := Lib.hid hz
      clear hz
      -- WAYS
      by_cases hzc : z = c
      · have ec : (z == c) = true := by simp [hzc]
        have HM := Lib.hid (SM1.out (by simp [isByte, hzc]))
        clear hzc SM1 SM0
        by_cases q1 : z < 128
        · have e1 : decide ((128 : Int) ≤ z) = false := by simp; omega
          have e2 : (z == 128) = false := by simp; omega
          have e3 : (z == 254) = false := by simp; omega
          have HF := Lib.hid (SF0.out (by simp [isFree]; omega))
          have HFL : Hid ((slotsI isFree x (k + 1)).length = (slotsI isFree x k).length) := by unfold Hid; rw [HF.out]
          have HE := Lib.hid (SE0.out (by simp [isByte]; omega))
          have HFF : Hid (∀ i, i < 8 → f i = if i < k + 1 then cleanB x i else bytI x i) := fun i hi => by
            by_cases e : i = k
            · subst e; rw [hf.out i hi, if_neg (by omega), if_pos (by omega), HCB.out, if_neg (by omega), HZ.out]
            · rw [hf.out i hi]; by_cases e4 : i < k
              · rw [if_pos e4, if_pos (by omega)]
              · rw [if_neg e4, if_neg (by omega)]
          cases eb
          · have HEB : Hid (false = decide (0 < (slotsI (isByte 128) x (k + 1)).length)) := by unfold Hid; rw [HE.out]; exact heb.out
            clear SF1 SF0 SE1 SE0 heb hf HCB q1
            go_wp2_with (first | (at_builtin; refine wpList_append_moved _ rfl (.tmp 28) (.tmp 30) 45 rfl (gb + 2) 3 i0 (.int .i64 0) 1 8 Try.underlying45 hi hz0 hz1 hz2 rfl (by decide) _ _ _ rfl (hinv.om.alloc _) ⟨_, 0, none⟩ 1 1 [.int .i64 (k : Int)] rfl rfl (new_cell _ _ _) one_cell (by omega) (by unfold maxLen; omega) (by omega) (by have := hinv.size; simp; omega) ?_; intro vM wM hoM hgM hmM; replace hinv := hinv.appM _ (k : Int) hoM hgM hmM; rw [← HM.out] at hinv; clear hoM hgM hmM; replace b1 := (by have := hinv.cellB k hlt; rw [HZ.out] at this; exact this)))
            go_roundw
            case rel => exact ⟨k + 1, false, f, by omega, by go_num, rfl, by rw [HFL.out]; congr 1; omega, HEB, by rw [HF.out]; exact hinv, HFF⟩
            case measure => simp [intOf]; omega
          · have HEB : Hid (true = decide (0 < (slotsI (isByte 128) x (k + 1)).length)) := by unfold Hid; rw [HE.out]; exact heb.out
            clear SF1 SF0 SE1 SE0 heb hf HCB q1
            go_wp2_with (first | (at_builtin; refine wpList_append_moved _ rfl (.tmp 28) (.tmp 30) 45 rfl (gb + 2) 3 i0 (.int .i64 0) 1 8 Try.underlying45 hi hz0 hz1 hz2 rfl (by decide) _ _ _ rfl (hinv.om.alloc _) ⟨_, 0, none⟩ 1 1 [.int .i64 (k : Int)] rfl rfl (new_cell _ _ _) one_cell (by omega) (by unfold maxLen; omega) (by omega) (by have := hinv.size; simp; omega) ?_; intro vM wM hoM hgM hmM; replace hinv := hinv.appM _ (k : Int) hoM hgM hmM; rw [← HM.out] at hinv; clear hoM hgM hmM; replace b1 := (by have := hinv.cellB k hlt; rw [HZ.out] at this; exact this)))
            go_roundw
            case rel => exact ⟨k + 1, true, f, by omega, by go_num, rfl, by rw [HFL.out]; congr 1; omega, HEB, by rw [HF.out]; exact hinv, HFF⟩
            case measure => simp [intOf]; omega
        by_cases q2 : z = 128
        · have e1 : decide ((128 : Int) ≤ z) = true := by simp; omega
          have e2 : (z == 128) = true := by simp; omega
          have e3 : (z == 254) = false := by simp; omega
          have HF := Lib.hid (SF1.out (by simp [isFree]; omega))
          have HFL : Hid ((slotsI isFree x (k + 1)).length = (slotsI isFree x k).length + 1) := by unfold Hid; rw [HF.out]; simp
          have HE := Lib.hid (SE1.out (by simp [isByte]; omega))
          have HFF : Hid (∀ i, i < 8 → f i = if i < k + 1 then cleanB x i else bytI x i) := fun i hi => by
            by_cases e : i = k
            · subst e; rw [hf.out i hi, if_neg (by omega), if_pos (by omega), HCB.out, if_neg (by omega), HZ.out]
            · rw [hf.out i hi]; by_cases e4 : i < k
              · rw [if_pos e4, if_pos (by omega)]
              · rw [if_neg e4, if_neg (by omega)]
          cases eb
          · have HEB : Hid (true = decide (0 < (slotsI (isByte 128) x (k + 1)).length)) := by unfold Hid; rw [HE.out]; simp
            clear SF1 SF0 SE1 SE0 heb hf HCB q1 q2
            go_wp2_with (first | (at_builtin; refine wpList_append_moved _ rfl (.tmp 28) (.tmp 30) 45 rfl (gb + 2) 3 i0 (.int .i64 0) 1 8 Try.underlying45 hi hz0 hz1 hz2 rfl (by decide) _ _ _ rfl (hinv.om.alloc _) ⟨_, 0, none⟩ 1 1 [.int .i64 (k : Int)] rfl rfl (new_cell _ _ _) one_cell (by omega) (by unfold maxLen; omega) (by omega) (by have := hinv.size; simp; omega) ?_; intro vM wM hoM hgM hmM; replace hinv := hinv.appM _ (k : Int) hoM hgM hmM; rw [← HM.out] at hinv; clear hoM hgM hmM; replace b1 := (by have := hinv.cellB k hlt; rw [HZ.out] at this; exact this)) | (at_builtin; refine wpList_append_moved _ rfl (.tmp 36) (.tmp 38) 45 rfl (gb + 2) 3 i0 (.int .i64 0) 1 8 Try.underlying45 hi hz0 hz1 hz2 rfl (by decide) _ _ _ rfl (hinv.of.alloc _) ⟨_, 0, none⟩ 1 1 [.int .i64 (k : Int)] rfl rfl (new_cell _ _ _) one_cell (by omega) (by unfold maxLen; omega) (by omega) (by have := hinv.size; simp; omega) ?_; intro vF wF hoF hgF hmF; replace hinv := hinv.appF _ (k : Int) hoF hgF hmF; rw [← HF.out] at hinv; clear hoF hgF hmF; replace b1 := (by have := hinv.cellB k hlt; rw [HZ.out] at this; exact this)))
            go_roundw
            case rel => exact ⟨k + 1, true, f, by omega, by go_num, rfl, by rw [HFL.out]; congr 1; omega, HEB, hinv, HFF⟩
            case measure => simp [intOf]; omega
          · have HEB : Hid (true = decide (0 < (slotsI (isByte 128) x (k + 1)).length)) := by unfold Hid; rw [HE.out]; simp
            clear SF1 SF0 SE1 SE0 heb hf HCB q1 q2
            go_wp2_with (first | (at_builtin; refine wpList_append_moved _ rfl (.tmp 28) (.tmp 30) 45 rfl (gb + 2) 3 i0 (.int .i64 0) 1 8 Try.underlying45 hi hz0 hz1 hz2 rfl (by decide) _ _ _ rfl (hinv.om.alloc _) ⟨_, 0, none⟩ 1 1 [.int .i64 (k : Int)] rfl rfl (new_cell _ _ _) one_cell (by omega) (by unfold maxLen; omega) (by omega) (by have := hinv.size; simp; omega) ?_; intro vM wM hoM hgM hmM; replace hinv := hinv.appM _ (k : Int) hoM hgM hmM; rw [← HM.out] at hinv; clear hoM hgM hmM; replace b1 := (by have := hinv.cellB k hlt; rw [HZ.out] at this; exact this)) | (at_builtin; refine wpList_append_moved _ rfl (.tmp 36) (.tmp 38) 45 rfl (gb + 2) 3 i0 (.int .i64 0) 1 8 Try.underlying45 hi hz0 hz1 hz2 rfl (by decide) _ _ _ rfl (hinv.of.alloc _) ⟨_, 0, none⟩ 1 1 [.int .i64 (k : Int)] rfl rfl (new_cell _ _ _) one_cell (by omega) (by unfold maxLen; omega) (by omega) (by have := hinv.size; simp; omega) ?_; intro vF wF hoF hgF hmF; replace hinv := hinv.appF _ (k : Int) hoF hgF hmF; rw [← HF.out] at hinv; clear hoF hgF hmF; replace b1 := (by have := hinv.cellB k hlt; rw [HZ.out] at this; exact this)))
            go_roundw
            case rel => exact ⟨k + 1, true, f, by omega, by go_num, rfl, by rw [HFL.out]; congr 1; omega, HEB, hinv, HFF⟩
            case measure => simp [intOf]; omega
        by_cases q3 : z = 254
        · have e1 : decide ((128 : Int) ≤ z) = true := by simp; omega
          have e2 : (z == 128) = false := by simp; omega
          have e3 : (z == 254) = true := by simp; omega
          have HF := Lib.hid (SF1.out (by simp [isFree]; omega))
          have HFL : Hid ((slotsI isFree x (k + 1)).length = (slotsI isFree x k).length + 1) := by unfold Hid; rw [HF.out]; simp
          have HE := Lib.hid (SE0.out (by simp [isByte]; omega))
          have HFF : Hid (∀ i, i < 8 → (fun i => if i = k then 128 else f i) i = if i < k + 1 then cleanB x i else bytI x i) := fun i hi => by
            by_cases e : i = k
            · subst e; show (if i = i then (128 : Int) else f i) = _; rw [if_pos rfl, if_pos (by omega), HCB.out, if_pos (by omega)]
            · show (if i = k then (128 : Int) else f i) = _; rw [if_neg e, hf.out i hi]; by_cases e4 : i < k
              · rw [if_pos e4, if_pos (by omega)]
              · rw [if_neg e4, if_neg (by omega)]
          have b2 := hinv.cellC k hlt
          have b3 := hinv.frozenC k
          cases eb
          · have HEB : Hid (false = decide (0 < (slotsI (isByte 128) x (k + 1)).length)) := by unfold Hid; rw [HE.out]; exact heb.out
            clear SF1 SF0 SE1 SE0 heb hf HCB q1 q2 q3
            go_wp2_with (first | (at_builtin; refine wpList_append_moved _ rfl (.tmp 28) (.tmp 30) 45 rfl (gb + 2) 3 i0 (.int .i64 0) 1 8 Try.underlying45 hi hz0 hz1 hz2 rfl (by decide) _ _ _ rfl (hinv.om.alloc _) ⟨_, 0, none⟩ 1 1 [.int .i64 (k : Int)] rfl rfl (new_cell _ _ _) one_cell (by omega) (by unfold maxLen; omega) (by omega) (by have := hinv.size; simp; omega) ?_; intro vM wM hoM hgM hmM; replace hinv := hinv.appM _ (k : Int) hoM hgM hmM; rw [← HM.out] at hinv; clear hoM hgM hmM; replace b1 := (by have := hinv.cellB k hlt; rw [HZ.out] at this; exact this); replace b2 := hinv.cellC k hlt; replace b3 := hinv.frozenC k) | (at_builtin; refine wpList_append_moved _ rfl (.tmp 36) (.tmp 38) 45 rfl (gb + 2) 3 i0 (.int .i64 0) 1 8 Try.underlying45 hi hz0 hz1 hz2 rfl (by decide) _ _ _ rfl (hinv.of.alloc _) ⟨_, 0, none⟩ 1 1 [.int .i64 (k : Int)] rfl rfl (new_cell _ _ _) one_cell (by omega) (by unfold maxLen; omega) (by omega) (by have := hinv.size; simp; omega) ?_; intro vF wF hoF hgF hmF; replace hinv := hinv.appF _ (k : Int) hoF hgF hmF; rw [← HF.out] at hinv; clear hoF hgF hmF; replace b1 := (by have := hinv.cellB k hlt; rw [HZ.out] at this; exact this); replace b2 := hinv.cellC k hlt; replace b3 := hinv.frozenC k))
            go_roundw
            case rel => exact ⟨k + 1, false, (fun i => if i = k then 128 else f i), by omega, by go_num, rfl, by rw [HFL.out]; congr 1; omega, HEB, (hinv.store k hlt 128), HFF⟩
            case measure => simp [intOf]; omega
          · have HEB : Hid (true = decide (0 < (slotsI (isByte 128) x (k + 1)).length)) := by unfold Hid; rw [HE.out]; exact heb.out
            clear SF1 SF0 SE1 SE0 heb hf HCB q1 q2 q3
            go_wp2_with (first | (at_builtin; refine wpList_append_moved _ rfl (.tmp 28) (.tmp 30) 45 rfl (gb + 2) 3 i0 (.int .i64 0) 1 8 Try.underlying45 hi hz0 hz1 hz2 rfl (by decide) _ _ _ rfl (hinv.om.alloc _) ⟨_, 0, none⟩ 1 1 [.int .i64 (k : Int)] rfl rfl (new_cell _ _ _) one_cell (by omega) (by unfold maxLen; omega) (by omega) (by have := hinv.size; simp; omega) ?_; intro vM wM hoM hgM hmM; replace hinv := hinv.appM _ (k : Int) hoM hgM hmM; rw [← HM.out] at hinv; clear hoM hgM hmM; replace b1 := (by have := hinv.cellB k hlt; rw [HZ.out] at this; exact this); replace b2 := hinv.cellC k hlt; replace b3 := hinv.frozenC k) | (at_builtin; refine wpList_append_moved _ rfl (.tmp 36) (.tmp 38) 45 rfl (gb + 2) 3 i0 (.int .i64 0) 1 8 Try.underlying45 hi hz0 hz1 hz2 rfl (by decide) _ _ _ rfl (hinv.of.alloc _) ⟨_, 0, none⟩ 1 1 [.int .i64 (k : Int)] rfl rfl (new_cell _ _ _) one_cell (by omega) (by unfold maxLen; omega) (by omega) (by have := hinv.size; simp; omega) ?_; intro vF wF hoF hgF hmF; replace hinv := hinv.appF _ (k : Int) hoF hgF hmF; rw [← HF.out] at hinv; clear hoF hgF hmF; replace b1 := (by have := hinv.cellB k hlt; rw [HZ.out] at this; exact this); replace b2 := hinv.cellC k hlt; replace b3 := hinv.frozenC k))
            go_roundw
            case rel => exact ⟨k + 1, true, (fun i => if i = k then 128 else f i), by omega, by go_num, rfl, by rw [HFL.out]; congr 1; omega, HEB, (hinv.store k hlt 128), HFF⟩
            case measure => simp [intOf]; omega
        · have e1 : decide ((128 : Int) ≤ z) = true := by simp; omega
          have e2 : (z == 128) = false := by simp; omega
          have e3 : (z == 254) = false := by simp; omega
          have HF := Lib.hid (SF1.out (by simp [isFree]; omega))
          have HFL : Hid ((slotsI isFree x (k + 1)).length = (slotsI isFree x k).length + 1) := by unfold Hid; rw [HF.out]; simp
          have HE := Lib.hid (SE0.out (by simp [isByte]; omega))
          have HFF : Hid (∀ i, i < 8 → f i = if i < k + 1 then cleanB x i else bytI x i) := fun i hi => by
            by_cases e : i = k
            · subst e; rw [hf.out i hi, if_neg (by omega), if_pos (by omega), HCB.out, if_neg (by omega), HZ.out]
            · rw [hf.out i hi]; by_cases e4 : i < k
              · rw [if_pos e4, if_pos (by omega)]
              · rw [if_neg e4, if_neg (by omega)]
          cases eb
          · have HEB : Hid (false = decide (0 < (slotsI (isByte 128) x (k + 1)).length)) := by unfold Hid; rw [HE.out]; exact heb.out
            clear SF1 SF0 SE1 SE0 heb hf HCB q1 q2 q3
            go_wp2_with (first | (at_builtin; refine wpList_append_moved _ rfl (.tmp 28) (.tmp 30) 45 rfl (gb + 2) 3 i0 (.int .i64 0) 1 8 Try.underlying45 hi hz0 hz1 hz2 rfl (by decide) _ _ _ rfl (hinv.om.alloc _) ⟨_, 0, none⟩ 1 1 [.int .i64 (k : Int)] rfl rfl (new_cell _ _ _) one_cell (by omega) (by unfold maxLen; omega) (by omega) (by have := hinv.size; simp; omega) ?_; intro vM wM hoM hgM hmM; replace hinv := hinv.appM _ (k : Int) hoM hgM hmM; rw [← HM.out] at hinv; clear hoM hgM hmM; replace b1 := (by have := hinv.cellB k hlt; rw [HZ.out] at this; exact this)) | (at_builtin; refine wpList_append_moved _ rfl (.tmp 36) (.tmp 38) 45 rfl (gb + 2) 3 i0 (.int .i64 0) 1 8 Try.underlying45 hi hz0 hz1 hz2 rfl (by decide) _ _ _ rfl (hinv.of.alloc _) ⟨_, 0, none⟩ 1 1 [.int .i64 (k : Int)] rfl rfl (new_cell _ _ _) one_cell (by omega) (by unfold maxLen; omega) (by omega) (by have := hinv.size; simp; omega) ?_; intro vF wF hoF hgF hmF; replace hinv := hinv.appF _ (k : Int) hoF hgF hmF; rw [← HF.out] at hinv; clear hoF hgF hmF; replace b1 := (by have := hinv.cellB k hlt; rw [HZ.out] at this; exact this)))
            go_roundw
            case rel => exact ⟨k + 1, false, f, by omega, by go_num, rfl, by rw [HFL.out]; congr 1; omega, HEB, hinv, HFF⟩
            case measure => simp [intOf]; omega
          · have HEB : Hid (true = decide (0 < (slotsI (isByte 128) x (k + 1)).length)) := by unfold Hid; rw [HE.out]; exact heb.out
            clear SF1 SF0 SE1 SE0 heb hf HCB q1 q2 q3
            go_wp2_with (first | (at_builtin; refine wpList_append_moved _ rfl (.tmp 28) (.tmp 30) 45 rfl (gb + 2) 3 i0 (.int .i64 0) 1 8 Try.underlying45 hi hz0 hz1 hz2 rfl (by decide) _ _ _ rfl (hinv.om.alloc _) ⟨_, 0, none⟩ 1 1 [.int .i64 (k : Int)] rfl rfl (new_cell _ _ _) one_cell (by omega) (by unfold maxLen; omega) (by omega) (by have := hinv.size; simp; omega) ?_; intro vM wM hoM hgM hmM; replace hinv := hinv.appM _ (k : Int) hoM hgM hmM; rw [← HM.out] at hinv; clear hoM hgM hmM; replace b1 := (by have := hinv.cellB k hlt; rw [HZ.out] at this; exact this)) | (at_builtin; refine wpList_append_moved _ rfl (.tmp 36) (.tmp 38) 45 rfl (gb + 2) 3 i0 (.int .i64 0) 1 8 Try.underlying45 hi hz0 hz1 hz2 rfl (by decide) _ _ _ rfl (hinv.of.alloc _) ⟨_, 0, none⟩ 1 1 [.int .i64 (k : Int)] rfl rfl (new_cell _ _ _) one_cell (by omega) (by unfold maxLen; omega) (by omega) (by have := hinv.size; simp; omega) ?_; intro vF wF hoF hgF hmF; replace hinv := hinv.appF _ (k : Int) hoF hgF hmF; rw [← HF.out] at hinv; clear hoF hgF hmF; replace b1 := (by have := hinv.cellB k hlt; rw [HZ.out] at this; exact this)))
            go_roundw
            case rel => exact ⟨k + 1, true, f, by omega, by go_num, rfl, by rw [HFL.out]; congr 1; omega, HEB, hinv, HFF⟩
            case measure => simp [intOf]; omega
      · have ec : (z == c) = false := by simp [hzc]
        have HM := Lib.hid (SM0.out (by simp [isByte, hzc]))
        clear hzc SM1 SM0
        by_cases q1 : z < 128
        · have e1 : decide ((128 : Int) ≤ z) = false := by simp; omega
          have e2 : (z == 128) = false := by simp; omega
          have e3 : (z == 254) = false := by simp; omega
          have HF := Lib.hid (SF0.out (by simp [isFree]; omega))
          have HFL : Hid ((slotsI isFree x (k + 1)).length = (slotsI isFree x k).length) := by unfold Hid; rw [HF.out]
          have HE := Lib.hid (SE0.out (by simp [isByte]; omega))
          have HFF : Hid (∀ i, i < 8 → f i = if i < k + 1 then cleanB x i else bytI x i) := fun i hi => by
            by_cases e : i = k
            · subst e; rw [hf.out i hi, if_neg (by omega), if_pos (by omega), HCB.out, if_neg (by omega), HZ.out]
            · rw [hf.out i hi]; by_cases e4 : i < k
              · rw [if_pos e4, if_pos (by omega)]
              · rw [if_neg e4, if_neg (by omega)]
          cases eb
          · have HEB : Hid (false = decide (0 < (slotsI (isByte 128) x (k + 1)).length)) := by unfold Hid; rw [HE.out]; exact heb.out
            clear SF1 SF0 SE1 SE0 heb hf HCB q1
            go_wp2
            go_roundw
            case rel => exact ⟨k + 1, false, f, by omega, by go_num, rfl, by rw [HFL.out]; congr 1; omega, HEB, by rw [HM.out, HF.out]; exact hinv, HFF⟩
            case measure => simp [intOf]; omega
          · have HEB : Hid (true = decide (0 < (slotsI (isByte 128) x (k + 1)).length)) := by unfold Hid; rw [HE.out]; exact heb.out
            clear SF1 SF0 SE1 SE0 heb hf HCB q1
            go_wp2
            go_roundw
            case rel => exact ⟨k + 1, true, f, by omega, by go_num, rfl, by rw [HFL.out]; congr 1; omega, HEB, by rw [HM.out, HF.out]; exact hinv, HFF⟩
            case measure => simp [intOf]; omega
        by_cases q2 : z = 128
        · have e1 : decide ((128 : Int) ≤ z) = true := by simp; omega
          have e2 : (z == 128) = true := by simp; omega
          have e3 : (z == 254) = false := by simp; omega
          have HF := Lib.hid (SF1.out (by simp [isFree]; omega))
          have HFL : Hid ((slotsI isFree x (k + 1)).length = (slotsI isFree x k).length + 1) := by unfold Hid; rw [HF.out]; simp
          have HE := Lib.hid (SE1.out (by simp [isByte]; omega))
          have HFF : Hid (∀ i, i < 8 → f i = if i < k + 1 then cleanB x i else bytI x i) := fun i hi => by
            by_cases e : i = k
            · subst e; rw [hf.out i hi, if_neg (by omega), if_pos (by omega), HCB.out, if_neg (by omega), HZ.out]
            · rw [hf.out i hi]; by_cases e4 : i < k
              · rw [if_pos e4, if_pos (by omega)]
              · rw [if_neg e4, if_neg (by omega)]
          cases eb
          · have HEB : Hid (true = decide (0 < (slotsI (isByte 128) x (k + 1)).length)) := by unfold Hid; rw [HE.out]; simp
            clear SF1 SF0 SE1 SE0 heb hf HCB q1 q2
            go_wp2_with (first | (at_builtin; refine wpList_append_moved _ rfl (.tmp 36) (.tmp 38) 45 rfl (gb + 2) 3 i0 (.int .i64 0) 1 8 Try.underlying45 hi hz0 hz1 hz2 rfl (by decide) _ _ _ rfl (hinv.of.alloc _) ⟨_, 0, none⟩ 1 1 [.int .i64 (k : Int)] rfl rfl (new_cell _ _ _) one_cell (by omega) (by unfold maxLen; omega) (by omega) (by have := hinv.size; simp; omega) ?_; intro vF wF hoF hgF hmF; replace hinv := hinv.appF _ (k : Int) hoF hgF hmF; rw [← HF.out] at hinv; clear hoF hgF hmF; replace b1 := (by have := hinv.cellB k hlt; rw [HZ.out] at this; exact this)))
            go_roundw
            case rel => exact ⟨k + 1, true, f, by omega, by go_num, rfl, by rw [HFL.out]; congr 1; omega, HEB, by rw [HM.out]; exact hinv, HFF⟩
            case measure => simp [intOf]; omega
          · have HEB : Hid (true = decide (0 < (slotsI (isByte 128) x (k + 1)).length)) := by unfold Hid; rw [HE.out]; simp
            clear SF1 SF0 SE1 SE0 heb hf HCB q1 q2
            go_wp2_with (first | (at_builtin; refine wpList_append_moved _ rfl (.tmp 36) (.tmp 38) 45 rfl (gb + 2) 3 i0 (.int .i64 0) 1 8 Try.underlying45 hi hz0 hz1 hz2 rfl (by decide) _ _ _ rfl (hinv.of.alloc _) ⟨_, 0, none⟩ 1 1 [.int .i64 (k : Int)] rfl rfl (new_cell _ _ _) one_cell (by omega) (by unfold maxLen; omega) (by omega) (by have := hinv.size; simp; omega) ?_; intro vF wF hoF hgF hmF; replace hinv := hinv.appF _ (k : Int) hoF hgF hmF; rw [← HF.out] at hinv; clear hoF hgF hmF; replace b1 := (by have := hinv.cellB k hlt; rw [HZ.out] at this; exact this)))
            go_roundw
            case rel => exact ⟨k + 1, true, f, by omega, by go_num, rfl, by rw [HFL.out]; congr 1; omega, HEB, by rw [HM.out]; exact hinv, HFF⟩
            case measure => simp [intOf]; omega
        by_cases q3 : z = 254
        · have e1 : decide ((128 : Int) ≤ z) = true := by simp; omega
          have e2 : (z == 128) = false := by simp; omega
          have e3 : (z == 254) = true := by simp; omega
          have HF := Lib.hid (SF1.out (by simp [isFree]; omega))
          have HFL : Hid ((slotsI isFree x (k + 1)).length = (slotsI isFree x k).length + 1) := by unfold Hid; rw [HF.out]; simp
          have HE := Lib.hid (SE0.out (by simp [isByte]; omega))
          have HFF : Hid (∀ i, i < 8 → (fun i => if i = k then 128 else f i) i = if i < k + 1 then cleanB x i else bytI x i) := fun i hi => by
            by_cases e : i = k
            · subst e; show (if i = i then (128 : Int) else f i) = _; rw [if_pos rfl, if_pos (by omega), HCB.out, if_pos (by omega)]
            · show (if i = k then (128 : Int) else f i) = _; rw [if_neg e, hf.out i hi]; by_cases e4 : i < k
              · rw [if_pos e4, if_pos (by omega)]
              · rw [if_neg e4, if_neg (by omega)]
          have b2 := hinv.cellC k hlt
          have b3 := hinv.frozenC k
          cases eb
          · have HEB : Hid (false = decide (0 < (slotsI (isByte 128) x (k + 1)).length)) := by unfold Hid; rw [HE.out]; exact heb.out
            clear SF1 SF0 SE1 SE0 heb hf HCB q1 q2 q3
            go_wp2_with (first | (at_builtin; refine wpList_append_moved _ rfl (.tmp 36) (.tmp 38) 45 rfl (gb + 2) 3 i0 (.int .i64 0) 1 8 Try.underlying45 hi hz0 hz1 hz2 rfl (by decide) _ _ _ rfl (hinv.of.alloc _) ⟨_, 0, none⟩ 1 1 [.int .i64 (k : Int)] rfl rfl (new_cell _ _ _) one_cell (by omega) (by unfold maxLen; omega) (by omega) (by have := hinv.size; simp; omega) ?_; intro vF wF hoF hgF hmF; replace hinv := hinv.appF _ (k : Int) hoF hgF hmF; rw [← HF.out] at hinv; clear hoF hgF hmF; replace b1 := (by have := hinv.cellB k hlt; rw [HZ.out] at this; exact this); replace b2 := hinv.cellC k hlt; replace b3 := hinv.frozenC k))
            go_roundw
            case rel => exact ⟨k + 1, false, (fun i => if i = k then 128 else f i), by omega, by go_num, rfl, by rw [HFL.out]; congr 1; omega, HEB, by rw [HM.out]; exact (hinv.store k hlt 128), HFF⟩
            case measure => simp [intOf]; omega
          · have HEB : Hid (true = decide (0 < (slotsI (isByte 128) x (k + 1)).length)) := by unfold Hid; rw [HE.out]; exact heb.out
            clear SF1 SF0 SE1 SE0 heb hf HCB q1 q2 q3
            go_wp2_with (first | (at_builtin; refine wpList_append_moved _ rfl (.tmp 36) (.tmp 38) 45 rfl (gb + 2) 3 i0 (.int .i64 0) 1 8 Try.underlying45 hi hz0 hz1 hz2 rfl (by decide) _ _ _ rfl (hinv.of.alloc _) ⟨_, 0, none⟩ 1 1 [.int .i64 (k : Int)] rfl rfl (new_cell _ _ _) one_cell (by omega) (by unfold maxLen; omega) (by omega) (by have := hinv.size; simp; omega) ?_; intro vF wF hoF hgF hmF; replace hinv := hinv.appF _ (k : Int) hoF hgF hmF; rw [← HF.out] at hinv; clear hoF hgF hmF; replace b1 := (by have := hinv.cellB k hlt; rw [HZ.out] at this; exact this); replace b2 := hinv.cellC k hlt; replace b3 := hinv.frozenC k))
            go_roundw
            case rel => exact ⟨k + 1, true, (fun i => if i = k then 128 else f i), by omega, by go_num, rfl, by rw [HFL.out]; congr 1; omega, HEB, by rw [HM.out]; exact (hinv.store k hlt 128), HFF⟩
            case measure => simp [intOf]; omega
        · have e1 : decide ((128 : Int) ≤ z) = true := by simp; omega
          have e2 : (z == 128) = false := by simp; omega
          have e3 : (z == 254) = false := by simp; omega
          have HF := Lib.hid (SF1.out (by simp [isFree]; omega))
          have HFL : Hid ((slotsI isFree x (k + 1)).length = (slotsI isFree x k).length + 1) := by unfold Hid; rw [HF.out]; simp
          have HE := Lib.hid (SE0.out (by simp [isByte]; omega))
          have HFF : Hid (∀ i, i < 8 → f i = if i < k + 1 then cleanB x i else bytI x i) := fun i hi => by
            by_cases e : i = k
            · subst e; rw [hf.out i hi, if_neg (by omega), if_pos (by omega), HCB.out, if_neg (by omega), HZ.out]
            · rw [hf.out i hi]; by_cases e4 : i < k
              · rw [if_pos e4, if_pos (by omega)]
              · rw [if_neg e4, if_neg (by omega)]
          cases eb
          · have HEB : Hid (false = decide (0 < (slotsI (isByte 128) x (k + 1)).length)) := by unfold Hid; rw [HE.out]; exact heb.out
            clear SF1 SF0 SE1 SE0 heb hf HCB q1 q2 q3
            go_wp2_with (first | (at_builtin; refine wpList_append_moved _ rfl (.tmp 36) (.tmp 38) 45 rfl (gb + 2) 3 i0 (.int .i64 0) 1 8 Try.underlying45 hi hz0 hz1 hz2 rfl (by decide) _ _ _ rfl (hinv.of.alloc _) ⟨_, 0, none⟩ 1 1 [.int .i64 (k : Int)] rfl rfl (new_cell _ _ _) one_cell (by omega) (by unfold maxLen; omega) (by omega) (by have := hinv.size; simp; omega) ?_; intro vF wF hoF hgF hmF; replace hinv := hinv.appF _ (k : Int) hoF hgF hmF; rw [← HF.out] at hinv; clear hoF hgF hmF; replace b1 := (by have := hinv.cellB k hlt; rw [HZ.out] at this; exact this)))
            go_roundw
            case rel => exact ⟨k + 1, false, f, by omega, by go_num, rfl, by rw [HFL.out]; congr 1; omega, HEB, by rw [HM.out]; exact hinv, HFF⟩
            case measure => simp [intOf]; omega
          · have HEB : Hid (true = decide (0 < (slotsI (isByte 128) x (k + 1)).length)) := by unfold Hid; rw [HE.out]; exact heb.out
            clear SF1 SF0 SE1 SE0 heb hf HCB q1 q2 q3
            go_wp2_with (first | (at_builtin; refine wpList_append_moved _ rfl (.tmp 36) (.tmp 38) 45 rfl (gb + 2) 3 i0 (.int .i64 0) 1 8 Try.underlying45 hi hz0 hz1 hz2 rfl (by decide) _ _ _ rfl (hinv.of.alloc _) ⟨_, 0, none⟩ 1 1 [.int .i64 (k : Int)] rfl rfl (new_cell _ _ _) one_cell (by omega) (by unfold maxLen; omega) (by omega) (by have := hinv.size; simp; omega) ?_; intro vF wF hoF hgF hmF; replace hinv := hinv.appF _ (k : Int) hoF hgF hmF; rw [← HF.out] at hinv; clear hoF hgF hmF; replace b1 := (by have := hinv.cellB k hlt; rw [HZ.out] at this; exact this)))
            go_roundw
            case rel => exact ⟨k + 1, true, f, by omega, by go_num, rfl, by rw [HFL.out]; congr 1; omega, HEB, by rw [HM.out]; exact hinv, HFF⟩
            case measure => simp [intOf]; omega
      -- ENDWAYS
    · obtain rfl : k = 8 := by omega
      obtain ⟨B0, B1, B2, B3, B4, B5, B6, B7⟩ := hinv.cellsB
      by_cases hr : 0 ≤ i ∧ i < 8
      · obtain ⟨r0, r1⟩ := hr
        have hgbw : gb < wr.heap.size := by have := hinv.size; omega
        have bi : ∀ O, (wr.alloc O).cell? ⟨gb, i.toNat, none⟩ = some (.int .u8 (bytI x i.toNat)) := fun O => (World.cell?_alloc_past _ _ _ hgbw).trans (hinv.cellB i.toNat (by omega))
        have s1 := arr_set (bytI x) i.toNat c (by omega)
        have q1 := arr_at (bytI x) i.toNat (by omega)
        rw [← arr_lit (bytI x)] at s1 q1
        go_wp2
        have hsz := hinv.size
        have hk7 : Keep7 w (gb + 1) wr.heap.size f (fun q => if q = i.toNat then c else bytI x q) u8 u9 (slotsI (isByte c) x 8) (slotsI isFree x 8) (wr.alloc (.cells (arr fun q => if q = i.toNat then c else bytI x q) 38)) :=
          ⟨hinv.bel.alloc hinv.bel.size _, (Reads.owns hinv.om).later ((Below.refl _ _).alloc (Nat.le_refl _) _), (Reads.owns hinv.of).later ((Below.refl _ _).alloc (Nat.le_refl _) _), (heap_alloc_old _ _ (by omega)).trans hinv.hc, heap_alloc_new _ _⟩
        have HFB : Hid (∀ q, q < 8 → 0 ≤ (fun q => if q = i.toNat then c else bytI x q) q ∧ (fun q => if q = i.toNat then c else bytI x q) q < 256) := fun q _ => by
          show 0 ≤ (if q = i.toNat then c else bytI x q) ∧ (if q = i.toNat then c else bytI x q) < 256
          split
          · exact ⟨c0, c1⟩
          · exact byt_bd x q
        have HST : Hid (putI x i c = wordI (fun q => if q = i.toNat then c else bytI x q)) := put_word_in x i c r0 r1 x0 x1 c0 c1
        have HAT : Hid (atI x i = bytI x i.toNat) := by unfold Hid; rw [atI, if_pos ⟨r0, r1⟩]
        generalize hF : (fun q => if q = i.toNat then c else bytI x q) = F at *
        generalize hW : wr.alloc (.cells (arr F) 38) = W at *
        generalize hgs : wr.heap.size = gs at *
        generalize hba : bytI x i.toNat = ba at *
        clear hW bi s1 q1 hF hba
        clear hinv B0 B1 B2 B3 B4 B5 B6 B7 hgs hsz
        have HCB : Hid (∀ i, i < 8 → f i = cleanB x i) := fun i hi => by rw [hf.out i hi, if_pos hi]
        have HFF : Hid (∀ i, i < 8 → 0 ≤ f i ∧ f i < 256) := fun i hi => by rw [HCB.out i hi]; exact cleanB_bd x i
        have HCL : Hid (wordI f = cleanI x) := clean_word x f HCB.out x0 x1
        have hl8 := slots_len isFree x 8
        generalize hlm : slotsI (isByte c) x 8 = lm at *
        generalize hlf : slotsI isFree x 8 = lf at *
        generalize hyF : wordI F = yF at *
        have HYF := Lib.hid hyF
        generalize hyc : cleanI x = yc at *
        have HYC := Lib.hid hyc
        have HLM := Lib.hid hlm
        have HLF := Lib.hid hlf
        clear hf HCB hyF hyc hlm hlf
        obtain ⟨⟨c0', c1', c2', c3', c4', c5', c6', c7'⟩, ⟨s0', s1', s2', s3', s4', s5', s6', s7'⟩, _⟩ := hk7.all
        go_region_held3 (fun W => (W.cell? ⟨gb + 1, 0, none⟩ = some (.int .u8 (f 0)) ∧ W.cell? ⟨gb + 1, 1, none⟩ = some (.int .u8 (f 1)) ∧ W.cell? ⟨gb + 1, 2, none⟩ = some (.int .u8 (f 2)) ∧ W.cell? ⟨gb + 1, 3, none⟩ = some (.int .u8 (f 3)) ∧ W.cell? ⟨gb + 1, 4, none⟩ = some (.int .u8 (f 4)) ∧ W.cell? ⟨gb + 1, 5, none⟩ = some (.int .u8 (f 5)) ∧ W.cell? ⟨gb + 1, 6, none⟩ = some (.int .u8 (f 6)) ∧ W.cell? ⟨gb + 1, 7, none⟩ = some (.int .u8 (f 7))) ∧ (W.cell? ⟨gs, 0, none⟩ = some (.int .u8 (F 0)) ∧ W.cell? ⟨gs, 1, none⟩ = some (.int .u8 (F 1)) ∧ W.cell? ⟨gs, 2, none⟩ = some (.int .u8 (F 2)) ∧ W.cell? ⟨gs, 3, none⟩ = some (.int .u8 (F 3)) ∧ W.cell? ⟨gs, 4, none⟩ = some (.int .u8 (F 4)) ∧ W.cell? ⟨gs, 5, none⟩ = some (.int .u8 (F 5)) ∧ W.cell? ⟨gs, 6, none⟩ = some (.int .u8 (F 6)) ∧ W.cell? ⟨gs, 7, none⟩ = some (.int .u8 (F 7))) ∧ Keep7 w (gb + 1) gs f F u8 u9 lm lf W)
          ((first | with_reducible exact hk7.drew.all | with_reducible exact (hk7.drewN _).all | with_reducible exact hk3.all | with_reducible exact hk4.all | with_reducible exact (hk4.drewN _).all | with_reducible exact hk5.all | with_reducible exact (hk5.drewN _).all | with_reducible exact hk8.all | with_reducible exact hk9.all | with_reducible exact hk10.all | with_reducible exact hk11.all))
          (first
            | (go_at_call 25; refine (at_any _ _ _).mono ?_; rintro e w' ⟨rfl, rfl⟩; rw [HAT.out])
            | (go_at_call 24; refine (set_any _ _ _ _ (by omega) (by omega) (by omega) (by omega)).mono ?_; rintro e w' ⟨rfl, m2, rfl⟩; rw [HST.out])
            | (go_at_call 28; (with_reducible refine (word_lit F _ HFB.out).mono ?_); rintro e w3 ⟨rfl, hb3⟩; rw [HYF.out]; have hk3 := (hk7.drewN _).step hb3)
            | (go_at_call 28; (with_reducible refine (word_lit f _ HFF.out).mono ?_); rintro e w11 ⟨rfl, hb11⟩; rw [HCL.out]; have hk11 := hk10.step hb11)
            | (go_at_call 34; refine (match_any _ _ _).mono ?_; rintro e w4 ⟨a4, cp4, rfl, hown4, hb4⟩; rw [HLM.out] at hown4 ⊢; replace hown4 := Reads.owns hown4; have hk4 := hk3.step hb4)
            | (go_at_call 33; refine (free_any _ _).mono ?_; rintro e w5 ⟨a5, cp5, rfl, hown5, hb5⟩; rw [HLF.out] at hown5 ⊢; replace hown5 := Reads.owns hown5; have hk5 := (hk4.drewN _).step hb5)
            | (go_at_call 35; (with_reducible refine (same_int _ u8 lm lm _ hown4 hk4.rm).mono ?_); rintro e w7 ⟨rfl, m, rfl⟩)
            | (go_at_call 35; (with_reducible refine (same_int _ u9 lf lf _ hown5 hk5.rf).mono ?_); rintro e w7 ⟨rfl, m, rfl⟩)
            | (go_at_call 43; refine (hasEmpty_any _ _).mono ?_; rintro e w8 ⟨rfl, hb8⟩; rw [← heb.out]; have hk8 := (hk5.drewN _).step hb8)
            | (go_at_call 32; refine (count_any _ _).mono ?_; rintro e w9 ⟨rfl, hb9⟩; rw [HLF.out]; have hk9 := hk8.step hb9)
            | (go_at_call 31; refine (clean_any _ _ (by omega) (by omega)).mono ?_; rintro e w10 ⟨rfl, hb10⟩; rw [HYC.out]; have hk10 := hk9.step hb10))
        go_wp2
        go_ret
        exact ⟨rfl, hk11.bel⟩
      · have hsz := hinv.size
        have HST : Hid (putI x i c = wordI (bytI x)) := by unfold Hid; rw [word_of_byt x x0 x1, ← put_out x i c hr]
        have HAT : Hid (atI x i = 128) := (at_out x i hr).symm
        have HFB : Hid (∀ q, q < 8 → 0 ≤ bytI x q ∧ bytI x q < 256) := fun q _ => byt_bd x q
        have hk7 : Keep7 w (gb + 1) wr.heap.size f (bytI x) u8 u9 (slotsI (isByte c) x 8) (slotsI isFree x 8) (wr.alloc (.cells (arr (bytI x)) 38)) :=
          ⟨hinv.bel.alloc hinv.bel.size _, (Reads.owns hinv.om).later ((Below.refl _ _).alloc (Nat.le_refl _) _), (Reads.owns hinv.of).later ((Below.refl _ _).alloc (Nat.le_refl _) _), (heap_alloc_old _ _ (by omega)).trans hinv.hc, heap_alloc_new _ _⟩
        by_cases hn : i < 0
        all_goals
          go_wp2
          rw [arr_lit (bytI x)]
          generalize hW : wr.alloc (.cells (arr (bytI x)) 38) = W at *
          generalize hgs : wr.heap.size = gs at *
          generalize hFq : bytI x = F at *
          clear hW hFq
          clear hinv B0 B1 B2 B3 B4 B5 B6 B7 hgs hsz
          have HCB : Hid (∀ i, i < 8 → f i = cleanB x i) := fun i hi => by rw [hf.out i hi, if_pos hi]
          have HFF : Hid (∀ i, i < 8 → 0 ≤ f i ∧ f i < 256) := fun i hi => by rw [HCB.out i hi]; exact cleanB_bd x i
          have HCL : Hid (wordI f = cleanI x) := clean_word x f HCB.out x0 x1
          have hl8 := slots_len isFree x 8
          generalize hlm : slotsI (isByte c) x 8 = lm at *
          generalize hlf : slotsI isFree x 8 = lf at *
          generalize hyF : wordI F = yF at *
          have HYF := Lib.hid hyF
          generalize hyc : cleanI x = yc at *
          have HYC := Lib.hid hyc
          have HLM := Lib.hid hlm
          have HLF := Lib.hid hlf
          clear hf HCB hyF hyc hlm hlf
          obtain ⟨⟨c0', c1', c2', c3', c4', c5', c6', c7'⟩, ⟨s0', s1', s2', s3', s4', s5', s6', s7'⟩, _⟩ := hk7.all
          go_region_held3 (fun W => (W.cell? ⟨gb + 1, 0, none⟩ = some (.int .u8 (f 0)) ∧ W.cell? ⟨gb + 1, 1, none⟩ = some (.int .u8 (f 1)) ∧ W.cell? ⟨gb + 1, 2, none⟩ = some (.int .u8 (f 2)) ∧ W.cell? ⟨gb + 1, 3, none⟩ = some (.int .u8 (f 3)) ∧ W.cell? ⟨gb + 1, 4, none⟩ = some (.int .u8 (f 4)) ∧ W.cell? ⟨gb + 1, 5, none⟩ = some (.int .u8 (f 5)) ∧ W.cell? ⟨gb + 1, 6, none⟩ = some (.int .u8 (f 6)) ∧ W.cell? ⟨gb + 1, 7, none⟩ = some (.int .u8 (f 7))) ∧ (W.cell? ⟨gs, 0, none⟩ = some (.int .u8 (F 0)) ∧ W.cell? ⟨gs, 1, none⟩ = some (.int .u8 (F 1)) ∧ W.cell? ⟨gs, 2, none⟩ = some (.int .u8 (F 2)) ∧ W.cell? ⟨gs, 3, none⟩ = some (.int .u8 (F 3)) ∧ W.cell? ⟨gs, 4, none⟩ = some (.int .u8 (F 4)) ∧ W.cell? ⟨gs, 5, none⟩ = some (.int .u8 (F 5)) ∧ W.cell? ⟨gs, 6, none⟩ = some (.int .u8 (F 6)) ∧ W.cell? ⟨gs, 7, none⟩ = some (.int .u8 (F 7))) ∧ Keep7 w (gb + 1) gs f F u8 u9 lm lf W)
            ((first | with_reducible exact hk7.drew.all | with_reducible exact (hk7.drewN _).all | with_reducible exact hk3.all | with_reducible exact hk4.all | with_reducible exact (hk4.drewN _).all | with_reducible exact hk5.all | with_reducible exact (hk5.drewN _).all | with_reducible exact hk8.all | with_reducible exact hk9.all | with_reducible exact hk10.all | with_reducible exact hk11.all))
            (first
              | (go_at_call 25; refine (at_any _ _ _).mono ?_; rintro e w' ⟨rfl, rfl⟩; rw [HAT.out])
              | (go_at_call 24; refine (set_any _ _ _ _ (by omega) (by omega) (by omega) (by omega)).mono ?_; rintro e w' ⟨rfl, m2, rfl⟩; rw [HST.out])
              | (go_at_call 28; (with_reducible refine (word_lit F _ HFB.out).mono ?_); rintro e w3 ⟨rfl, hb3⟩; rw [HYF.out]; have hk3 := (hk7.drewN _).step hb3)
              | (go_at_call 28; (with_reducible refine (word_lit f _ HFF.out).mono ?_); rintro e w11 ⟨rfl, hb11⟩; rw [HCL.out]; have hk11 := hk10.step hb11)
              | (go_at_call 34; refine (match_any _ _ _).mono ?_; rintro e w4 ⟨a4, cp4, rfl, hown4, hb4⟩; rw [HLM.out] at hown4 ⊢; replace hown4 := Reads.owns hown4; have hk4 := hk3.step hb4)
              | (go_at_call 33; refine (free_any _ _).mono ?_; rintro e w5 ⟨a5, cp5, rfl, hown5, hb5⟩; rw [HLF.out] at hown5 ⊢; replace hown5 := Reads.owns hown5; have hk5 := (hk4.drewN _).step hb5)
              | (go_at_call 35; (with_reducible refine (same_int _ u8 lm lm _ hown4 hk4.rm).mono ?_); rintro e w7 ⟨rfl, m, rfl⟩)
              | (go_at_call 35; (with_reducible refine (same_int _ u9 lf lf _ hown5 hk5.rf).mono ?_); rintro e w7 ⟨rfl, m, rfl⟩)
              | (go_at_call 43; refine (hasEmpty_any _ _).mono ?_; rintro e w8 ⟨rfl, hb8⟩; rw [← heb.out]; have hk8 := (hk5.drewN _).step hb8)
              | (go_at_call 32; refine (count_any _ _).mono ?_; rintro e w9 ⟨rfl, hb9⟩; rw [HLF.out]; have hk9 := hk8.step hb9)
              | (go_at_call 31; refine (clean_any _ _ (by omega) (by omega)).mono ?_; rintro e w10 ⟨rfl, hb10⟩; rw [HYC.out]; have hk10 := hk9.step hb10))
          go_wp2
          go_ret
          exact ⟨rfl, hk11.bel⟩
end Go.Proofs.Ytpmmfilodillmaa
