/- Contracts of package table: how the groups of a hash are gone through, and a key is found. -/
import Derived.Test.YtkkijcnipjojoaaTabFind
import Derived.IntWalk
namespace Go.Proofs.Ytkkijcnipjojoaa
open Go.RowKit

theorem pg_sum (h : Int) (G k : Nat) (h0 : 0 ≤ h) (h1 : h < 18446744073709551616) (hk : k < G) (hG : G ≤ 64) :
    bits .and .u64 (h / 4294967296) 4294967295 = h / 4294967296 ∧ wrap64 (h / 4294967296) = h / 4294967296 ∧ wrap64 (h / 4294967296 + k) = h / 4294967296 + k ∧ (h / 4294967296 + k).tmod G = (pg h G k : Nat) ∧ ((pg h G k : Nat) : Int) < G := by
  have hq : 0 ≤ h / 4294967296 ∧ h / 4294967296 < 4294967296 := by omega
  obtain ⟨hq0, hq1⟩ := hq
  unfold pg
  generalize h / 4294967296 = a at *
  obtain ⟨n, rfl⟩ := Int.eq_ofNat_of_zero_le hq0
  refine ⟨?_, ?_, ?_, ?_, ?_⟩
  · have := bits_and_u64_nat n 4294967295 (by omega) (by omega)
    rw [show (4294967295 : Int) = ((4294967295 : Nat) : Int) from rfl, this, show (4294967295 : Nat) = 2 ^ 32 - 1 from rfl, Nat.and_two_pow_sub_one_eq_mod]
    omega
  · unfold wrap64; omega
  · unfold wrap64; omega
  · rw [Int.tmod_eq_emod_of_nonneg (by omega), Int.toNat_natCast, Int.natCast_emod, Int.natCast_add]
  · rw [Int.toNat_natCast]
    have := Nat.mod_lt (n + k) (show 0 < G by omega)
    omega

theorem TabAt.belowB {w w' : World} {tb gb B : Nat} {seed : Int} {S : Grps} {n mk : Int} (h : TabAt w tb gb seed S n mk) (hb : Below B w w') (h1 : tb < B) (h2 : gb < B) : TabAt w' tb gb seed S n mk :=
  h.later (hb.block _ h1) (hb.block _ h2)

/-- What has been seen when find's walk through the groups ends. -/
def Seen (S : Grps) (h : Int) (key : ByteArray) (k : Nat) : Prop := ∀ j, j < k → lookL S (pg h S.G j) key (slotsI (isByte (sevenI h)) (S.w (pg h S.G j)) 8) = none
def hasE (S : Grps) (g : Nat) : Prop := 0 < (slotsI (isByte 128) (S.w g) 8).length
def Found (S : Grps) (h : Int) (key : ByteArray) (gb : Nat) (p : Value) (i : Int) : Prop :=
  (∃ k q, k < S.G ∧ lookL S (pg h S.G k) key (slotsI (isByte (sevenI h)) (S.w (pg h S.G k)) 8) = some q ∧ p = .pointer (some ⟨gb, pg h S.G k * 17, none⟩) ∧ i = q) ∨
  (∃ k, Seen S h key k ∧ (S.G ≤ k ∨ ∃ j, j < k ∧ hasE S (pg h S.G j)) ∧ p = .pointer none ∧ i = 0)

set_option maxRecDepth 100000 in
set_option maxHeartbeats 4000000 in
theorem probeF_any {tb gb : Nat} {seed : Int} {S : Grps} {n mk : Int} (w : World) (ht : TabAt w tb gb seed S n mk) (hG : 0 < S.G ∧ S.G ≤ 64) (hb kb ab sb B : Nat) (h : Int) (h0 : 0 ≤ h) (h1 : h < 18446744073709551616) (key : ByteArray)
    (hbx : Boxes w hb kb ab sb h key (.pointer none) 0) (hB : gb < B ∧ tb < B ∧ B ≤ ab ∧ B ≤ sb ∧ B ≤ hb ∧ B ≤ kb ∧ ab ≠ sb ∧ ab ≠ hb ∧ ab ≠ kb ∧ sb ≠ hb ∧ sb ≠ kb) :
    Calls Try.prog 86 #[.pointer (some ⟨tb, 0, none⟩), .int .u64 h, .func (Fn.func 87) #[] #[.pointer (some ⟨hb, 0, none⟩), .pointer (some ⟨kb, 0, none⟩), .pointer (some ⟨ab, 0, none⟩), .pointer (some ⟨sb, 0, none⟩)]] w fun e w' =>
      e = .returned (.tuple #[]) ∧ Below B w w' ∧ ∃ p i, Found S h key gb p i ∧ Boxes w' hb kb ab sb h key p i := by
  obtain ⟨l1, l2⟩ := ht.lt
  have hk0 : FK w tb gb seed S n mk B hb kb ab sb h key (.pointer none) 0 w := ⟨ht, hbx, Below.refl _ _, by have := heap_lt' hbx.bh; have := hB.2.2.2.2.1; omega⟩
  obtain ⟨hG1, hG2⟩ := hG
  have hG3 : ¬ S.G = 0 := by omega
  have cg := ht.cGroups
  go_enter Try.func86, Try.ntmps86
  go_wp2
  go_loopw [14] (fun i wr => ∃ (k : Nat), k ≤ S.G ∧ i = .int .i64 k ∧ FK w tb gb seed S n mk B hb kb ab sb h key (.pointer none) 0 wr ∧ Hid (Seen S h key k)) (fun i _ => S.G - (intOf i).toNat)
  case atStart => exact ⟨0, by omega, rfl, hk0, fun j hj => by omega⟩
  case round =>
    clear hk0 ht cg hbx
    obtain ⟨k, hk, rfl, hkk, hseen⟩ := hrel
    have cg := hkk.tab.cGroups
    by_cases hlt : k < S.G
    · obtain ⟨E1, E2, E3, E4, E5⟩ := pg_sum h S.G k h0 h1 hlt hG2
      obtain ⟨E6, E7, E8, E9, E10⟩ : (0 : Int) ≤ (pg h S.G k : Nat) ∧ ((pg h S.G k : Nat) : Int).toNat = pg h S.G k ∧ ¬ (S.G : Int) = 0 ∧ IntKind.i64.wrap (h / 4294967296) = h / 4294967296 ∧ IntKind.i64.wrap (h / 4294967296 + k) = h / 4294967296 + k := ⟨by omega, by omega, by omega, IntWalk.i64_in _ (by omega), IntWalk.i64_in _ (by omega)⟩
      have HP := Lib.hid (pg_lt h S.G k hG1)
      have hk2 := hkk.drew
      go_wp2
      go_region_held3 (fun W => W.cell? ⟨tb, 1, none⟩ = some (.slice (some ⟨gb, 0, none⟩) S.G S.G))
        ((first | with_reducible exact hk2.tab.cGroups | with_reducible exact (hkk.drewN _).tab.cGroups | with_reducible exact hk1.cGroups))
        (first | (go_at_call 87; refine (find1_any _ hk2.tab _ HP.out hb kb ab sb B h key hk2.box hB).mono ?_; rintro e w1 ⟨o, ho, rfl, hbx1, hb1⟩; have hk1 := hk2.tab.belowB hb1 hB.2.1 hB.1))
      have hb2 := hk2.bel.trans hb1
      have hlo : B ≤ w1.heap.size := by have := heap_lt' hbx1.bh; have := hB.2.2.2.2.1; omega
      generalize hp : pg h S.G k = g at *
      clear E1 E2 E3 E4 E5 E6 E7 E8 E9 E10
      cases o with
      | some q =>
        have ho' := ho.symm
        have hval : (lookL S g key (slotsI (isByte (sevenI h)) (S.w g) 8)).isSome = true := by rw [ho']; rfl
        have HF : Hid (Found S h key gb (.pointer (some ⟨gb, g * 17, none⟩)) q) := .inl ⟨k, q, hlt, by rw [hp]; exact ho', by rw [hp], rfl⟩
        simp only [hval, Bool.true_or]
        clear hval ho ho' hk1 hk2 hkk hb1
        go_wp2
        (try simp only [Exit.inBlock, Exit.then])
        refine bodyPost_ret (results_none rfl _ _ _) rfl ?_
        exact ⟨rfl, hb2, _, _, HF.out, hbx1⟩
      | none =>
        have ho' := ho.symm
        have hval : (lookL S g key (slotsI (isByte (sevenI h)) (S.w g) 8)).isSome = false := by rw [ho']; rfl
        simp only [hval, Bool.false_or]
        have HS : Hid (Seen S h key (k + 1)) := by
          intro j hj
          by_cases c : j < k
          · exact hseen.out j c
          · obtain rfl : j = k := by omega
            rw [hp]; exact ho'
        by_cases hE : 0 < (slotsI (isByte 128) (S.w g) 8).length
        · have HF : Hid (Found S h key gb (.pointer none) 0) := .inr ⟨k + 1, HS.out, .inr ⟨k, by omega, by rw [hp]; exact hE⟩, rfl, rfl⟩
          have hE2 : decide (0 < (slotsI (isByte 128) (S.w g) 8).length) = true := by simp [hE]
          simp only [hE2]
          clear hval ho ho' hk1 hk2 hkk hb1 hE hE2
          go_wp2
          (try simp only [Exit.inBlock, Exit.then])
          refine bodyPost_ret (results_none rfl _ _ _) rfl ?_
          exact ⟨rfl, hb2, _, _, HF.out, hbx1⟩
        · have hE2 : decide (0 < (slotsI (isByte 128) (S.w g) 8).length) = false := by simp only [decide_eq_false_iff_not]; exact hE
          simp only [hE2]
          clear hval ho ho' hk2 hkk hb1 hE hE2
          go_wp2
          go_roundw
          case rel => exact ⟨k + 1, by omega, by go_num, ⟨hk1, hbx1, hb2, hlo⟩, HS⟩
          case measure => simp [intOf]; omega
    · go_wp2
      (try simp only [Exit.inBlock, Exit.then])
      refine bodyPost_end (results_none rfl _ _ _) rfl ?_
      exact ⟨rfl, hkk.bel, _, _, .inr ⟨k, hseen.out, .inl (by omega), rfl, rfl⟩, hkk.box⟩

/-- What find answers. -/
def FindRes (S : Grps) (m : ByteArray → Option Int) (key : ByteArray) (gb : Nat) (e : Ending) : Prop :=
  (∃ g i, g < S.G ∧ i < 8 ∧ bytI (S.w g) i < 128 ∧ S.k g i = key ∧ e = .returned (.tuple #[.pointer (some ⟨gb, g * 17, none⟩), .int .i64 (i : Nat)])) ∨
  (m key = none ∧ e = .returned (.tuple #[.pointer none, .int .i64 0]))

theorem found_res {seed : Int} {S : Grps} {m : ByteArray → Option Int} (hgood : Good seed S m) (key : ByteArray) (gb : Nat) (p : Value) (i : Int) (h : Found S (hk seed key) key gb p i) :
    FindRes S m key gb (.returned (.tuple #[p, .int .i64 i])) := by
  obtain ⟨s0, s1⟩ := seven_bd seed key
  rcases h with ⟨k, q, hk, hl, rfl, rfl⟩ | ⟨k, hs, hend, rfl, rfl⟩
  · obtain ⟨hm, hkey⟩ := look_some hl
    obtain ⟨q0, q1, hq⟩ := (slots_mem _ _ _ _).1 hm
    obtain ⟨n, rfl⟩ := Int.eq_ofNat_of_zero_le q0
    simp only [isByte, beq_iff_eq, Int.toNat_natCast] at hq
    exact .inl ⟨_, n, pg_lt _ _ _ hgood.pos, by omega, by rw [hq]; exact s1, hkey, rfl⟩
  · refine .inr ⟨hgood.nowhere key k ?_ ?_, rfl⟩
    · intro j hj i hi hf hkey
      have h1 := hgood.sev _ i (pg_lt (hk seed key) S.G j hgood.pos) hi hf
      rw [hkey] at h1
      have h2 := look_none (hs j hj) (i : Int) ((slots_mem _ _ _ _).2 ⟨by omega, by omega, by simp only [isByte, beq_iff_eq, Int.toNat_natCast]; exact h1⟩)
      exact h2 (by simpa using hkey)
    · rcases hend with hend | ⟨j, hj, hE⟩
      · exact .inl hend
      · obtain ⟨q, hq, hb⟩ := (slots_pos _ _).1 hE
        exact .inr ⟨j, hj, q, hq, by simpa [isByte] using hb⟩

set_option maxRecDepth 100000 in
set_option maxHeartbeats 4000000 in
theorem find_any {tb gb : Nat} {seed : Int} {S : Grps} {n mk : Int} {m : ByteArray → Option Int} (w : World) (ht : TabAt w tb gb seed S n mk) (hgood : Good seed S m) (hG : S.G ≤ 64) (key : ByteArray) (hkey : key.size ≤ maxLen) :
    Calls Try.prog 54 #[.pointer (some ⟨tb, 0, none⟩), .string key] w fun e w' => FindRes S m key gb e ∧ Below w.heap.size w w' := by
  obtain ⟨l1, l2⟩ := ht.lt
  obtain ⟨hh0, hh1⟩ := hk_bd seed key
  have HR := Lib.hid fun p i => found_res hgood key gb p i
  have hG1 := hgood.pos
  generalize hB : w.heap.size = B at *
  have HH : Hid (hof seed key.data.toList = hk seed key) := rfl
  generalize hhh : hk seed key = h at *
  go_enter Try.func54, Try.ntmps54
  go_wp2
  have hsz : (((w.alloc (Obj.cells #[Value.string key] 9)).alloc (Obj.cells #[Value.pointer none] 76)).alloc (Obj.cells #[Value.int IntKind.i64 0] 3)).heap.size = B + 3 := by simp [hB]
  have hbel : Below B w (((w.alloc (Obj.cells #[Value.string key] 9)).alloc (Obj.cells #[Value.pointer none] 76)).alloc (Obj.cells #[Value.int IntKind.i64 0] 3)) := by
    refine Below.alloc (Below.alloc (Below.alloc (Below.refl _ _) (by omega) _) (by simp [hB]) _) (by simp [hB]; omega) _
  have hbk : (((w.alloc (Obj.cells #[Value.string key] 9)).alloc (Obj.cells #[Value.pointer none] 76)).alloc (Obj.cells #[Value.int IntKind.i64 0] 3)).heap[B]? = some (.cells #[.string key] 9 (0, 0)) := by
    rw [heap_alloc_old _ _ (by simp [hB]; omega), heap_alloc_old _ _ (by simp [hB]), ← hB]; exact heap_alloc_new _ _
  have hba : (((w.alloc (Obj.cells #[Value.string key] 9)).alloc (Obj.cells #[Value.pointer none] 76)).alloc (Obj.cells #[Value.int IntKind.i64 0] 3)).heap[B + 1]? = some (.cells #[.pointer none] 76 (0, 0)) := by
    rw [heap_alloc_old _ _ (by simp [hB])]
    have := heap_alloc_new (w.alloc (Obj.cells #[Value.string key] 9)) (Obj.cells #[Value.pointer none] 76)
    simpa [hB] using this
  have hbs : (((w.alloc (Obj.cells #[Value.string key] 9)).alloc (Obj.cells #[Value.pointer none] 76)).alloc (Obj.cells #[Value.int IntKind.i64 0] 3)).heap[B + 1 + 1]? = some (.cells #[.int .i64 0] 3 (0, 0)) := by
    have := heap_alloc_new ((w.alloc (Obj.cells #[Value.string key] 9)).alloc (Obj.cells #[Value.pointer none] 76)) (Obj.cells #[Value.int .i64 0] 3)
    simpa [hB] using this
  generalize (((w.alloc (Obj.cells #[Value.string key] 9)).alloc (Obj.cells #[Value.pointer none] 76)).alloc (Obj.cells #[Value.int IntKind.i64 0] 3)) = w3 at *
  have ht3 : TabAt w3 tb gb seed S n mk := ht.belowB hbel l1 l2
  have hkA : ∀ W', Below (B + 3) w3 W' → W'.cell? ⟨tb, 0, none⟩ = some (.int .u64 seed) ∧ W'.cell? ⟨B, 0, none⟩ = some (.string key) := fun W' hb => ⟨(ht3.belowB hb (by omega) (by omega)).cSeed, by rw [cell_of_row _ _ _ _ _ _ ((hb.block B (by omega)).trans hbk)]; rfl⟩
  clear ht hB hgood
  go_region_held3 (fun W => W.cell? ⟨tb, 0, none⟩ = some (.int .u64 seed) ∧ W.cell? ⟨B, 0, none⟩ = some (.string key))
    ((exact hkA _ (by first | exact (Below.refl _ _).drew | exact ((Below.refl _ _).drew).alloc (by simp [hsz]) _ | exact (((Below.refl _ _).drew).alloc (by simp [hsz]) _).setCell (by simp [hsz]) _)))
    (first | (go_at_call 63; refine (hash_any _ _ _ hkey).mono ?_; rintro e w' ⟨rfl, rfl⟩; rw [HH.out]))
  all_goals
    have hbel4 : Below (B + 3) w3 (w3.alloc (Obj.cells #[.int .u64 h] 22)).drew := ((Below.refl _ _).alloc (by omega) _).drew
    have hbh : (w3.alloc (Obj.cells #[.int .u64 h] 22)).drew.heap[B + 3]? = some (.cells #[.int .u64 h] 22 (0, 0)) := by
      have := heap_alloc_new w3 (Obj.cells #[.int .u64 h] 22)
      rw [hsz] at this
      exact this
    generalize (w3.alloc (Obj.cells #[.int .u64 h] 22)).drew = w4 at *
    have hbox : Boxes w4 (B + 3) B (B + 1) (B + 1 + 1) h key (.pointer none) 0 := ⟨hbh, (hbel4.block _ (by omega)).trans hbk, (hbel4.block _ (by omega)).trans hba, (hbel4.block _ (by omega)).trans hbs⟩
    have hb5 := hbel.trans (hbel4.mono (by omega))
    have ht4 := ht3.belowB hbel4 (by omega) (by omega)
    clear hbel4 hbh hkA hbel hbk hba hbs ht3
    obtain ⟨c1, _, _, _⟩ := hbox.cells
    have hBB : gb < B ∧ tb < B ∧ B ≤ B + 1 ∧ B ≤ B + 1 + 1 ∧ B ≤ B + 3 ∧ B ≤ B ∧ B + 1 ≠ B + 1 + 1 ∧ B + 1 ≠ B + 3 ∧ B + 1 ≠ B ∧ B + 1 + 1 ≠ B + 3 ∧ B + 1 + 1 ≠ B := by omega
    go_wp2_with (go_at_call 86; refine (probeF_any _ ht4 ⟨hG1, hG⟩ (B + 3) B (B + 1) (B + 1 + 1) B h hh0 hh1 key hbox hBB).mono ?_; rintro e w5 ⟨rfl, hb6, p, i, hfound, hbox5⟩)
    obtain ⟨d1, d2, d3, d4⟩ := hbox5.cells
    have hb7 := hb5.trans hb6
    clear hbox ht4 hb5 hb6
    go_quiet (fail)
    go_wp2
    go_ret2
    exact ⟨HR.out p i hfound, below_drewN hb7 _⟩
end Go.Proofs.Ytkkijcnipjojoaa
