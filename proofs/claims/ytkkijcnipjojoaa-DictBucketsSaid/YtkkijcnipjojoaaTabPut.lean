/- Contracts of package table: insert. -/
import Derived.Test.YtkkijcnipjojoaaTabInsert
namespace Go.Proofs.Ytkkijcnipjojoaa
open Go.RowKit

/-- What insert's inner function has done. -/
def Ins1 (w : World) (tb gb : Nat) (seed : Int) (S : Grps) (n mk : Int) (g : Nat) (h : Int) (key : ByteArray) (v : Int) (b : Bool) (w' : World) : Prop :=
  (b = false ∧ (∀ i, i < 8 → bytI (S.w g) i < 128) ∧ Below w.heap.size w w') ∨
  (b = true ∧ ∃ i, i < 8 ∧ 128 ≤ bytI (S.w g) i ∧ TabAt w' tb gb seed (putG S g i (sevenI h) key v) (n + 1) (if bytI (S.w g) i = 254 then mk - 1 else mk) ∧ Touch w w' tb gb)
theorem Ins1.cell {w : World} {tb gb : Nat} {seed : Int} {S : Grps} {n mk : Int} {g : Nat} {h : Int} {key : ByteArray} {v : Int} {b : Bool} {w' : World} (x : Ins1 w tb gb seed S n mk g h key v b w') (ht : TabAt w tb gb seed S n mk) :
    w'.cell? ⟨tb, 1, none⟩ = some (.slice (some ⟨gb, 0, none⟩) S.G S.G) := by
  rcases x with ⟨_, _, hb⟩ | ⟨_, i, _, _, ht', _⟩
  · exact (ht.below hb).cGroups
  · exact ht'.cGroups

theorem insert1_b {tb gb : Nat} {seed : Int} {S : Grps} {n mk : Int} (w : World) (ht : TabAt w tb gb seed S n mk) (g : Nat) (hg : g < S.G) (xb hb kb vb : Nat) (h : Int) (key : ByteArray) (v : Int) (hbx : IBox w tb xb hb kb vb h key v)
    (x0 : 0 ≤ S.w g) (x1 : S.w g < 18446744073709551616) (s0 : 0 ≤ sevenI h) (s1 : sevenI h < 256) (n0 : 0 ≤ n) (n1 : n ≤ 100000) (m0 : 0 ≤ mk) (m1 : mk ≤ 100000)
    (hd : tb ≠ xb ∧ tb ≠ hb ∧ tb ≠ kb ∧ tb ≠ vb ∧ gb ≠ xb ∧ gb ≠ hb ∧ gb ≠ kb ∧ gb ≠ vb) :
    Calls Try.prog 90 #[.pointer (some ⟨gb, g * 17, none⟩), .pointer (some ⟨xb, 0, none⟩), .pointer (some ⟨hb, 0, none⟩), .pointer (some ⟨kb, 0, none⟩), .pointer (some ⟨vb, 0, none⟩)] w fun e w' =>
      ∃ b, e = .returned (.bool b) ∧ Ins1 w tb gb seed S n mk g h key v b w' := by
  refine (insert1_any w ht g hg xb hb kb vb h key v hbx x0 x1 s0 s1 n0 n1 m0 m1 hd).mono ?_
  rintro e w' (⟨rfl, h1, h2⟩ | ⟨i, h1, h2, rfl, h3, h4⟩)
  · exact ⟨false, rfl, .inl ⟨rfl, h1, h2⟩⟩
  · exact ⟨true, rfl, .inr ⟨rfl, i, h1, h2, h3, h4⟩⟩

set_option maxRecDepth 100000 in
set_option maxHeartbeats 4000000 in
theorem probeI_any {tb gb : Nat} {seed : Int} {S : Grps} {n mk : Int} {m : ByteArray → Option Int} (w : World) (ht : TabAt w tb gb seed S n mk) (hgood : Good seed S m) (hG2 : S.G ≤ 64) (xb hb kb vb : Nat) (h : Int) (h0 : 0 ≤ h) (h1 : h < 18446744073709551616) (key : ByteArray) (v : Int)
    (hbx : IBox w tb xb hb kb vb h key v) (s0 : 0 ≤ sevenI h) (s1 : sevenI h < 256) (n0 : 0 ≤ n) (n1 : n ≤ 100000) (m0 : 0 ≤ mk) (m1 : mk ≤ 100000)
    (hd : tb ≠ xb ∧ tb ≠ hb ∧ tb ≠ kb ∧ tb ≠ vb ∧ gb ≠ xb ∧ gb ≠ hb ∧ gb ≠ kb ∧ gb ≠ vb) (hc : cnt isFull S.w S.G < 8 * S.G) :
    Calls Try.prog 86 #[.pointer (some ⟨tb, 0, none⟩), .int .u64 h, .func (Fn.func 90) #[] #[.pointer (some ⟨xb, 0, none⟩), .pointer (some ⟨hb, 0, none⟩), .pointer (some ⟨kb, 0, none⟩), .pointer (some ⟨vb, 0, none⟩)]] w fun e w' =>
      e = .returned (.tuple #[]) ∧ ∃ d i, d < S.G ∧ i < 8 ∧ 128 ≤ bytI (S.w (pg h S.G d)) i ∧ (∀ j, j < d → ∀ q, q < 8 → bytI (S.w (pg h S.G j)) q < 128) ∧
        TabAt w' tb gb seed (putG S (pg h S.G d) i (sevenI h) key v) (n + 1) (if bytI (S.w (pg h S.G d)) i = 254 then mk - 1 else mk) ∧ Touch w w' tb gb := by
  have HF := Lib.hid (free_ahead S h hc)
  have HW := Lib.hid hgood.wb
  have hG1 := hgood.pos
  have hG3 : ¬ S.G = 0 := by omega
  have cg := ht.cGroups
  clear hgood
  go_enter Try.func86, Try.ntmps86
  go_wp2
  go_loopw [14] (fun i wr => ∃ (k : Nat), k ≤ S.G ∧ i = .int .i64 k ∧ TabAt wr tb gb seed S n mk ∧ IBox wr tb xb hb kb vb h key v ∧ Below w.heap.size w wr ∧ Hid (∀ j, j < k → ∀ q, q < 8 → bytI (S.w (pg h S.G j)) q < 128)) (fun i _ => S.G - (intOf i).toNat)
  case atStart => exact ⟨0, by omega, rfl, ht, hbx, Below.refl _ _, fun j hj => by omega⟩
  case round =>
    clear ht cg hbx
    obtain ⟨k, hk, rfl, ht, hbx, hbl, hfull⟩ := hrel
    have cg := ht.cGroups
    by_cases hlt : k < S.G
    · obtain ⟨E1, E2, E3, E4, E5⟩ := pg_sum h S.G k h0 h1 hlt hG2
      obtain ⟨E6, E7, E8, E9, E10⟩ : (0 : Int) ≤ (pg h S.G k : Nat) ∧ ((pg h S.G k : Nat) : Int).toNat = pg h S.G k ∧ ¬ (S.G : Int) = 0 ∧ IntKind.i64.wrap (h / 4294967296) = h / 4294967296 ∧ IntKind.i64.wrap (h / 4294967296 + k) = h / 4294967296 + k := ⟨by omega, by omega, by omega, IntWalk.i64_in _ (by omega), IntWalk.i64_in _ (by omega)⟩
      have HP := Lib.hid (pg_lt h S.G k hG1)
      have HX := Lib.hid (HW.out _ HP.out)
      have htd := ht.below ((Below.refl _ _).drew)
      have hxd := hbx.later ((Below.refl _ _).drew)
      have hbd : Below w.heap.size w wr.drew := hbl.drew
      go_wp2
      go_region_held3 (fun W => W.cell? ⟨tb, 1, none⟩ = some (.slice (some ⟨gb, 0, none⟩) S.G S.G))
        ((first | with_reducible exact htd.cGroups | with_reducible exact hk1.cell htd))
        (first | (go_at_call 90; refine (insert1_b _ htd _ HP.out xb hb kb vb h key v hxd HX.out.1 HX.out.2 s0 s1 n0 n1 m0 m1 hd).mono ?_; rintro e w1 ⟨b, rfl, hk1⟩))
      generalize hp : pg h S.G k = g at *
      clear E1 E2 E3 E4 E5 E6 E7 E8 E9 E10
      rcases hk1 with ⟨rfl, h1', h2'⟩ | ⟨rfl, i, h1', h2', h3', h4'⟩
      · have ht3 := htd.below h2'
        have hx3 := hxd.later h2'
        have hb3 : Below w.heap.size w w1 := hbd.trans (h2'.mono hbd.size)
        have HU : Hid (∀ j, j < k + 1 → ∀ q, q < 8 → bytI (S.w (pg h S.G j)) q < 128) := by
          intro j hj
          by_cases c : j < k
          · exact hfull.out j c
          · obtain rfl : j = k := by omega
            rw [hp]; exact h1'
        clear h1' h2' htd hxd hbd ht hbx hbl hfull cg
        go_wp2
        go_roundw
        case rel => exact ⟨k + 1, by omega, by go_num, ht3, hx3, hb3, HU⟩
        case measure => simp [intOf]; omega
      · have hT : Touch w w1 tb gb := (Touch.of_below hbd).trans h4'
        have HR : Hid (∃ d i, d < S.G ∧ i < 8 ∧ 128 ≤ bytI (S.w (pg h S.G d)) i ∧ (∀ j, j < d → ∀ q, q < 8 → bytI (S.w (pg h S.G j)) q < 128) ∧
          TabAt w1 tb gb seed (putG S (pg h S.G d) i (sevenI h) key v) (n + 1) (if bytI (S.w (pg h S.G d)) i = 254 then mk - 1 else mk) ∧ Touch w w1 tb gb) :=
          ⟨k, i, hlt, h1', by rw [hp]; exact h2', hfull.out, by rw [hp]; exact h3', hT⟩
        clear h1' h2' h3' h4' htd hxd hbd ht hbx hbl hfull cg hT
        go_wp2
        (try simp only [Exit.inBlock, Exit.then])
        refine bodyPost_ret (results_none rfl _ _ _) rfl ?_
        exact ⟨rfl, HR.out⟩
    · exfalso
      obtain ⟨j, hj, i, hi, hf⟩ := HF.out
      have := hfull.out j (by omega) i hi
      omega

/-- A table in memory, and what it has. -/
structure Tab (w : World) (tb gb : Nat) (seed : Int) (S : Grps) (m : ByteArray → Option Int) : Prop where
  at' : TabAt w tb gb seed S (cnt isFull S.w S.G : Nat) (cnt (isByte 254) S.w S.G : Nat)
  good : Good seed S m
  sum : cnt isFull S.w S.G + cnt (isByte 254) S.w S.G ≤ 7 * S.G
  gle : S.G ≤ 64
  ksz : ∀ k x, m k = some x → k.size ≤ maxLen

theorem Tab.later {w w' : World} {tb gb : Nat} {seed : Int} {S : Grps} {m : ByteArray → Option Int} (h : Tab w tb gb seed S m) (hb : Below w.heap.size w w') : Tab w' tb gb seed S m := ⟨h.at'.below hb, h.good, h.sum, h.gle, h.ksz⟩

theorem Tab.put {w w' : World} {tb gb : Nat} {seed : Int} {S : Grps} {m : ByteArray → Option Int} (h : Tab w tb gb seed S m) (key : ByteArray) (v : Int) (hm : m key = none) (hks : key.size ≤ maxLen) (hlt : cnt isFull S.w S.G + cnt (isByte 254) S.w S.G < 7 * S.G)
    (d i : Nat) (hd : d < S.G) (hi : i < 8) (hf : 128 ≤ bytI (S.w (pg (hk seed key) S.G d)) i) (hw : ∀ j, j < d → ∀ q, q < 8 → bytI (S.w (pg (hk seed key) S.G j)) q < 128)
    (ht : TabAt w' tb gb seed (putG S (pg (hk seed key) S.G d) i (sevenI (hk seed key)) key v) ((cnt isFull S.w S.G : Nat) + 1) (if bytI (S.w (pg (hk seed key) S.G d)) i = 254 then (cnt (isByte 254) S.w S.G : Nat) - 1 else (cnt (isByte 254) S.w S.G : Nat))) :
    ∃ S', Tab w' tb gb seed S' (updM m key (some v)) ∧ S'.G = S.G ∧ cnt isFull S'.w S'.G = cnt isFull S.w S.G + 1 ∧ cnt (isByte 254) S'.w S'.G ≤ cnt (isByte 254) S.w S.G := by
  obtain ⟨s0, s1⟩ := seven_bd seed key
  have hg := pg_lt (hk seed key) S.G d h.good.pos
  have h1 := putG_cnt isFull S _ i (sevenI (hk seed key)) key v hg hi s0 (by omega)
  have h2 := putG_cnt (isByte 254) S _ i (sevenI (hk seed key)) key v hg hi s0 (by omega)
  have e1 : isFull (bytI (S.w (pg (hk seed key) S.G d)) i) = false := by simp [isFull]; omega
  have e2 : isFull (sevenI (hk seed key)) = true := by simp [isFull]; omega
  have e3 : isByte 254 (sevenI (hk seed key)) = false := by simp [isByte]; omega
  rw [e1, e2] at h1
  rw [e3] at h2
  simp only [Bool.false_eq_true, if_false, if_true] at h1 h2
  refine ⟨_, ⟨?_, h.good.insert key v hm d i hd hi hf hw, ?_, h.gle, ?_⟩, rfl, ?_, ?_⟩
  · rw [putG_G]
    have a1 : ((cnt isFull (putG S (pg (hk seed key) S.G d) i (sevenI (hk seed key)) key v).w S.G : Nat) : Int) = (cnt isFull S.w S.G : Nat) + 1 := by omega
    have a2 : ((cnt (isByte 254) (putG S (pg (hk seed key) S.G d) i (sevenI (hk seed key)) key v).w S.G : Nat) : Int) = if bytI (S.w (pg (hk seed key) S.G d)) i = 254 then ((cnt (isByte 254) S.w S.G : Nat) : Int) - 1 else ((cnt (isByte 254) S.w S.G : Nat) : Int) := by
      by_cases c : bytI (S.w (pg (hk seed key) S.G d)) i = 254
      · rw [if_pos c]; rw [if_pos (by simp [isByte, c])] at h2; omega
      · rw [if_neg c]; rw [if_neg (by simp [isByte, c])] at h2; omega
    rw [a1, a2]
    exact ht
  · rw [putG_G]
    split at h2 <;> omega
  · intro k x hkx
    unfold updM at hkx
    by_cases c : k = key
    · subst c; exact hks
    · rw [if_neg c] at hkx; exact h.ksz k x hkx
  · rw [putG_G]; omega
  · rw [putG_G]; omega

set_option maxRecDepth 100000 in
set_option maxHeartbeats 4000000 in
theorem insert_any {tb gb : Nat} {seed : Int} {S : Grps} {m : ByteArray → Option Int} (w : World) (hT : Tab w tb gb seed S m) (key : ByteArray) (v : Int) (hkey : key.size ≤ maxLen) (hm : m key = none) (hlt : cnt isFull S.w S.G + cnt (isByte 254) S.w S.G < 7 * S.G) :
    Calls Try.prog 56 #[.pointer (some ⟨tb, 0, none⟩), .string key, .int .i64 v] w fun e w' => e = .returned (.tuple #[]) ∧ ∃ S', Tab w' tb gb seed S' (updM m key (some v)) ∧ S'.G = S.G ∧ cnt isFull S'.w S'.G = cnt isFull S.w S.G + 1 ∧ cnt (isByte 254) S'.w S'.G ≤ cnt (isByte 254) S.w S.G ∧ Touch w w' tb gb := by
  obtain ⟨l1, l2⟩ := hT.at'.lt
  obtain ⟨hh0, hh1⟩ := hk_bd seed key
  obtain ⟨s0, s1⟩ := seven_bd seed key
  have hg2 := hT.gle
  have hsum := hT.sum
  have HT := Lib.hid hT
  have ht := hT.at'
  have hgood := hT.good
  have HU : Hid (∀ w' tb gb, Below w.heap.size w w' → Touch w w' tb gb) := fun w' tb gb h => Touch.of_below h
  have hle := cnt_le isFull S.w S.G
  have hle2 := cnt_le (isByte 254) S.w S.G
  have hc8 : cnt isFull S.w S.G < 8 * S.G := by omega
  clear hT
  generalize hB : w.heap.size = B at *
  have HH : Hid (hof seed key.data.toList = hk seed key) := rfl
  generalize hhh : hk seed key = h at *
  go_enter Try.func56, Try.ntmps56
  go_wp2
  have hsz : (((w.alloc (Obj.cells #[.pointer (some ⟨tb, 0, none⟩)] 23)).alloc (Obj.cells #[.string key] 9)).alloc (Obj.cells #[.int .i64 v] 3)).heap.size = B + 3 := by simp [hB]
  have hbel : Below B w (((w.alloc (Obj.cells #[.pointer (some ⟨tb, 0, none⟩)] 23)).alloc (Obj.cells #[.string key] 9)).alloc (Obj.cells #[.int .i64 v] 3)) := by
    refine Below.alloc (Below.alloc (Below.alloc (Below.refl _ _) (by omega) _) (by simp [hB]) _) (by simp [hB]; omega) _
  have hbx : (((w.alloc (Obj.cells #[.pointer (some ⟨tb, 0, none⟩)] 23)).alloc (Obj.cells #[.string key] 9)).alloc (Obj.cells #[.int .i64 v] 3)).heap[B]? = some (.cells #[.pointer (some ⟨tb, 0, none⟩)] 23 (0, 0)) := by
    rw [heap_alloc_old _ _ (by simp [hB]; omega), heap_alloc_old _ _ (by simp [hB]), ← hB]; exact heap_alloc_new _ _
  have hbk : (((w.alloc (Obj.cells #[.pointer (some ⟨tb, 0, none⟩)] 23)).alloc (Obj.cells #[.string key] 9)).alloc (Obj.cells #[.int .i64 v] 3)).heap[B + 1]? = some (.cells #[.string key] 9 (0, 0)) := by
    rw [heap_alloc_old _ _ (by simp [hB])]
    have := heap_alloc_new (w.alloc (Obj.cells #[.pointer (some ⟨tb, 0, none⟩)] 23)) (Obj.cells #[.string key] 9)
    simpa [hB] using this
  have hbv : (((w.alloc (Obj.cells #[.pointer (some ⟨tb, 0, none⟩)] 23)).alloc (Obj.cells #[.string key] 9)).alloc (Obj.cells #[.int .i64 v] 3)).heap[B + 1 + 1]? = some (.cells #[.int .i64 v] 3 (0, 0)) := by
    have := heap_alloc_new ((w.alloc (Obj.cells #[.pointer (some ⟨tb, 0, none⟩)] 23)).alloc (Obj.cells #[.string key] 9)) (Obj.cells #[.int .i64 v] 3)
    simpa [hB] using this
  generalize (((w.alloc (Obj.cells #[.pointer (some ⟨tb, 0, none⟩)] 23)).alloc (Obj.cells #[.string key] 9)).alloc (Obj.cells #[.int .i64 v] 3)) = w3 at *
  have ht3 := ht.belowB hbel l1 l2
  have hkA : ∀ W', Below (B + 3) w3 W' → W'.cell? ⟨tb, 0, none⟩ = some (.int .u64 seed) ∧ W'.cell? ⟨B, 0, none⟩ = some (.pointer (some ⟨tb, 0, none⟩)) ∧ W'.cell? ⟨B + 1, 0, none⟩ = some (.string key) := fun W' hb => ⟨(ht3.belowB hb (by omega) (by omega)).cSeed, by rw [cell_of_row _ _ _ _ _ _ ((hb.block B (by omega)).trans hbx)]; rfl, by rw [cell_of_row _ _ _ _ _ _ ((hb.block (B + 1) (by omega)).trans hbk)]; rfl⟩
  clear ht
  go_region_held3 (fun W => W.cell? ⟨tb, 0, none⟩ = some (.int .u64 seed) ∧ W.cell? ⟨B, 0, none⟩ = some (.pointer (some ⟨tb, 0, none⟩)) ∧ W.cell? ⟨B + 1, 0, none⟩ = some (.string key))
    ((exact hkA _ (by first | exact (Below.refl _ _).drew | exact ((Below.refl _ _).drew).alloc (by simp [hsz]) _ | exact (((Below.refl _ _).drew).alloc (by simp [hsz]) _).setCell (by simp [hsz]) _)))
    (first | (go_at_call 63; refine (hash_any _ _ _ hkey).mono ?_; rintro e w' ⟨rfl, rfl⟩; rw [HH.out]))
  all_goals
    have hbel4 : Below (B + 3) w3 (w3.alloc (Obj.cells #[.int .u64 h] 22)).drew := ((Below.refl _ _).alloc (by omega) _).drew
    have hbh : (w3.alloc (Obj.cells #[.int .u64 h] 22)).drew.heap[B + 3]? = some (.cells #[.int .u64 h] 22 (0, 0)) := by
      have := heap_alloc_new w3 (Obj.cells #[.int .u64 h] 22)
      rw [hsz] at this
      exact this
    generalize (w3.alloc (Obj.cells #[.int .u64 h] 22)).drew = w4 at *
    have hbox : IBox w4 tb B (B + 3) (B + 1) (B + 1 + 1) h key v := ⟨(hbel4.block _ (by omega)).trans hbx, hbh, (hbel4.block _ (by omega)).trans hbk, (hbel4.block _ (by omega)).trans hbv⟩
    have hb5 := hbel.trans (hbel4.mono (by omega))
    have ht4 := ht3.belowB hbel4 (by omega) (by omega)
    clear hbel4 hbh hkA hbel hbx hbk hbv ht3
    obtain ⟨c1, c2, _, _⟩ := hbox.cells
    have hdd : tb ≠ B ∧ tb ≠ B + 3 ∧ tb ≠ B + 1 ∧ tb ≠ B + 1 + 1 ∧ gb ≠ B ∧ gb ≠ B + 3 ∧ gb ≠ B + 1 ∧ gb ≠ B + 1 + 1 := by omega
    go_wp2_with (go_at_call 86; refine (probeI_any _ ht4 hgood hg2 B (B + 3) (B + 1) (B + 1 + 1) h hh0 hh1 key v hbox s0 (by omega) (by omega) (by omega) (by omega) (by omega) hdd hc8).mono ?_; rintro e w5 ⟨rfl, d, i, hdG, hi, hf, hway, ht5, htch⟩)
    (try simp only [Exit.inBlock, Exit.then])
    refine bodyPost_end (results_none rfl _ _ _) rfl ?_
    subst hhh
    obtain ⟨S', h1, h2, h3, h4⟩ := HT.out.put key v hm hkey hlt d i hdG hi hf hway ht5
    exact ⟨rfl, S', h1, h2, h3, h4, (HU.out w4 tb gb hb5).trans htch⟩
end Go.Proofs.Ytkkijcnipjojoaa
