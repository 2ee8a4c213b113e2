/- Contracts of tallboylaw10: name, key, known; tallboykeep.Lists. -/
import Derived.Test.YtkkijcnipjojoaaDictScan2
import Derived.Test.YtkkijcnipjojoaaAsks
namespace Go.Proofs.Ytkkijcnipjojoaa
open Go.RowKit

/-- The first so many letters of a name. -/
def nm (n : Nat) : Nat → ByteArray
  | 0 => { data := #[107] }
  | i + 1 => nm n i ++ Utf8.encode (97 + ((n / 26 ^ i % 26 : Nat) : Int))
def nameS (n : Nat) : ByteArray := nm n 4
theorem nm_size (n i : Nat) : (nm n i).size ≤ 1 + 4 * i := by
  induction i with
  | zero => exact Nat.le_refl _
  | succ i ih =>
    unfold nm
    rw [ByteArray.size_append]
    have := encode_size (97 + ((n / 26 ^ i % 26 : Nat) : Int))
    omega
theorem nameS_size (n : Nat) : (nameS n).size ≤ 20 := by have := nm_size n 4; unfold nameS; omega
set_option maxRecDepth 100000 in
set_option maxHeartbeats 1000000 in
theorem name_any (n : Nat) (w : World) (hn : n ≤ 100000000) : Calls Try.prog 33 #[.int .i64 (n : Nat)] w fun e w' => e = .returned (.string (nameS n)) ∧ w = w' := by
  go_enter Try.func33, Try.ntmps33
  go_wp2
  go_loopg [0, 3, 4] 4 (fun k nv s i wr => ∃ (j : Nat) (m : Int), j + k = 4 ∧ i = .int .i64 j ∧ s = .string (nm n j) ∧ nv = .int .i64 m ∧ m = ((n / 26 ^ j : Nat) : Int) ∧ wr = w)
  case atStart => exact ⟨0, n, by omega, rfl, rfl, rfl, by simp, rfl⟩
  case round =>
    obtain ⟨j, m, hj, rfl, rfl, rfl, hm, rfl⟩ := hrel
    have hml : 0 ≤ m ∧ m ≤ 100000000 := by
      have := Nat.div_le_self n (26 ^ j)
      generalize n / 26 ^ j = q at *
      omega
    obtain ⟨hm0, hm1⟩ := hml
    have HN : Hid (nm n (j + 1) = nm n j ++ Utf8.encode (97 + m % 26)) := by
      unfold Hid
      have e : m % 26 = ((n / 26 ^ j % 26 : Nat) : Int) := by generalize n / 26 ^ j = q at *; omega
      rw [e]; rfl
    have HM : Hid (m / 26 = ((n / 26 ^ (j + 1) : Nat) : Int)) := by
      unfold Hid
      rw [Nat.pow_succ, ← Nat.div_div_eq_div_mul]
      generalize n / 26 ^ j = q at *
      omega
    clear hm
    have e1 := encode_size (97 + m % 26)
    have e2 := nm_size n j
    by_cases hlt : j < 4
    · have e3 : (nm n j).size ≤ 100 := by omega
      clear e2
      go_wp2
      go_roundg (gk - 1)
      case measure => omega
      case rel =>
        refine ⟨j + 1, m / 26, by omega, by go_num, ?_, rfl, HM.out, rfl⟩
        rw [HN.out]
    · obtain rfl : j = 4 := by omega
      go_wp2
      go_ret
      exact ⟨rfl, rfl⟩

set_option maxRecDepth 100000 in
set_option maxHeartbeats 1000000 in
theorem key10_any (w : World) (K N V : Int) (S : ByteArray) : Calls Try.prog 48 #[.agg #[.int .i64 K, .int .i64 N, .int .i64 V, .string S]] w fun e w' => SomeKey w w' e := by
  have hb := within_bd N 0 1048576 (by omega)
  by_cases c : N.tmod 4 = 0
  · have c1 : (N.tmod 4 == 0) = true := by simp [c]
    have hc := cutB_size S 20
    go_enter Try.func48, Try.ntmps48
    go_wp2_with (go_at_call 59; refine (cut_any S 20 _).mono ?_; rintro e w' ⟨rfl, rfl⟩)
    go_ret
    exact ⟨_, rfl, hc, (Below.refl _ _).alloc (Nat.le_refl _) _⟩
  · have c1 : (N.tmod 4 == 0) = false := by simp [c]
    generalize hn : within N 0 1048576 = n at *
    have HN := Lib.hid hn
    clear hn c
    obtain ⟨hb0, hb1⟩ := hb
    obtain ⟨m, rfl⟩ := Int.eq_ofNat_of_zero_le hb0
    have HM := Lib.hid fun (W : World) => name_any (m % 2000) W (by omega)
    have hq : ((m % 2000 : Nat) : Int) = (m : Int) % 2000 := by omega
    go_enter Try.func48, Try.ntmps48
    go_wp2_with (first | (go_at_call 16; refine (within_any _ _ _ _ (by omega) (by omega) (by omega)).mono ?_; rintro e w' ⟨rfl, rfl⟩; rw [HN.out]) | (go_at_call 33; refine (HM.out _).mono ?_; rintro e w' ⟨rfl, rfl⟩))
    go_ret
    exact ⟨_, rfl, nameS_size _, (Below.refl _ _).alloc (Nat.le_refl _) _⟩

set_option maxRecDepth 100000 in
set_option maxHeartbeats 1000000 in
theorem lists_yes (w : World) (v u : Value) (zs : List ByteArray) (hv : ReadsS w v zs) (hu : ReadsS w u zs) :
    Calls Try.prog 69 #[v, u] w fun e w' => e = .returned (.bool true) ∧ IsDrew w w' := by
  obtain ⟨a, c, rfl, hl, hc⟩ := hv.len
  obtain ⟨a2, c2, rfl, _, hc2⟩ := hu.len
  have HA := Lib.hid hc
  have HB := Lib.hid hc2
  unfold maxLen at hl
  clear hc hc2 hv hu
  go_enter Try.func69, Try.ntmps69
  go_wp2
  go_loopg [5] zs.length (fun g i wr => ∃ k : Nat, k + g = zs.length ∧ i = .int .i64 k ∧ IsDrew w wr)
  case atStart => exact ⟨0, by omega, rfl, IsDrew.refl _⟩
  case round =>
    obtain ⟨k, hk, rfl, m0, rfl⟩ := hrel
    by_cases hlt : k < zs.length
    · obtain ⟨q, hq⟩ : ∃ q, zs[k]? = some q := ⟨zs[k], List.getElem?_eq_getElem hlt⟩
      obtain ⟨b, off, rfl, h1⟩ := HA.out k q hq
      obtain ⟨b2, off2, rfl, h2⟩ := HB.out k q hq
      clear hq
      have he : (q.toList == q.toList) = true := by simp
      go_wp2
      go_quiet (fail)
      go_wp2
      go_roundg (gk - 1)
      case measure => omega
      case rel => exact ⟨k + 1, by omega, by go_num, IsDrew.one _ _⟩
    · obtain rfl : k = zs.length := by omega
      go_wp2
      go_ret
      exact ⟨rfl, _, rfl⟩

/-- A dict of one key. -/
theorem put_first (seed : Int) (key : ByteArray) : putS seed (0, [⟨0, 0, []⟩]) key = (0, [⟨0, 0, [key]⟩]) := by
  have hx : ∀ h, pix [(⟨0, 0, []⟩ : PartR)] h = 0 := fun h => by
    have : fitsB h ⟨0, 0, []⟩ = true := by rw [fitsB_iff]; simp; omega
    unfold pix; rw [List.findIdx_cons, this]; rfl
  unfold putS
  rw [if_neg (by simp [inB', allK])]
  have hp : ((0, [(⟨0, 0, []⟩ : PartR)]) : Nat × List PartR).2[pix ((0, [(⟨0, 0, []⟩ : PartR)]) : Nat × List PartR).2 (hN seed key)]? = some ⟨0, 0, []⟩ := by rw [hx]; rfl
  rw [growS_stop hp (.inl (by simp)), addS_eq hp]
  simp only
  rw [hx]
  rfl
theorem bucket_first (seed : Int) (key : ByteArray) : bucketL seed (0, [⟨0, 0, [key]⟩]) 0 = [key] := by
  unfold bucketL
  simp [allK, Nat.mod_one]
theorem nxt_first : nxt 0 0 = 0 := by decide
theorem scan_first (seed : Int) (key : ByteArray) : scanR seed (0, [⟨0, 0, [key]⟩]) 0 1 = ([key], 0) := by
  unfold scanR
  have : clampC 1 = 1 := by decide
  rw [this]
  show scanF _ 0 1 (9 + 1) [] 0 = _
  unfold scanF
  rw [bucket_first, nxt_first, if_pos (.inl rfl)]
  rfl

set_option maxRecDepth 100000 in
set_option maxHeartbeats 1000000 in
theorem known10_any (w : World) : Calls Try.prog 36 #[] w fun e w' => e = .returned (.bool true) ∧ Below w.heap.size w w' := by
  have hm1 : updM (fun _ => none) kA (some 5) kA = some 5 := by simp [updM]
  have HP := Lib.hid fun (W : World) (db : Nat) (F : Nat → Prop) (h : Dct W db 1 (0, [⟨0, 0, []⟩]) (fun _ => none) F 0) => put_first 1 kA ▸ put_d h kA (by decide) 5 (by omega)
  have HG := Lib.hid fun (W : World) (db : Nat) (F : Nat → Prop) (h : Dct W db 1 (0, [⟨0, 0, [kA]⟩]) (updM (fun _ => none) kA (some 5)) F 2) => hm1 ▸ get_d h kA kA_size
  have HS := Lib.hid fun (W : World) (db : Nat) (F : Nat → Prop) (h : Dct W db 1 (0, [⟨0, 0, [kA]⟩]) (updM (fun _ => none) kA (some 5)) F 2) => scan_d h (by omega) 0 (by omega) (by omega) 1 (by omega) (by omega)
  have HSF := Lib.hid (scan_first 1 kA)
  have HD := Lib.hid fun (W : World) (db : Nat) (F : Nat → Prop) (h : Dct W db 1 (0, [⟨0, 0, [kA]⟩]) (updM (fun _ => none) kA (some 5)) F 2) => depth_d h
  have HT := Lib.hid fun (W : World) (db : Nat) (F : Nat → Prop) (h : Dct W db 1 (0, [⟨0, 0, [kA]⟩]) (updM (fun _ => none) kA (some 5)) F 2) => tables_d h
  clear hm1
  go_enter Try.func36, Try.ntmps36
  go_wp2_with (first | (go_at_call 32; refine (new_d _ _).mono ?_; rintro e w1 ⟨db, F, rfl, hT1, hb1, hF1⟩; have hsz := hb1.size) | (go_at_call 34; refine (HP.out _ _ _ hT1).mono ?_; rintro e w2 ⟨rfl, F2, hT2, hfr⟩; obtain ⟨b2, hF2⟩ := hfr.below hsz hF1; have hb2 := hb1.trans b2) | (go_at_call 49; refine (HG.out _ _ _ hT2).mono ?_; rintro e w3 ⟨rfl, b3⟩; have hT3 := hT2.step b3; have hb3 := hb2.trans (b3.mono hb2.size)) | (go_at_call 41; refine (HS.out _ _ _ hT3).mono ?_; rintro e w4 ⟨v, l, rfl, o4, p4, b4⟩; have hT4 := hT3.step b4; have hb4 := hb3.trans (b4.mono hb3.size); have p4 := HSF.out ▸ p4; have hle := p4.eq_singleton) | (go_at_call 35; refine (HD.out _ _ _ hT4).mono ?_; rintro e w5 ⟨rfl, rfl⟩) | (go_at_call 51; refine (HT.out _ _ _ hT4).mono ?_; rintro e w6 ⟨rfl, b6⟩; have hb6 := hb4.trans (b6.mono hb4.size); have o6 := owns_later o4 b6) | (go_at_call 69; refine (lists_yes _ v _ [kA] (ReadsV.owns (owns_later (hle ▸ o6) (b_al8 _ _))) (ReadsV.owns (World.ownsRow_lit w6 #[.string kA] 1 (Nat.le_refl _) (by unfold maxLen; omega) rfl (e := 9)))).mono ?_; rintro e w7 ⟨rfl, n7, rfl⟩))
  go_ret
  exact ⟨rfl, hb6.trans (((b_al8 _ _).trans ((IsDrew.one _ n7).below _)).mono hb6.size)⟩
end Go.Proofs.Ytkkijcnipjojoaa
