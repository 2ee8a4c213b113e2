/- The walk of TableChurns: keys that stay, keys that come and go. -/
import Derived.Test.YtkkijcnipjojoaaKey8
namespace Go.Proofs.Ytkkijcnipjojoaa
open Go.RowKit

/-- The bytes of a rune below 256, read back. -/
def decL : List UInt8 → Nat
  | [a] => a.toNat
  | [a, b] => (a.toNat - 192) * 64 + (b.toNat - 128)
  | _ => 0
set_option maxRecDepth 100000 in
theorem dec_enc (c : Nat) (hc : c < 256) : decL (Utf8.encode (c : Int)).data.toList = c := by
  have hv : Utf8.valid (c : Int) = true := by unfold Utf8.valid; simp; omega
  unfold Utf8.encode
  simp only [hv, if_true, Int.toNat_natCast]
  by_cases h : c < 128
  · rw [if_pos h]
    show (UInt8.ofNat c).toNat = c
    rw [UInt8.toNat_ofNat']
    omega
  · rw [if_neg h, if_pos (by omega)]
    show ((UInt8.ofNat (192 + c / 64)).toNat - 192) * 64 + ((UInt8.ofNat (128 + c % 64)).toNat - 128) = c
    rw [UInt8.toNat_ofNat', UInt8.toNat_ofNat']
    omega
theorem enc_inj {a b : Nat} (ha : a < 256) (hb : b < 256) (h : Utf8.encode (a : Int) = Utf8.encode (b : Int)) : a = b := by
  have h1 := dec_enc a ha
  have h2 := dec_enc b hb
  rw [h] at h1
  exact h1.symm.trans h2
theorem app_list (x y : ByteArray) : (x ++ y).data.toList = x.data.toList ++ y.data.toList := by simp

def stayK (i : Int) : ByteArray := { data := #[115, 116, 97, 121] } ++ Utf8.encode (48 + i)
def goK (i : Int) : ByteArray := { data := #[103, 111] } ++ Utf8.encode (48 + i)
theorem stay_inj {a b : Nat} (ha : a ≤ 100) (hb : b ≤ 100) (h : stayK a = stayK b) : a = b := by
  have h1 := congrArg (fun x : ByteArray => x.data.toList) h
  simp only [stayK, app_list, List.append_cancel_left_eq] at h1
  have h2 : Utf8.encode (48 + (a : Int)) = Utf8.encode (48 + (b : Int)) := ByteArray.ext (Array.toList_inj.1 h1)
  have := enc_inj (a := 48 + a) (b := 48 + b) (by omega) (by omega) (by simpa using h2)
  omega
theorem stay_go (a b : Int) : stayK a ≠ goK b := by
  intro h
  have h1 := congrArg (fun x : ByteArray => x.data.toList) h
  simp [stayK, goK] at h1
theorem stayK_size (i : Int) : (stayK i).size ≤ 8 := by
  have := encode_size (48 + i)
  unfold stayK
  rw [ByteArray.size_append]
  show 4 + _ ≤ 8
  omega
theorem goK_size (i : Int) : (goK i).size ≤ 8 := by
  have := encode_size (48 + i)
  unfold goK
  rw [ByteArray.size_append]
  show 2 + _ ≤ 8
  omega

def stayM : Nat → ByteArray → Option Int
  | 0 => fun _ => none
  | i + 1 => updM (stayM i) (stayK i) (some (i : Int))
def stayL (i : Nat) : List ByteArray := (List.range i).map fun j => stayK (j : Nat)
theorem stayL_len (i : Nat) : (stayL i).length = i := by simp [stayL]
theorem stayL_succ (i : Nat) : stayL (i + 1) = stayL i ++ [stayK i] := by simp [stayL, List.range_succ]
theorem stay_notin (i : Nat) (hi : i ≤ 100) : stayK i ∉ stayL i := by
  unfold stayL
  rw [List.mem_map]
  rintro ⟨j, hj, e⟩
  rw [List.mem_range] at hj
  have := stay_inj (by omega) hi e
  omega
theorem stay_card (i : Nat) (hi : i ≤ 101) : Card (stayM i) (stayL i) := by
  induction i with
  | zero => exact Card.nil
  | succ i ih =>
    have h := ih (by omega)
    rw [stayL_succ]
    refine h.snoc ?_ _
    cases hm : stayM i (stayK i) with
    | none => rfl
    | some x => exact absurd ((h.2 _).2 (by rw [hm]; simp)) (stay_notin i (by omega))
theorem stay_none (i : Nat) (hi : i ≤ 100) : stayM i (stayK i) = none := by
  cases hm : stayM i (stayK i) with
  | none => rfl
  | some x => exact absurd (((stay_card i (by omega)).2 _).2 (by rw [hm]; simp)) (stay_notin i hi)
theorem stay_val (k i : Nat) (hk : k ≤ 101) (hi : i < k) : stayM k (stayK i) = some (i : Int) := by
  induction k with
  | zero => omega
  | succ k ih =>
    show updM (stayM k) (stayK k) (some (k : Int)) (stayK i) = _
    unfold updM
    by_cases c : i = k
    · subst c; rw [if_pos rfl]
    · rw [if_neg (fun e => c (stay_inj (by omega) (by omega) e))]; exact ih (by omega) (by omega)
theorem stay_gone (k : Nat) (j : Int) : stayM k (goK j) = none := by
  induction k with
  | zero => rfl
  | succ k ih =>
    show updM (stayM k) (stayK k) (some (k : Int)) (goK j) = _
    unfold updM
    rw [if_neg (fun e => stay_go _ _ e.symm)]; exact ih
theorem upd_back (m : ByteArray → Option Int) (k : ByteArray) (v : Int) (h : m k = none) : updM (updM m k (some v)) k none = m := by
  funext x
  unfold updM
  by_cases c : x = k
  · subst c; rw [if_pos rfl, h]
  · rw [if_neg c, if_neg c]

/-- The table, with those that stay. -/
def Stay (w wr : World) (tb : Nat) (seed : Int) (k : Nat) : Prop := ∃ gb, TB wr tb gb seed (stayM k) ∧ Below w.heap.size w wr ∧ w.heap.size ≤ tb ∧ w.heap.size ≤ gb ∧ w.heap.size ≤ wr.heap.size
theorem Stay.step {w wr w' : World} {tb : Nat} {seed : Int} {k : Nat} (h : Stay w wr tb seed k) (hb : Below wr.heap.size wr w') : Stay w w' tb seed k := by
  obtain ⟨gb, h1, h2, h3, h4, h5⟩ := h
  have := hb.size
  exact ⟨gb, h1.later hb, h2.trans (hb.mono h5), h3, h4, by omega⟩

theorem churn_del {tb gb : Nat} {seed : Int} {m : ByteArray → Option Int} {key : ByteArray} {v : Int} (w : World) (hT : TB w tb gb seed (updM m key (some v))) (hm : m key = none) (hkey : key.size ≤ maxLen) :
    Calls Try.prog 18 #[.pointer (some ⟨tb, 0, none⟩), .string key] w fun e w' => e = .returned (.bool true) ∧ TB w' tb gb seed m ∧ Touch w w' tb gb := by
  refine (delete_tb w hT key hkey).mono ?_
  rintro e w' ⟨rfl, h1, h2⟩
  rw [upd_back m key v hm] at h1
  exact ⟨by simp [updM], h1, h2⟩
theorem churn_len {w : World} {tb gb : Nat} {seed : Int} {S : Grps} {m : ByteArray → Option Int} {ks : List ByteArray} (h : Tab w tb gb seed S m) (hc : Card m ks) :
    Calls Try.prog 19 #[.pointer (some ⟨tb, 0, none⟩)] w fun e w' => e = .returned (.int .i64 (ks.length : Nat)) ∧ w = w' := by
  have := len8_any h.at'
  rw [(h.good.count ks hc.1 hc.2).1] at this
  exact this
theorem churn_sum {w : World} {tb gb : Nat} {seed : Int} {S : Grps} {m : ByteArray → Option Int} {ks : List ByteArray} (h : Tab w tb gb seed S m) (hc : Card m ks) : ks.length + cnt (isByte 254) S.w S.G ≤ 7 * S.G := by
  have := h.sum
  rw [(h.good.count ks hc.1 hc.2).1] at this
  exact this

set_option maxRecDepth 100000 in
set_option maxHeartbeats 2000000 in
theorem churns8_walk (seed n times : Int) (w : World) :
    Calls Try.prog 3 #[.int .u64 seed, .int .i64 n, .int .i64 times] w fun e w' => e = .returned (.bool true) ∧ Below w.heap.size w w' := by
  obtain ⟨nb0, nb1⟩ := within_bd n 0 100 (by omega)
  obtain ⟨tb0, tb1⟩ := within_bd times 0 400 (by omega)
  obtain ⟨kn, hkn⟩ := Int.eq_ofNat_of_zero_le nb0
  obtain ⟨kt, hkt⟩ := Int.eq_ofNat_of_zero_le tb0
  have HN := Lib.hid hkn
  have HK := Lib.hid hkt
  have b1 : kn ≤ 100 := by omega
  have b2 : kt ≤ 400 := by omega
  clear hkn hkt nb0 nb1 tb0 tb1
  have tok1 : True := trivial
  go_enter Try.func3, Try.ntmps3
  go_wp2_with (first | (go_at_call 15; refine (new_tb _ _).mono ?_; rintro e w1 ⟨tb, gb, rfl, h1, h2, hT, hb1⟩) | (go_at_call 16; have _t := tok1; refine (within_any _ _ _ _ (by omega) (by omega) (by omega)).mono ?_; rintro e w' ⟨rfl, rfl⟩; rw [HN.out]; clear tok1))
  have h0 : Stay w w1 tb seed 0 := ⟨gb, hT, hb1, by omega, h1, hb1.size⟩
  clear hT hb1 h1 h2
  go_loopw [9] (fun i wr => ∃ k : Nat, k ≤ kn ∧ i = .int .i64 k ∧ Stay w wr tb seed k) (fun i _ => kn - (intOf i).toNat)
  case atStart => exact ⟨0, by omega, rfl, h0⟩
  case round =>
    clear h0
    obtain ⟨k, hk, rfl, hS⟩ := hrel
    by_cases hlt : k < kn
    · obtain ⟨gb, hT, hbl, l1, l2, l3⟩ := hS
      have e1 := encode_size (48 + (k : Int))
      have HP := Lib.hid (put_tb wr hT (stay_card k (by omega)) (stayK k) (k : Int) (by have := stayK_size (k : Int); unfold maxLen; omega) (.inr (by rw [stayL_len]; omega)))
      go_wp2_with (go_at_call 17; refine HP.out.mono ?_; rintro e w2 ⟨rfl, g2, hT2, hp⟩)
      go_roundw
      case rel =>
        have hs := hp.2.size
        have hg := hp.1
        exact ⟨k + 1, by omega, by go_num, g2, hT2, hbl.trans (hp.2.below l3 l1 l2), l1, by omega, by omega⟩
      case measure => simp [intOf]; omega
    · obtain rfl : k = kn := by omega
      clear hk hlt
      go_wp2_with (go_at_call 16; refine (within_any _ _ _ _ (by omega) (by omega) (by omega)).mono ?_; rintro e w' ⟨rfl, rfl⟩; rw [HK.out])
      go_loopw [10] (fun i ws => ∃ j : Nat, j ≤ kt ∧ i = .int .i64 j ∧ Stay w ws tb seed k) (fun i _ => (intOf i).toNat)
      case atStart => exact ⟨kt, by omega, rfl, hS⟩
      case round =>
        clear hS
        obtain ⟨j, hj, rfl, hS⟩ := hrel
        by_cases hpos : 0 < j
        · obtain ⟨gb, hT, hbl, l1, l2, l3⟩ := hS
          have e1 := encode_size (48 + (j : Int) % 200)
          have hks : (goK ((j : Int) % 200)).size ≤ maxLen := by have := goK_size ((j : Int) % 200); unfold maxLen; omega
          have hnone := stay_gone k ((j : Int) % 200)
          have HP := Lib.hid (put_tb _ hT (stay_card k (by omega)) (goK ((j : Int) % 200)) (j : Int) hks (.inr (by rw [stayL_len]; omega)))
          have HD := Lib.hid fun (W : World) g (h : TB W tb g seed (updM (stayM k) (goK ((j : Int) % 200)) (some (j : Int)))) => churn_del W h hnone hks
          clear hnone hks hT
          go_wp2_with (first | (go_at_call 17; refine HP.out.mono ?_; rintro e w2 ⟨rfl, g2, hT2, hp⟩) | (go_at_call 18; refine (HD.out _ _ hT2).mono ?_; rintro e w3 ⟨rfl, hT3, htch⟩; obtain ⟨S3, hS3, hP3⟩ := hT3; have hL3 := churn_len hS3 (stay_card k (by omega)); have hsum := churn_sum hS3 (stay_card k (by omega)); rw [stayL_len] at hL3 hsum; have HL3 := Lib.hid hL3; clear hL3; have hG3 := hS3.gle; have HM3 := Lib.hid (marks8_any hS3.at'); have HG3 := Lib.hid (groups8_any hS3.at'); have HS3 := Lib.hid hS3; clear hS3; generalize hcm : cnt (isByte 254) S3.w S3.G = cm at HM3 hsum; generalize hgg : S3.G = G at HG3 hsum hG3; clear hcm hgg; have hq1 : decide (7 * (G : Int) < (k : Int) + (cm : Int)) = false := (by simp; omega)) | (go_at_call 19; refine HL3.out.mono ?_; rintro e w4 ⟨rfl, rfl⟩) | (go_at_call 20; refine HM3.out.mono ?_; rintro e w4 ⟨rfl, rfl⟩) | (go_at_call 21; refine HG3.out.mono ?_; rintro e w4 ⟨rfl, rfl⟩))
          have hs := hp.2.size
          have hs2 := htch.size
          have hg := hp.1
          have hlo2 : w.heap.size ≤ g2 := by omega
          have hbe : Below w.heap.size w w3 := (hbl.trans (hp.2.below l3 l1 l2)).trans (htch.below (by omega) l1 hlo2)
          exact ⟨⟨j - 1, by omega, by rw [show ((j : Int) - 1) = ((j - 1 : Nat) : Int) from by omega], g2, ⟨S3, HS3.out, hP3⟩, hbe, l1, hlo2, by omega⟩, by simp [intOf]; omega⟩
        · obtain rfl : j = 0 := by omega
          clear hpos hj
          go_wp2
          go_loopw [12] (fun i wt => ∃ j : Nat, j ≤ k ∧ i = .int .i64 j ∧ Stay w wt tb seed k) (fun i _ => k - (intOf i).toNat)
          case atStart => exact ⟨0, by omega, rfl, hS⟩
          case round =>
            clear hS
            obtain ⟨j, hj, rfl, hS⟩ := hrel
            by_cases hlt : j < k
            · obtain ⟨gb, hT, hbl, l1, l2, l3⟩ := hS
              have e1 := encode_size (48 + (j : Int))
              have HG := Lib.hid (stay_val k j (by omega) hlt ▸ get_tb _ hT (stayK (j : Int)) (by have := stayK_size (j : Int); unfold maxLen; omega))
              go_wp2_with (go_at_call 22; refine HG.out.mono ?_; rintro e w2 ⟨rfl, hb2⟩)
              go_roundw
              case rel =>
                have hs := hb2.size
                (repeat apply Exists.intro)
                exact ⟨⟨j + 1, by omega, by go_num, gb, hT.later hb2, hbl.trans (hb2.mono l3), l1, l2, by omega⟩, rfl⟩
              case measure => simp [intOf]; omega
            · obtain rfl : j = k := by omega
              clear hlt hj
              obtain ⟨gb, hT, hbl, l1, l2, l3⟩ := hS
              go_wp2_with (go_at_call 23; refine (known8_any _).mono ?_; rintro e w6 ⟨rfl, hb6⟩)
              go_ret
              exact ⟨rfl, hbl.trans (hb6.mono l3)⟩
end Go.Proofs.Ytkkijcnipjojoaa
