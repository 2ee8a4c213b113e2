/- Contracts of package dict: Scan. -/
import Derived.Test.YtkkijcnipjojoaaDictScan
import Derived.Deep.CutRange
import Derived.Deep.LoopGhost
namespace Go.Proofs.Ytkkijcnipjojoaa
open Go.RowKit

theorem bucketL_len (seed : Int) (S : Nat × List PartR) (c : Nat) : (bucketL seed S c).length ≤ (allK S.2).length := List.length_filter_le _ _
section
variable {w : World} {db : Nat} {seed : Int} {S : Nat × List PartR} {F : Nat → Prop} {M : ByteArray → Option Int} {L : Nat}
/-- What Scan answers. -/
def ScanRes (w w' : World) (r : List ByteArray × Nat) (e : Ending) : Prop := ∃ v l, e = .returned (.tuple #[v, .int .u64 (r.2 : Nat)]) ∧ w'.ownsRow w.heap.size 9 1 v l.length (l.map Value.string) ∧ List.Perm l r.1 ∧ Below w.heap.size w w'
set_option maxRecDepth 100000 in
set_option maxHeartbeats 2000000 in
theorem scan_d (h : Dct w db seed S M F L) (hL : L ≤ 1000000) (c : Int) (h0 : 0 ≤ c) (h1 : c < 18446744073709551616) (count : Int) (n0 : -9223372036854775808 ≤ count) (n1 : count < 9223372036854775808) :
    Calls Try.prog 41 #[.pointer (some ⟨db, 0, none⟩), .int .u64 c, .int .i64 count] w fun e w' => ScanRes w w' (scanR seed S c.toNat count) e := by
  have hd := h.sok.dmax
  have HD := Lib.hid fun (W : World) (hb : Below w.heap.size w W) => (h.step hb)
  have HC : Hid (∀ W, Below w.heap.size w W → W.cell? ⟨db, 1, none⟩ = some (.int .i64 (S.1 : Nat))) := fun W hb => by
    obtain ⟨nds, dr, dc, _, hm, _⟩ := h
    exact (hm.step hb).cells.2.1
  have hfew := h.few
  have HB := Lib.hid fun (W : World) (hb : Below w.heap.size w W) (cc : Nat) (hc : (cc : Int) < 18446744073709551616) => bucket_d (HD.out W hb) hL (cc : Int) (by omega) hc
  have hcl : Hid (clampI (S.1 : Int) = (S.1 : Int)) := clamp_in _ (by omega) (by omega)
  have HX : Hid (∀ (W : World) (cc : Nat), (cc : Int) < 18446744073709551616 → Calls Try.prog 74 #[.int .u64 (cc : Nat), .int .i64 (S.1 : Nat)] W fun e w' => e = .returned (.int .u64 (nxt cc S.1 : Nat)) ∧ W = w') := fun W cc hc => by
    have := next_any (cc : Int) (S.1 : Int) W (by omega) hc
    rw [hcl.out] at this
    simpa using this
  have hbl : Hid (∀ cc, (bucketL seed S cc).length ≤ 1000000) := fun cc => Nat.le_trans (bucketL_len seed S cc) (by omega)
  have hnx : Hid (∀ cc, (nxt cc S.1 : Int) < 65536 + 1) := fun cc => by
    have := nxt_lt cc S.1
    have := pow16 hd
    omega
  obtain ⟨cn, rfl⟩ := Int.eq_ofNat_of_zero_le h0
  obtain ⟨iS, hiS, zS0, zS1, zS2⟩ := info_parts info_str
  unfold scanR
  have hcb := clampC_bd count
  obtain ⟨K, hK⟩ := Int.eq_ofNat_of_zero_le (show 0 ≤ clampC count by omega)
  have hmin : clampC count = if count < 1 then 1 else if 1000 < count then 1000 else count := rfl
  rw [hK] at hcb hmin ⊢
  have hr : scanF (bucketL seed S) S.1 ((K : Int)).toNat (10 * ((K : Int)).toNat) [] ((cn : Int)).toNat = scanF (bucketL seed S) S.1 K (10 * K) [] cn := by simp
  rw [hr]
  clear hr hK h hfew hd
  have HMN := Lib.hid hmin
  generalize hR : scanF (bucketL seed S) S.1 K (10 * K) [] cn = R
  have HR := Lib.hid hR
  clear hR
  generalize hDD : S.1 = D at *
  clear hDD
  have HMN := Lib.hid hmin
  clear hmin
  go_enter Try.func41, Try.ntmps41
  go_upto_region 1 with (fail)
  go_cut [2] from 9 to 11 (fun v W => v = .int .i64 K ∧ W = w)
  case first =>
    have hmin := HMN.out
    by_cases k1 : count < 1
    · rw [if_pos k1] at hmin
      obtain rfl : K = 1 := by omega
      clear hmin
      go_wp2
      go_meet
      case rel => exact ⟨rfl, rfl⟩
    · rw [if_neg k1] at hmin
      by_cases k2 : 1000 < count
      · rw [if_pos k2] at hmin
        obtain rfl : K = 1000 := by omega
        clear hmin
        go_wp2
        go_meet
        case rel => exact ⟨rfl, rfl⟩
      · rw [if_neg k2] at hmin
        subst hmin
        go_wp2
        go_meet
        case rel => exact ⟨rfl, rfl⟩
  case rest =>
    obtain ⟨rfl, rfl⟩ := hcut
    obtain ⟨T, hT⟩ : ∃ T, T = 10 * K := ⟨_, rfl⟩
    have hk0 : 10 * (K : Int) = (T : Int) := by omega
    have hT1 : T ≤ 10000 := by omega
    have HRR : Hid (scanF (bucketL seed S) D K T [] cn = R) := by rw [hT]; exact HR.out
    have HT := Lib.hid hT
    clear hT HR
    go_wp2
    go_loopg [1, 8, 14] T (fun k cv v i wr => ∃ (j cc : Nat) (acc l : List ByteArray), j + k = T ∧ i = .int .i64 j ∧ cv = .int .u64 (cc : Nat) ∧ (cc : Int) < 18446744073709551616 ∧ wr.ownsRow wc.heap.size 9 1 v l.length (l.map Value.string) ∧ l.Perm acc ∧ l.length ≤ j * 1000000 ∧
      scanF (bucketL seed S) D K (T - j) acc cc = R ∧ Below wc.heap.size wc wr)
    case atStart => exact ⟨0, cn, [], [], by omega, rfl, rfl, by omega, World.ownsRow_nil _ _ _ _, List.Perm.refl _, by simp, HRR.out, Below.refl _ _⟩
    case round =>
      obtain ⟨j, cc, acc, l, hj, rfl, rfl, hcc, ho, hpm, hll, hsc, hb⟩ := hrel
      by_cases hlt : j < T
      · have HP := Lib.hid hpm
        have HS := Lib.hid hsc
        have HBU := Lib.hid (HB.out wr hb cc hcc)
        have hbl1 := hbl.out cc
        have hnx1 := hnx.out cc
        have hsz := hb.size
        have hst : scanF (bucketL seed S) D K (T - j) acc cc = if nxt cc D = 0 ∨ K ≤ (acc ++ bucketL seed S cc).length then (acc ++ bucketL seed S cc, nxt cc D) else scanF (bucketL seed S) D K (T - (j + 1)) (acc ++ bucketL seed S cc) (nxt cc D) := by
          obtain ⟨z, hz⟩ : ∃ z, T - j = z + 1 := ⟨T - (j + 1), by omega⟩
          rw [hz, show T - (j + 1) = z by omega]
          rfl
        have hal : acc.length = l.length := HP.out.length_eq.symm
        rw [hsc, List.length_append, hal] at hst
        obtain ⟨tt, htt⟩ : ∃ tt, l.length + (bucketL seed S cc).length = tt := ⟨_, rfl⟩
        rw [htt] at hst
        have HST := Lib.hid hst
        clear hpm hsc hst hal
        have e5 : ∀ l2 : List ByteArray, (l ++ l2).map Value.string = l.map Value.string ++ l2.map Value.string := fun l2 => by simp
        have HE5 := Lib.hid e5
        clear e5
        by_cases q0 : nxt cc D = 0
        · have q1 : ((nxt cc D : Nat) : Int) = 0 := by omega
          have HQ := Lib.hid q0
          go_wp2_with (first | (go_at_call 37; refine HBU.out.mono ?_; rintro e w3 ⟨v2, l2, rfl, o2, p2, hb3⟩; have hsz3 := hb3.size; have hl2 := p2.length_eq; simp only [Int.toNat_natCast] at hl2; have hlen : l.length + l2.length = tt := (by omega); have hl2b : l2.length ≤ 1000000 := (by omega); have HL2 := Lib.hid hlen; clear hl2 hlen; have hb4 := hb.trans (hb3.mono hsz); have kd := HC.out w3 hb4; have P2 := Lib.hid p2; clear p2) | (at_builtin; refine wpList_append_two _ rfl (.tmp 16) (.tmp 19) 39 rfl wc.heap.size 9 iS (.string ByteArray.empty) 16 Try.underlying39 hiS zS0 zS1 zS2 rfl _ _ _ rfl (owns_later ho hb3) _ _ _ _ rfl o2 (strs_one _) (by unfold maxLen; omega) (by omega) (by omega) ?_; intro v' w4 o3 b4; rw [HL2.out] at o3; have hb5 := hb4.trans b4; have kd4 := HC.out w4 hb5; obtain ⟨av, cv, rfl⟩ := owns_slice o3) | (go_at_call 74; refine (HX.out _ cc hcc).mono ?_; rintro e w5 ⟨rfl, rfl⟩))
          go_ret2
          have hst := HST.out
          rw [if_pos (.inl HQ.out)] at hst
          rw [hst]
          refine ⟨_, l ++ l2, by simp only [HQ.out]; rfl, ?_, HP.out.append (by have := P2.out; simpa using this), hb5⟩
          rw [List.length_append, HE5.out, HL2.out]
          exact o3
        · have HX2 := Lib.hid fun (W : World) => HX.out W cc hcc
          have HQ := Lib.hid q0
          generalize nxt cc D = nn at *
          have HTT := Lib.hid htt
          clear htt
          by_cases q2 : K ≤ tt
          · have HQ2 := Lib.hid q2
            go_wp2_with (first | (go_at_call 37; refine HBU.out.mono ?_; rintro e w3 ⟨v2, l2, rfl, o2, p2, hb3⟩; have hsz3 := hb3.size; have hl2 := p2.length_eq; simp only [Int.toNat_natCast] at hl2; have hlen : l.length + l2.length = tt := (by have := HTT.out; omega); have hl2b : l2.length ≤ 1000000 := (by omega); have HL2 := Lib.hid hlen; clear hl2 hlen; have hb4 := hb.trans (hb3.mono hsz); have kd := HC.out w3 hb4; have P2 := Lib.hid p2; clear p2) | (at_builtin; refine wpList_append_two _ rfl (.tmp 16) (.tmp 19) 39 rfl wc.heap.size 9 iS (.string ByteArray.empty) 16 Try.underlying39 hiS zS0 zS1 zS2 rfl _ _ _ rfl (owns_later ho hb3) _ _ _ _ rfl o2 (strs_one _) (by unfold maxLen; omega) (by omega) (by omega) ?_; intro v' w4 o3 b4; rw [HL2.out] at o3; have hb5 := hb4.trans b4; have kd4 := HC.out w4 hb5; obtain ⟨av, cv, rfl⟩ := owns_slice o3) | (go_at_call 74; refine (HX2.out _).mono ?_; rintro e w5 ⟨rfl, rfl⟩))
            go_ret2
            have hst := HST.out
            rw [if_pos (.inr HQ2.out)] at hst
            rw [hst]
            refine ⟨_, l ++ l2, rfl, ?_, HP.out.append (by have := P2.out; simpa using this), hb5⟩
            rw [List.length_append, HE5.out, HL2.out]
            exact o3
          · have HQ2 := Lib.hid q2
            have q9 : (((nn : Nat) : Int) == 0) = false := by simp only [beq_eq_false_iff_ne, ne_eq]; omega
            go_wp2_with (first | (go_at_call 37; refine HBU.out.mono ?_; rintro e w3 ⟨v2, l2, rfl, o2, p2, hb3⟩; have hsz3 := hb3.size; have hl2 := p2.length_eq; simp only [Int.toNat_natCast] at hl2; have hlen : l.length + l2.length = tt := (by have := HTT.out; omega); have hl2b : l2.length ≤ 1000000 := (by omega); have HL2 := Lib.hid hlen; clear hl2 hlen; have hb4 := hb.trans (hb3.mono hsz); have kd := HC.out w3 hb4; have P2 := Lib.hid p2; clear p2) | (at_builtin; refine wpList_append_two _ rfl (.tmp 16) (.tmp 19) 39 rfl wc.heap.size 9 iS (.string ByteArray.empty) 16 Try.underlying39 hiS zS0 zS1 zS2 rfl _ _ _ rfl (owns_later ho hb3) _ _ _ _ rfl o2 (strs_one _) (by unfold maxLen; omega) (by omega) (by omega) ?_; intro v' w4 o3 b4; rw [HL2.out] at o3; have hb5 := hb4.trans b4; have kd4 := HC.out w4 hb5; obtain ⟨av, cv, rfl⟩ := owns_slice o3) | (go_at_call 74; refine (HX2.out _).mono ?_; rintro e w5 ⟨rfl, rfl⟩))
            go_roundg (gk - 1)
            case rel =>
              have hst := HST.out
              rw [if_neg (fun e => e.elim HQ.out HQ2.out)] at hst
              refine ⟨j + 1, nn, acc ++ bucketL seed S cc, l ++ l2, by omega, by go_num, rfl, by omega, ?_, HP.out.append (by have := P2.out; simpa using this), by rw [List.length_append, HL2.out, Nat.add_mul]; omega, hst.symm, hb5⟩
              rw [List.length_append, HE5.out, HL2.out]
              exact o3
            case measure => omega
      · obtain rfl : j = T := by omega
        go_wp2
        go_ret2
        rw [Nat.sub_self] at hsc
        have e : (acc, cc) = R := hsc
        rw [← e]
        exact ⟨_, l, rfl, ho, hpm, hb⟩
end
end Go.Proofs.Ytkkijcnipjojoaa
