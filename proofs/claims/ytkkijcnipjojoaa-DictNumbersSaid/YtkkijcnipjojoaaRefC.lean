/- The document's dict: contracts of its Bucket and Scan; dict's Pick. -/
import Derived.Test.YtkkijcnipjojoaaRefB
namespace Go.Proofs.Ytkkijcnipjojoaa
open Go.RowKit

theorem rbuck_any (c d : Int) (w : World) (h0 : 0 ≤ c) (h1 : c < 18446744073709551616) :
    Calls Try.prog 39 #[.int .u64 c, .int .i64 d] w fun e w' => e = .returned (.int .u64 (lowI c d)) ∧ w = w' := by
  go_enter Try.func39, Try.ntmps39
  go_wp2_with (go_at_call 38; refine (rlow_any _ _ _ (by omega) (by omega)).mono ?_; rintro e w' ⟨rfl, rfl⟩)
  go_ret
  exact ⟨rfl, rfl⟩
section
variable {w : World} {rb : Nat} {seed : Int} {S : Nat × List PartR} {G : Nat → Prop} {L : Nat}
set_option maxRecDepth 100000 in
set_option maxHeartbeats 2000000 in
theorem bucket_r (h : Rct w rb seed S G L) (hL : L ≤ 1000000) (c : Int) (h0 : 0 ≤ c) (h1 : c < 18446744073709551616) :
    Calls Try.prog 80 #[.pointer (some ⟨rb, 0, none⟩), .int .u64 c] w fun e w' => ∃ v, e = .returned v ∧ w'.ownsRow w.heap.size 9 1 v (bucketL seed S c.toNat).length ((bucketL seed S c.toNat).map Value.string) ∧ Below w.heap.size w w' := by
  have HK := Lib.hid (all_r h hL)
  obtain ⟨qs, rr, rc, hq, hm, hS, hfew⟩ := h
  have hD := hS.dmax
  obtain ⟨c0, c1, c2⟩ := hm.cells
  have HSZ : Hid (∀ k ∈ allK S.2, k.size ≤ 20) := fun k hk => hS.all_size hk
  have HC0 := Lib.hid fun (W : World) (hb : Below w.heap.size w W) => (hm.step hb).cells
  have HB := Lib.hid fun (W : World) => low_nat c S.1 h0 hD ▸ rbuck_any c S.1 W h0 h1
  have HB2 := Lib.hid fun (W : World) (k : ByteArray) => low_hk seed k S.1 hD ▸ rlow_any (hk seed k) S.1 W (hk_bd seed k).1 (hk_bd seed k).2
  have HH := Lib.hid fun (W : World) (k : ByteArray) (hk' : k.size ≤ maxLen) => rhash_hk seed k W hk'
  obtain ⟨iS, hiS, zS0, zS1, zS2⟩ := info_parts info_str
  have HRE : Hid (bucketL seed S c.toNat = (allK S.2).filter fun k => decide (hN seed k % 2 ^ S.1 = c.toNat % 2 ^ S.1)) := rfl
  clear hm hS hq
  generalize bucketL seed S c.toNat = BL at *
  generalize allK S.2 = l0 at *
  generalize hbb : c.toNat % 2 ^ S.1 = b at *
  generalize 2 ^ S.1 = N at *
  generalize hDD : S.1 = D at *
  clear hbb hDD
  go_enter Try.func80, Try.ntmps80
  go_wp2_with (go_at_call 79; refine HK.out.mono ?_; rintro e w2 ⟨v0, rfl, o0, hb2⟩; have hr0 := hb2.size; obtain ⟨a0, cap0, e0, _, hcell0⟩ := (ReadsV.owns o0).len; subst e0; clear hcell0)
  have HO := Lib.hid o0
  have HBB := Lib.hid hb2
  clear o0 hb2
  go_loopw [5, 7] (fun v i wr => ∃ j : Nat, j ≤ l0.length ∧ i = .int .i64 j ∧ wr.ownsRow w2.heap.size 9 1 v ((l0.take j).filter fun k => decide (hN seed k % N = b)).length (((l0.take j).filter fun k => decide (hN seed k % N = b)).map Value.string) ∧ Below w2.heap.size w2 wr) (fun _ i _ => l0.length - (intOf i).toNat)
  case atStart => exact ⟨0, by omega, rfl, World.ownsRow_nil _ _ _ _, Below.refl _ _⟩
  case round =>
    obtain ⟨j, hj, rfl, ho, hb⟩ := hrel
    by_cases hlt : j < l0.length
    · obtain ⟨y, hy⟩ : ∃ y, l0[j]? = some y := ⟨_, List.getElem?_eq_getElem hlt⟩
      obtain ⟨a', c', e1, _, hcell⟩ := (ReadsV.owns (owns_later HO.out hb)).len
      simp only [Value.slice.injEq] at e1
      obtain ⟨rfl, hh, rfl⟩ := e1
      clear hh
      obtain ⟨g, off, rfl, hcy⟩ := hcell j y hy
      have hys : y.size ≤ maxLen := by have := HSZ.out y (List.mem_of_getElem? hy); unfold maxLen; omega
      have hb0 := HBB.out.trans (hb.mono HBB.out.size)
      obtain ⟨k0, k1, k2⟩ := HC0.out wr hb0
      have hsz1 := hb.size
      have hll : ((l0.take j).filter fun k => decide (hN seed k % N = b)).length ≤ 1000000 := by
        have h1 := List.length_filter_le (fun k => decide (hN seed k % N = b)) (l0.take j)
        rw [List.length_take] at h1
        omega
      have HY := Lib.hid hy
      have HH1 := Lib.hid fun (W : World) => HH.out W y hys
      have HB3 := Lib.hid fun (W : World) => HB2.out W y
      clear hcell hy c0 c1 c2
      by_cases hc : hN seed y % N = b
      · have HS := Lib.hid (filter_snoc_pos (P := fun k => decide (hN seed k % N = b)) HY.out (by simpa using hc))
        have HQ := Lib.hid hc
        clear hc
        obtain ⟨ax, cx, rfl⟩ := owns_slice ho
        rw [HQ.out] at HB3
        go_wp2
        go_quiet ((first | (go_at_call 29; exact q_same (HH1.out _)) | (go_at_call 38; exact q_same (HB3.out _)) | (go_at_call 39; exact q_same (HB.out _))))
        go_wp2_with (at_builtin; refine wpList_append_lies _ rfl (.tmp 37) (.tmp 42) 39 rfl w2.heap.size 9 iS (.string ByteArray.empty) 1 16 Try.underlying39 hiS zS0 zS1 zS2 rfl (by decide) _ _ _ rfl (owns_later (owns_later ho ((IsDrew.one wr _).below _)) (b_al8 _ _)) ⟨wr.heap.size, 0, none⟩ 1 1 [.string y] rfl rfl (cell1 (wr.drewN _) _ _) str_cell (by omega) (by unfold maxLen; omega) (by omega) (by simp; omega) _ rfl ?_; intro g2 cap2 w' h2 h3 h4 h5)
        go_roundw
        case rel =>
          refine ⟨j + 1, by omega, by go_num, ?_, ?_⟩
          · rw [HS.out]
            simp only [List.length_append, List.length_singleton, List.map_append, List.map_cons, List.map_nil]
            exact h2
          · have b3 := grown_below (owns_later (owns_later ho ((IsDrew.one wr _).below _)) (b_al8 _ _)) h3 (by simp; omega)
            exact (hb.trans ((((IsDrew.one wr _).below _).trans ((b_al8 (wr.drewN _) _).mono (Nat.le_refl _))).mono hsz1)).trans b3
        case measure => simp [intOf]; omega
      · have HS := Lib.hid (filter_snoc_neg (P := fun k => decide (hN seed k % N = b)) HY.out (by simpa using hc))
        generalize hN seed y % N = z at *
        have hzb : ((z : Int) == (b : Int)) = false := by simp only [beq_eq_false_iff_ne, ne_eq]; omega
        clear hc
        go_wp2
        go_quiet ((first | (go_at_call 29; exact q_same (HH1.out _)) | (go_at_call 38; exact q_same (HB3.out _)) | (go_at_call 39; exact q_same (HB.out _))))
        go_wp2
        go_roundw
        case rel =>
          refine ⟨j + 1, by omega, by go_num, ?_, hb.trans (((IsDrew.one wr _).below _).mono hsz1)⟩
          rw [HS.out]; exact ho
        case measure => simp [intOf]; omega
    · obtain rfl : j = l0.length := by omega
      go_wp2
      go_ret
      rw [List.take_of_length_le (Nat.le_refl _), ← HRE.out] at ho
      exact ⟨_, rfl, owns_base ho HBB.out.size, HBB.out.trans (hb.mono HBB.out.size)⟩
theorem bucket_q (h : Rct w rb seed S G L) (hL : L ≤ 1000000) (c : Int) (h0 : 0 ≤ c) (h1 : c < 18446744073709551616) :
    Calls Try.prog 80 #[.pointer (some ⟨rb, 0, none⟩), .int .u64 c] w fun e w' => ∃ v l, e = .returned v ∧ w'.ownsRow w.heap.size 9 1 v l.length (l.map Value.string) ∧ List.Perm l (bucketL seed S c.toNat) ∧ Below w.heap.size w w' := by
  refine (bucket_r h hL c h0 h1).mono ?_
  rintro e w' ⟨v, rfl, o, b⟩
  exact ⟨v, _, rfl, o, List.Perm.refl _, b⟩
set_option maxRecDepth 100000 in
set_option maxHeartbeats 2000000 in
theorem scan_r (h : Rct w rb seed S G L) (hL : L ≤ 1000000) (c : Int) (h0 : 0 ≤ c) (h1 : c < 18446744073709551616) (count : Int) :
    Calls Try.prog 83 #[.pointer (some ⟨rb, 0, none⟩), .int .u64 c, .int .i64 count] w fun e w' => ScanRes w w' (scanR seed S c.toNat count) e := by
  have hd : S.1 ≤ 16 := by
    obtain ⟨_, _, _, _, _, hS, _⟩ := h
    exact hS.dmax
  have HD := Lib.hid fun (W : World) (hb : Below w.heap.size w W) => (h.step hb)
  have HC : Hid (∀ W, Below w.heap.size w W → W.cell? ⟨rb, 1, none⟩ = some (.int .i64 (S.1 : Nat))) := fun W hb => by
    obtain ⟨_, _, _, _, hm, _⟩ := h
    exact (hm.step hb).cells.2.1
  have hfew : (allK S.2).length ≤ L := by
    obtain ⟨_, _, _, _, _, _, hf⟩ := h
    exact hf
  have HB := Lib.hid fun (W : World) (hb : Below w.heap.size w W) (cc : Nat) (hc : (cc : Int) < 18446744073709551616) => bucket_q (HD.out W hb) hL (cc : Int) (by omega) hc
  have hcl : Hid (clampI (S.1 : Int) = (S.1 : Int)) := clamp_in _ (by omega) (by omega)
  have HX : Hid (∀ (W : World) (cc : Nat), (cc : Int) < 18446744073709551616 → Calls Try.prog 40 #[.int .u64 (cc : Nat), .int .i64 (S.1 : Nat)] W fun e w' => e = .returned (.int .u64 (nxt cc S.1 : Nat)) ∧ W = w') := fun W cc hc => by
    have := rnext_any (cc : Int) (S.1 : Int) W (by omega) hc
    rw [hcl.out] at this
    simpa using this
  have hbl : Hid (∀ cc, (bucketL seed S cc).length ≤ 1000000) := fun cc => Nat.le_trans (bucketL_len seed S cc) (by omega)
  have hnx : Hid (∀ cc, (nxt cc S.1 : Int) < 65536 + 1) := fun cc => by
    have := nxt_lt cc S.1
    have := pow16 hd
    omega
  obtain ⟨cn, rfl⟩ := Int.eq_ofNat_of_zero_le h0
  obtain ⟨iS, hiS, zS0, zS1, zS2⟩ := info_parts info_str
  unfold scanR
  have hcb := clampC_bd count
  obtain ⟨K, hK⟩ := Int.eq_ofNat_of_zero_le (show 0 ≤ clampC count by omega)
  have hmin : clampC count = if count < 1 then 1 else if 1000 < count then 1000 else count := rfl
  rw [hK] at hcb hmin ⊢
  have hr : scanF (bucketL seed S) S.1 ((K : Int)).toNat (10 * ((K : Int)).toNat) [] ((cn : Int)).toNat = scanF (bucketL seed S) S.1 K (10 * K) [] cn := by simp
  rw [hr]
  clear hr hK h hfew hd
  have HMN := Lib.hid hmin
  generalize hR : scanF (bucketL seed S) S.1 K (10 * K) [] cn = R
  have HR := Lib.hid hR
  clear hR
  generalize hDD : S.1 = D at *
  clear hDD
  have HMN := Lib.hid hmin
  clear hmin
  go_enter Try.func83, Try.ntmps83
  go_upto_if 11 with (fail)
  go_cut [2] from 10 to 11 (fun v W => ∃ c1, v = .int .i64 c1 ∧ (K : Int) = (if 1000 < c1 then 1000 else c1) ∧ W = w)
  case first =>
    obtain ⟨d, hd⟩ : ∃ d, decide (count < 1) = d := ⟨_, rfl⟩
    have HD1 := Lib.hid hd
    rw [hd]
    clear hd
    cases d with
    | true =>
      go_wp2
      go_meet
      case rel =>
        have k1 : count < 1 := of_decide_eq_true HD1.out
        have hmin := HMN.out
        rw [if_pos k1] at hmin
        exact ⟨1, rfl, by rw [if_neg (by omega)]; exact hmin, rfl⟩
    | false =>
      go_wp2
      go_meet
      case rel =>
        have k1 : ¬ count < 1 := of_decide_eq_false HD1.out
        have hmin := HMN.out
        rw [if_neg k1] at hmin
        exact ⟨count, rfl, hmin, rfl⟩
  case rest =>
   obtain ⟨c1, rfl, hc1, rfl⟩ := hcut
   have HC1 := Lib.hid hc1
   clear hc1
   go_upto_if 13 with (fail)
   go_cut [2] from 12 to 13 (fun v W => v = .int .i64 K ∧ W = wc)
   case first =>
    obtain ⟨d, hd⟩ : ∃ d, decide (1000 < c1) = d := ⟨_, rfl⟩
    have HD1 := Lib.hid hd
    rw [hd]
    clear hd
    cases d with
    | true =>
      go_wp2
      go_meet
      case rel =>
        have k2 : 1000 < c1 := of_decide_eq_true HD1.out
        have hc1 := HC1.out
        rw [if_pos k2] at hc1
        obtain rfl : K = 1000 := by omega
        exact ⟨rfl, rfl⟩
    | false =>
      go_wp2
      go_meet
      case rel =>
        have k2 : ¬ 1000 < c1 := of_decide_eq_false HD1.out
        have hc1 := HC1.out
        rw [if_neg k2] at hc1
        subst hc1
        exact ⟨rfl, rfl⟩
   case rest =>
    obtain ⟨rfl, rfl⟩ := hcut
    clear HC1
    obtain ⟨T, hT⟩ : ∃ T, T = 10 * K := ⟨_, rfl⟩
    have hk0 : 10 * (K : Int) = (T : Int) := by omega
    have hT1 : T ≤ 10000 := by omega
    have HRR : Hid (scanF (bucketL seed S) D K T [] cn = R) := by rw [hT]; exact HR.out
    have HT := Lib.hid hT
    clear hT HR
    go_wp2
    go_loopg [1, 8, 9] T (fun k cv v i wr => ∃ (j cc : Nat) (acc l : List ByteArray), j + k = T ∧ i = .int .i64 j ∧ cv = .int .u64 (cc : Nat) ∧ (cc : Int) < 18446744073709551616 ∧ wr.ownsRow wc.heap.size 9 1 v l.length (l.map Value.string) ∧ l.Perm acc ∧ l.length ≤ j * 1000000 ∧
      scanF (bucketL seed S) D K (T - j) acc cc = R ∧ Below wc.heap.size wc wr)
    case atStart => exact ⟨0, cn, [], [], by omega, rfl, rfl, by omega, World.ownsRow_nil _ _ _ _, List.Perm.refl _, by simp, HRR.out, Below.refl _ _⟩
    case round =>
      obtain ⟨j, cc, acc, l, hj, rfl, rfl, hcc, ho, hpm, hll, hsc, hb⟩ := hrel
      by_cases hlt : j < T
      · have HP := Lib.hid hpm
        have HS := Lib.hid hsc
        have HBU := Lib.hid (HB.out wr hb cc hcc)
        have hbl1 := hbl.out cc
        have hnx1 := hnx.out cc
        have hsz := hb.size
        have hst : scanF (bucketL seed S) D K (T - j) acc cc = if nxt cc D = 0 ∨ K ≤ (acc ++ bucketL seed S cc).length then (acc ++ bucketL seed S cc, nxt cc D) else scanF (bucketL seed S) D K (T - (j + 1)) (acc ++ bucketL seed S cc) (nxt cc D) := by
          obtain ⟨z, hz⟩ : ∃ z, T - j = z + 1 := ⟨T - (j + 1), by omega⟩
          rw [hz, show T - (j + 1) = z by omega]
          rfl
        have hal : acc.length = l.length := HP.out.length_eq.symm
        rw [hsc, List.length_append, hal] at hst
        obtain ⟨tt, htt⟩ : ∃ tt, l.length + (bucketL seed S cc).length = tt := ⟨_, rfl⟩
        rw [htt] at hst
        have HST := Lib.hid hst
        clear hpm hsc hst hal
        have e5 : ∀ l2 : List ByteArray, (l ++ l2).map Value.string = l.map Value.string ++ l2.map Value.string := fun l2 => by simp
        have HE5 := Lib.hid e5
        clear e5
        by_cases q0 : nxt cc D = 0
        · have q1 : ((nxt cc D : Nat) : Int) = 0 := by omega
          have HQ := Lib.hid q0
          go_wp2_with (first | (go_at_call 80; refine HBU.out.mono ?_; rintro e w3 ⟨v2, l2, rfl, o2, p2, hb3⟩; have hsz3 := hb3.size; have hl2 := p2.length_eq; simp only [Int.toNat_natCast] at hl2; have hlen : l.length + l2.length = tt := (by omega); have hl2b : l2.length ≤ 1000000 := (by omega); have HL2 := Lib.hid hlen; clear hl2 hlen; have hb4 := hb.trans (hb3.mono hsz); have kd := HC.out w3 hb4; have P2 := Lib.hid p2; clear p2) | (at_builtin; refine wpList_append_two _ rfl (.tmp 20) (.tmp 23) 39 rfl wc.heap.size 9 iS (.string ByteArray.empty) 16 Try.underlying39 hiS zS0 zS1 zS2 rfl _ _ _ rfl (owns_later ho hb3) _ _ _ _ rfl o2 (strs_one _) (by unfold maxLen; omega) (by omega) (by omega) ?_; intro v' w4 o3 b4; rw [HL2.out] at o3; have hb5 := hb4.trans b4; have kd4 := HC.out w4 hb5; obtain ⟨av, cv, rfl⟩ := owns_slice o3) | (go_at_call 40; refine (HX.out _ cc hcc).mono ?_; rintro e w5 ⟨rfl, rfl⟩))
          go_ret2
          have hst := HST.out
          rw [if_pos (.inl HQ.out)] at hst
          rw [hst]
          refine ⟨_, l ++ l2, by simp only [HQ.out]; rfl, ?_, HP.out.append (by have := P2.out; simpa using this), hb5⟩
          rw [List.length_append, HE5.out, HL2.out]
          exact o3
        · have HX2 := Lib.hid fun (W : World) => HX.out W cc hcc
          have HQ := Lib.hid q0
          generalize nxt cc D = nn at *
          have HTT := Lib.hid htt
          clear htt
          by_cases q2 : K ≤ tt
          · have HQ2 := Lib.hid q2
            go_wp2_with (first | (go_at_call 80; refine HBU.out.mono ?_; rintro e w3 ⟨v2, l2, rfl, o2, p2, hb3⟩; have hsz3 := hb3.size; have hl2 := p2.length_eq; simp only [Int.toNat_natCast] at hl2; have hlen : l.length + l2.length = tt := (by have := HTT.out; omega); have hl2b : l2.length ≤ 1000000 := (by omega); have HL2 := Lib.hid hlen; clear hl2 hlen; have hb4 := hb.trans (hb3.mono hsz); have kd := HC.out w3 hb4; have P2 := Lib.hid p2; clear p2) | (at_builtin; refine wpList_append_two _ rfl (.tmp 20) (.tmp 23) 39 rfl wc.heap.size 9 iS (.string ByteArray.empty) 16 Try.underlying39 hiS zS0 zS1 zS2 rfl _ _ _ rfl (owns_later ho hb3) _ _ _ _ rfl o2 (strs_one _) (by unfold maxLen; omega) (by omega) (by omega) ?_; intro v' w4 o3 b4; rw [HL2.out] at o3; have hb5 := hb4.trans b4; have kd4 := HC.out w4 hb5; obtain ⟨av, cv, rfl⟩ := owns_slice o3) | (go_at_call 40; refine (HX2.out _).mono ?_; rintro e w5 ⟨rfl, rfl⟩))
            go_ret2
            have hst := HST.out
            rw [if_pos (.inr HQ2.out)] at hst
            rw [hst]
            refine ⟨_, l ++ l2, rfl, ?_, HP.out.append (by have := P2.out; simpa using this), hb5⟩
            rw [List.length_append, HE5.out, HL2.out]
            exact o3
          · have HQ2 := Lib.hid q2
            have q9 : (((nn : Nat) : Int) == 0) = false := by simp only [beq_eq_false_iff_ne, ne_eq]; omega
            go_wp2_with (first | (go_at_call 80; refine HBU.out.mono ?_; rintro e w3 ⟨v2, l2, rfl, o2, p2, hb3⟩; have hsz3 := hb3.size; have hl2 := p2.length_eq; simp only [Int.toNat_natCast] at hl2; have hlen : l.length + l2.length = tt := (by have := HTT.out; omega); have hl2b : l2.length ≤ 1000000 := (by omega); have HL2 := Lib.hid hlen; clear hl2 hlen; have hb4 := hb.trans (hb3.mono hsz); have kd := HC.out w3 hb4; have P2 := Lib.hid p2; clear p2) | (at_builtin; refine wpList_append_two _ rfl (.tmp 20) (.tmp 23) 39 rfl wc.heap.size 9 iS (.string ByteArray.empty) 16 Try.underlying39 hiS zS0 zS1 zS2 rfl _ _ _ rfl (owns_later ho hb3) _ _ _ _ rfl o2 (strs_one _) (by unfold maxLen; omega) (by omega) (by omega) ?_; intro v' w4 o3 b4; rw [HL2.out] at o3; have hb5 := hb4.trans b4; have kd4 := HC.out w4 hb5; obtain ⟨av, cv, rfl⟩ := owns_slice o3) | (go_at_call 40; refine (HX2.out _).mono ?_; rintro e w5 ⟨rfl, rfl⟩))
            go_roundg (gk - 1)
            case rel =>
              have hst := HST.out
              rw [if_neg (fun e => e.elim HQ.out HQ2.out)] at hst
              refine ⟨j + 1, nn, acc ++ bucketL seed S cc, l ++ l2, by omega, by go_num, rfl, by omega, ?_, HP.out.append (by have := P2.out; simpa using this), by rw [List.length_append, HL2.out, Nat.add_mul]; omega, hst.symm, hb5⟩
              rw [List.length_append, HE5.out, HL2.out]
              exact o3
            case measure => omega
      · obtain rfl : j = T := by omega
        go_wp2
        go_ret2
        rw [Nat.sub_self] at hsc
        have e : (acc, cc) = R := hsc
        rw [← e]
        exact ⟨_, l, rfl, ho, hpm, hb⟩
end


theorem upTo_get {α : Type} {lf : Nat → List α} {i q : Nat} (hq : q < (upTo lf i).length) (k : Nat) : (upTo lf (i + k))[q]? = (upTo lf i)[q]? := by
  induction k with
  | zero => rfl
  | succ k ih =>
    have h2 : q < (upTo lf (i + k)).length := by
      rw [List.getElem?_eq_getElem hq] at ih
      exact (List.getElem?_eq_some_iff.1 ih).1
    show (upTo lf (i + k) ++ lf (i + k))[q]? = _
    rw [List.getElem?_append_left h2]
    exact ih
theorem vi {a b : Int} (h : a = b) : Value.int .i64 a = .int .i64 b := by rw [h]
section
variable {w : World} {db : Nat} {seed : Int} {S : Nat × List PartR} {F : Nat → Prop} {M : ByteArray → Option Int} {L : Nat}
set_option maxRecDepth 100000 in
set_option maxHeartbeats 1000000 in
theorem pick_no (h : Dct w db seed S M F L) (hn : (allK S.2).length = 0) (c : Int) :
    Calls Try.prog 81 #[.pointer (some ⟨db, 0, none⟩), .int .u64 c] w fun e w' => e = .returned (.tuple #[.string ByteArray.empty, .bool false]) ∧ w = w' := by
  obtain ⟨nds, dr, dc, _, hm, _⟩ := h
  obtain ⟨_, _, _, c3⟩ := hm.cells
  rw [hn] at c3
  clear hm hn
  go_enter Try.func81, Try.ntmps81
  go_wp2
  go_ret2
  exact ⟨rfl, rfl⟩
set_option maxRecDepth 100000 in
set_option maxHeartbeats 2000000 in
theorem pick_yes (h : Dct w db seed S M F L) (hL : L ≤ 1000000) (hn : 0 < (allK S.2).length) (c : Int) (h0 : 0 ≤ c) (h1 : c < 18446744073709551616) :
    ∃ k, k ∈ allK S.2 ∧ ∀ W, Below w.heap.size w W → Calls Try.prog 81 #[.pointer (some ⟨db, 0, none⟩), .int .u64 c] W fun e w' => e = .returned (.tuple #[.string k, .bool true]) ∧ Below W.heap.size W w' := by
  have hfew := h.few
  obtain ⟨nds, dr, dc, hp, hm, ho⟩ := h
  obtain ⟨lf, hl1, hl2, hl3⟩ := nodes_lists hm ho hL
  rw [hp] at hl1
  have hlen := hl1.length_eq
  obtain ⟨cn, rfl⟩ := Int.eq_ofNat_of_zero_le h0
  generalize hnn : (allK S.2).length = n at *
  have hpos : cn % n < (upTo lf (nlU nds (2 ^ S.1)).length).length := by rw [hlen]; exact Nat.mod_lt _ hn
  obtain ⟨k, hk⟩ : ∃ k, (upTo lf (nlU nds (2 ^ S.1)).length)[cn % n]? = some k := ⟨_, List.getElem?_eq_getElem hpos⟩
  refine ⟨k, hl1.mem_iff.1 (List.mem_of_getElem? hk), fun W hW => ?_⟩
  have hmW := hm.step hW
  obtain ⟨_, _, _, c3⟩ := hmW.cells
  have HN := Lib.hid (nodes_d hmW ho)
  have HK := Lib.hid hl3
  have HS := Lib.hid hl2
  have HG := Lib.hid hk
  have hll := nlU_len nds (2 ^ S.1)
  have hpw := pow16 ho.ok.dmax
  clear hm ho hp hl1 hl2 hl3 hk hmW hnn
  generalize nlU nds (2 ^ S.1) = nl at *
  generalize hN : nl.length = N at *
  have HE := Lib.hid hN
  have HW := Lib.hid hW
  clear hN hW
  obtain ⟨ps, hps⟩ : ∃ ps, ps = cn % n := ⟨_, rfl⟩
  have hpn : ps < n := by rw [hps]; exact Nat.mod_lt _ hn
  rw [← hps] at hpos HG
  have hn64 : (n : Int) < 18446744073709551616 := by omega
  have hne : ((n : Int) == 0) = false := by simp only [beq_eq_false_iff_ne, ne_eq]; omega
  go_enter Try.func81, Try.ntmps81
  go_wp2_with (go_at_call 75; refine HN.out.mono ?_; rintro e w1 ⟨v, rfl, o1, hb1⟩; obtain ⟨al, cl, rfl, hcl⟩ := node_ptr o1)
  have HC := Lib.hid hcl
  have HB1 := Lib.hid hb1
  have HPS := Lib.hid hps
  have hs1 := hb1.size
  clear hcl o1 hb1 hps
  go_loopg [6, 26] N (fun g a i wr => ∃ j q : Nat, j + g = N ∧ i = .int .i64 j ∧ a = .int .i64 q ∧ q + (upTo lf j).length = ps ∧ Below w1.heap.size w1 wr)
  case atStart => exact ⟨0, ps, by omega, rfl, vi (by rw [HPS.out]; simp), rfl, Below.refl _ _⟩
  case round =>
    obtain ⟨j, q, hj, rfl, rfl, hq, hb⟩ := hrel
    have HJ := Lib.hid hj
    have hjN : j ≤ N := by omega
    clear hj
    by_cases hlt : j < N
    · obtain ⟨x, hx⟩ : ∃ x, nl[j]? = some x := ⟨_, List.getElem?_eq_getElem (by rw [HE.out]; exact hlt)⟩
      obtain ⟨g, rfl, hc⟩ := HC.out wr hb j x hx
      have hb0 : Below w.heap.size w wr := (HW.out.trans (HB1.out.mono HW.out.size)).trans (hb.mono (Nat.le_trans HW.out.size hs1))
      have HT := Lib.hid (HK.out j x hx wr hb0)
      have hsz1 := hb.size
      have hl1 := HS.out (j + 1) hlt
      have hl2 : (upTo lf (j + 1)).length = (upTo lf j).length + (lf j).length := by simp [upTo]
      have hqk : q < (lf j).length → (lf j)[q]? = some k := fun hlq => by
        have h1 := upTo_get (lf := lf) (i := j + 1) (q := ps) (by rw [hl2]; omega) (N - (j + 1))
        rw [show j + 1 + (N - (j + 1)) = N by omega, HG.out] at h1
        have h3 : (upTo lf (j + 1))[ps]? = (lf j)[q]? := by
          show (upTo lf j ++ lf j)[ps]? = _
          rw [List.getElem?_append_right (by omega)]
          congr 1; omega
        rw [← h3, ← h1]
      have HQK := Lib.hid hqk
      have hqb : q ≤ 1000000 := by omega
      have HQ := Lib.hid hq
      have HB := Lib.hid hb
      clear hx hb0 hqk hq
      obtain ⟨m, hm⟩ : ∃ m, m = (lf j).length := ⟨_, rfl⟩
      rw [← hm] at hl2 HQK
      have hml : m ≤ 1000000 := by omega
      have HM := Lib.hid hm
      rw [← hm] at HT
      clear hl1 hl2 hm hb
      by_cases hlq : q < m
      · go_wp2_with (go_at_call 71; refine HT.out.mono ?_; rintro e w3 ⟨v2, rfl, o2, hb3⟩; obtain ⟨a2, c2, e2, _, hcc⟩ := (ReadsV.owns (HM.out ▸ o2)).len; subst e2; obtain ⟨b2, off2, rfl, hck⟩ := hcc q k (HQK.out hlq); rw [← HM.out]; have HB3 := Lib.hid hb3; clear hcc o2 hb3)
        go_ret2
        exact ⟨rfl, HB1.out.trans ((HB.out.trans (HB3.out.mono hsz1)).mono hs1)⟩
      · go_wp2_with (go_at_call 71; refine HT.out.mono ?_; rintro e w3 ⟨v2, rfl, o2, hb3⟩; obtain ⟨a2, c2, rfl⟩ := owns_slice o2; have HB3 := Lib.hid hb3; clear o2 hb3)
        go_roundg (gk - 1)
        case measure => have := HJ.out; omega
        case rel =>
          have h1 := HJ.out
          have h2 := HM.out
          have h3 := HQ.out
          refine ⟨j + 1, q - m, by omega, by go_num, ?_, by simp only [upTo, List.length_append]; omega, HB.out.trans (HB3.out.mono hsz1)⟩
          exact vi (by omega)
    · obtain rfl : j = N := by omega
      exfalso
      omega
end
end Go.Proofs.Ytkkijcnipjojoaa
