/- Contracts of package dict: Bucket, Scan; of tallboylaw10: name, key, known; of tallboykeep: Lists. -/
import Derived.Test.YtkkijcnipjojoaaDictC
import Derived.Test.YtkkijcnipjojoaaCursor
import Derived.Deep.CutRange
import Derived.Deep.LoopGhost
import Derived.Test.YtkkijcnipjojoaaAsks
namespace Go.Proofs.Ytkkijcnipjojoaa
open Go.RowKit

/-- The keys of a cursor's bucket. -/
def bucketL (seed : Int) (S : Nat × List PartR) (c : Nat) : List ByteArray := (allK S.2).filter fun k => decide (hN seed k % 2 ^ S.1 = c % 2 ^ S.1)
/-- A chain of buckets. -/
def scanF (bl : Nat → List ByteArray) (D : Nat) (count : Nat) : Nat → List ByteArray → Nat → List ByteArray × Nat
  | 0, acc, c => (acc, c)
  | n + 1, acc, c => if nxt c D = 0 ∨ count ≤ (acc ++ bl c).length then (acc ++ bl c, nxt c D) else scanF bl D count n (acc ++ bl c) (nxt c D)
def clampC (n : Int) : Int := if n < 1 then 1 else if 1000 < n then 1000 else n
theorem clampC_bd (n : Int) : 1 ≤ clampC n ∧ clampC n ≤ 1000 := by unfold clampC; split <;> (try split) <;> omega
def scanR (seed : Int) (S : Nat × List PartR) (c : Nat) (count : Int) : List ByteArray × Nat := scanF (bucketL seed S) S.1 (clampC count).toNat (10 * (clampC count).toNat) [] c

theorem low_hk (seed : Int) (k : ByteArray) (D : Nat) (hD : D ≤ 16) : lowI (hk seed k) D = ((hN seed k % 2 ^ D : Nat) : Int) := by
  have := (low_toNat (hk seed k) D (hk_bd seed k).1 (by omega) (by omega)).2
  simpa [hN] using this
theorem low_nat (c : Int) (D : Nat) (h0 : 0 ≤ c) (hD : D ≤ 16) : lowI c D = ((c.toNat % 2 ^ D : Nat) : Int) := by
  have := (low_toNat c D h0 (by omega) (by omega)).2
  simpa using this
theorem SOk.bucket_part {seed : Int} {D c : Nat} {ps : List PartR} (h : SOk seed D ps) {p : PartR} (hp : ps[pix ps c]? = some p) :
    (p.keys.filter fun k => decide (hN seed k % 2 ^ D = c % 2 ^ D)).Perm ((allK ps).filter fun k => decide (hN seed k % 2 ^ D = c % 2 ^ D)) := by
  have hm := List.mem_of_getElem? hp
  rw [List.perm_ext_iff_of_nodup ((h.nodup p hm).filter _) (h.allK_nodup.filter _)]
  intro k
  rw [List.mem_filter, List.mem_filter]
  simp only [decide_eq_true_eq]
  constructor
  · rintro ⟨h1, h2⟩
    exact ⟨by unfold allK; exact List.mem_flatMap.2 ⟨p, hm, h1⟩, h2⟩
  · rintro ⟨h1, h2⟩
    refine ⟨?_, h2⟩
    have hd := h.dep p hm
    have e : pix ps (hN seed k) = pix ps c := by
      refine h.pix_same hp ?_
      rw [← mod_le_pow hd, h2, mod_le_pow hd]
    exact (h.key_at (by rw [e]; exact hp)).1 h1
theorem filter_snoc_pos {P : ByteArray → Bool} {l : List ByteArray} {j : Nat} {y : ByteArray} (hy : l[j]? = some y) (hP : P y = true) : (l.take (j + 1)).filter P = (l.take j).filter P ++ [y] := by
  rw [List.take_add_one, hy]
  simp [List.filter_append, hP]
theorem filter_snoc_neg {P : ByteArray → Bool} {l : List ByteArray} {j : Nat} {y : ByteArray} (hy : l[j]? = some y) (hP : P y = false) : (l.take (j + 1)).filter P = (l.take j).filter P := by
  rw [List.take_add_one, hy]
  simp [List.filter_append, hP]

section
variable {w : World} {db : Nat} {seed : Int} {S : Nat × List PartR} {F : Nat → Prop} {M : ByteArray → Option Int} {L : Nat}
set_option maxRecDepth 100000 in
set_option maxHeartbeats 2000000 in
theorem bucket_d (h : Dct w db seed S M F L) (hL : L ≤ 1000000) (c : Int) (h0 : 0 ≤ c) (h1 : c < 18446744073709551616) :
    Calls Try.prog 37 #[.pointer (some ⟨db, 0, none⟩), .int .u64 c] w fun e w' => ∃ v l, e = .returned v ∧ w'.ownsRow w.heap.size 9 1 v l.length (l.map Value.string) ∧ List.Perm l (bucketL seed S c.toNat) ∧ Below w.heap.size w w' := by
  obtain ⟨nds, dr, dc, hp, hm, ho⟩ := h
  have hD := ho.ok.dmax
  have hpw := pow16 hD
  obtain ⟨x, hx, _, hxm, hnx⟩ := ho.node (c.toNat % 2 ^ S.1)
  have hbl := Nat.mod_lt c.toNat (Nat.two_pow_pos S.1)
  obtain ⟨c0, c1, c2, _⟩ := hm.cells
  have hc := hm.dir _ hbl
  rw [hnx] at hc
  have hsm : (flatT x.ts).length ≤ 1000000 := by
    rw [(ho.nd x hxm).perm.length_eq]
    have h1 := ho.few
    have h2 : x.p.keys.length ≤ (allK (prts nds)).length := (ho.ok.nodup _ (ho.part hxm)).length_le_of_subset fun k hk => by unfold allK; exact List.mem_flatMap.2 ⟨x.p, ho.part hxm, hk⟩
    omega
  obtain ⟨l0, hl0, hK⟩ := keys_nd (hm.nd x hxm) (ho.nd x hxm).card hsm
  have hlen0 : l0.length ≤ 1000000 := by rw [hl0.length_eq]; exact hsm
  have hres : (l0.filter fun k => decide (hN seed k % 2 ^ S.1 = c.toNat % 2 ^ S.1)).Perm (bucketL seed S c.toNat) := by
    have h2 := ho.ok.bucket_part (c := c.toNat % 2 ^ S.1) (prts_get hx)
    rw [Nat.mod_mod] at h2
    refine ((hl0.trans (ho.nd x hxm).perm).filter _).trans (h2.trans ?_)
    unfold bucketL
    rw [hp]
  have hsz : ∀ k ∈ l0, k.size ≤ 20 := fun k hk => ho.ok.size _ (ho.part hxm) k (((hl0.trans (ho.nd x hxm).perm).mem_iff).1 hk)
  have HSZ := Lib.hid hsz
  have HRE := Lib.hid hres
  have HC0 := Lib.hid fun (W : World) (hb : Below w.heap.size w W) => (hm.step hb).cells
  have HK := Lib.hid (hK w (Below.refl _ _))
  have HB := Lib.hid fun (W : World) => low_nat c S.1 h0 hD ▸ bucket_any c S.1 W h0 h1
  have HB2 := Lib.hid fun (W : World) (k : ByteArray) => low_hk seed k S.1 hD ▸ bucket_any (hk seed k) S.1 W (hk_bd seed k).1 (hk_bd seed k).2
  have HH := Lib.hid fun (W : World) (k : ByteArray) (hk' : k.size ≤ maxLen) => hash_hk seed k W hk'
  obtain ⟨iS, hiS, zS0, zS1, zS2⟩ := info_parts info_str
  have HP : Hid (∀ k, (fun k => decide (hN seed k % 2 ^ S.1 = c.toNat % 2 ^ S.1)) k = decide (hN seed k % 2 ^ S.1 = c.toNat % 2 ^ S.1)) := fun k => rfl
  clear hm ho hx hxm hnx hl0 hK hres hp hsm hsz
  generalize hbb : c.toNat % 2 ^ S.1 = b at *
  generalize 2 ^ S.1 = N at *
  generalize hDD : S.1 = D at *
  clear hbb hDD
  go_enter Try.func37, Try.ntmps37
  go_wp2_with (first | (go_at_call 70; refine (HB.out _).mono ?_; rintro e w1 ⟨rfl, rfl⟩) | (go_at_call 71; refine HK.out.mono ?_; rintro e w2 ⟨v0, rfl, o0, hb2⟩; have hr0 := hb2.size; obtain ⟨a0, cap0, e0, _, hcell0⟩ := (ReadsV.owns o0).len; subst e0; clear hcell0))
  have HO := Lib.hid o0
  have HBB := Lib.hid hb2
  clear o0 hb2
  go_loopw [6, 24] (fun v i wr => ∃ j : Nat, j ≤ l0.length ∧ i = .int .i64 j ∧ wr.ownsRow w2.heap.size 9 1 v ((l0.take j).filter fun k => decide (hN seed k % N = b)).length (((l0.take j).filter fun k => decide (hN seed k % N = b)).map Value.string) ∧ Below w2.heap.size w2 wr) (fun _ i _ => l0.length - (intOf i).toNat)
  case atStart => exact ⟨0, by omega, rfl, World.ownsRow_nil _ _ _ _, Below.refl _ _⟩
  case round =>
    obtain ⟨j, hj, rfl, ho, hb⟩ := hrel
    by_cases hlt : j < l0.length
    · obtain ⟨y, hy⟩ : ∃ y, l0[j]? = some y := ⟨_, List.getElem?_eq_getElem hlt⟩
      obtain ⟨a', c', e1, _, hcell⟩ := (ReadsV.owns (owns_later HO.out hb)).len
      simp only [Value.slice.injEq] at e1
      obtain ⟨rfl, _, rfl⟩ := e1
      obtain ⟨g, off, rfl, hcy⟩ := hcell j y hy
      have hys : y.size ≤ maxLen := by have := HSZ.out y (List.mem_of_getElem? hy); unfold maxLen; omega
      have hb0 := HBB.out.trans (hb.mono HBB.out.size)
      obtain ⟨k0, k1, k2, _⟩ := HC0.out wr hb0
      have hsz1 := hb.size
      have hll : ((l0.take j).filter fun k => decide (hN seed k % N = b)).length ≤ 1000000 := by
        have h1 := List.length_filter_le (fun k => decide (hN seed k % N = b)) (l0.take j)
        rw [List.length_take] at h1
        omega
      have HY := Lib.hid hy
      have HH1 := Lib.hid fun (W : World) => HH.out W y hys
      have HB3 := Lib.hid fun (W : World) => HB2.out W y
      clear hcell hy c0 c1 c2 hc
      by_cases hc : hN seed y % N = b
      · have HS := Lib.hid (filter_snoc_pos (P := fun k => decide (hN seed k % N = b)) HY.out (by simpa using hc))
        have HQ := Lib.hid hc
        clear hc
        obtain ⟨ax, cx, rfl⟩ := owns_slice ho
        rw [HQ.out] at HB3
        go_wp2
        go_quiet ((first | (go_at_call 63; exact q_same (HH1.out _)) | (go_at_call 70; exact q_same (HB3.out _))))
        go_wp2_with (at_builtin; refine wpList_append_lies _ rfl (.tmp 41) (.tmp 43) 39 rfl w2.heap.size 9 iS (.string ByteArray.empty) 1 16 Try.underlying39 hiS zS0 zS1 zS2 rfl (by decide) _ _ _ rfl (owns_later (owns_later ho ((IsDrew.one wr _).below _)) (b_al8 _ _)) ⟨wr.heap.size, 0, none⟩ 1 1 [.string y] rfl rfl (cell1 (wr.drewN _) _ _) str_cell (by omega) (by unfold maxLen; omega) (by omega) (by simp; omega) _ rfl ?_; intro g2 cap2 w' h2 h3 h4 h5)
        go_roundw
        case rel =>
          refine ⟨j + 1, by omega, by go_num, ?_, ?_⟩
          · rw [HS.out]
            simp only [List.length_append, List.length_singleton, List.map_append, List.map_cons, List.map_nil]
            exact h2
          · have b3 := grown_below (owns_later (owns_later ho ((IsDrew.one wr _).below _)) (b_al8 _ _)) h3 (by simp; omega)
            exact (hb.trans ((((IsDrew.one wr _).below _).trans ((b_al8 (wr.drewN _) _).mono (Nat.le_refl _))).mono hsz1)).trans b3
        case measure => simp [intOf]; omega
      · have HS := Lib.hid (filter_snoc_neg (P := fun k => decide (hN seed k % N = b)) HY.out (by simpa using hc))
        generalize hN seed y % N = z at *
        have hzb : ((z : Int) == (b : Int)) = false := by simp only [beq_eq_false_iff_ne, ne_eq]; omega
        clear hc
        go_wp2
        go_quiet ((first | (go_at_call 63; exact q_same (HH1.out _)) | (go_at_call 70; exact q_same (HB3.out _))))
        go_wp2
        go_roundw
        case rel =>
          refine ⟨j + 1, by omega, by go_num, ?_, hb.trans (((IsDrew.one wr _).below _).mono hsz1)⟩
          rw [HS.out]; exact ho
        case measure => simp [intOf]; omega
    · obtain rfl : j = l0.length := by omega
      go_wp2
      go_ret
      rw [List.take_of_length_le (Nat.le_refl _)] at ho
      exact ⟨_, _, rfl, owns_base ho HBB.out.size, HRE.out, HBB.out.trans (hb.mono HBB.out.size)⟩
end

theorem bucketL_len (seed : Int) (S : Nat × List PartR) (c : Nat) : (bucketL seed S c).length ≤ (allK S.2).length := List.length_filter_le _ _
section
variable {w : World} {db : Nat} {seed : Int} {S : Nat × List PartR} {F : Nat → Prop} {M : ByteArray → Option Int} {L : Nat}
/-- What Scan answers. -/
def ScanRes (w w' : World) (r : List ByteArray × Nat) (e : Ending) : Prop := ∃ v l, e = .returned (.tuple #[v, .int .u64 (r.2 : Nat)]) ∧ w'.ownsRow w.heap.size 9 1 v l.length (l.map Value.string) ∧ List.Perm l r.1 ∧ Below w.heap.size w w'
set_option maxRecDepth 100000 in
set_option maxHeartbeats 2000000 in
theorem scan_d (h : Dct w db seed S M F L) (hL : L ≤ 1000000) (c : Int) (h0 : 0 ≤ c) (h1 : c < 18446744073709551616) (count : Int) (n0 : -9223372036854775808 ≤ count) (n1 : count < 9223372036854775808) :
    Calls Try.prog 41 #[.pointer (some ⟨db, 0, none⟩), .int .u64 c, .int .i64 count] w fun e w' => ScanRes w w' (scanR seed S c.toNat count) e := by
  have hd := h.sok.dmax
  have HD := Lib.hid fun (W : World) (hb : Below w.heap.size w W) => (h.step hb)
  have HC : Hid (∀ W, Below w.heap.size w W → W.cell? ⟨db, 1, none⟩ = some (.int .i64 (S.1 : Nat))) := fun W hb => by
    obtain ⟨nds, dr, dc, _, hm, _⟩ := h
    exact (hm.step hb).cells.2.1
  have hfew := h.few
  have HB := Lib.hid fun (W : World) (hb : Below w.heap.size w W) (cc : Nat) (hc : (cc : Int) < 18446744073709551616) => bucket_d (HD.out W hb) hL (cc : Int) (by omega) hc
  have hcl : Hid (clampI (S.1 : Int) = (S.1 : Int)) := clamp_in _ (by omega) (by omega)
  have HX : Hid (∀ (W : World) (cc : Nat), (cc : Int) < 18446744073709551616 → Calls Try.prog 74 #[.int .u64 (cc : Nat), .int .i64 (S.1 : Nat)] W fun e w' => e = .returned (.int .u64 (nxt cc S.1 : Nat)) ∧ W = w') := fun W cc hc => by
    have := next_any (cc : Int) (S.1 : Int) W (by omega) hc
    rw [hcl.out] at this
    simpa using this
  have hbl : Hid (∀ cc, (bucketL seed S cc).length ≤ 1000000) := fun cc => Nat.le_trans (bucketL_len seed S cc) (by omega)
  have hnx : Hid (∀ cc, (nxt cc S.1 : Int) < 65536 + 1) := fun cc => by
    have := nxt_lt cc S.1
    have := pow16 hd
    omega
  obtain ⟨cn, rfl⟩ := Int.eq_ofNat_of_zero_le h0
  obtain ⟨iS, hiS, zS0, zS1, zS2⟩ := info_parts info_str
  unfold scanR
  have hcb := clampC_bd count
  obtain ⟨K, hK⟩ := Int.eq_ofNat_of_zero_le (show 0 ≤ clampC count by omega)
  have hmin : clampC count = if count < 1 then 1 else if 1000 < count then 1000 else count := rfl
  rw [hK] at hcb hmin ⊢
  have hr : scanF (bucketL seed S) S.1 ((K : Int)).toNat (10 * ((K : Int)).toNat) [] ((cn : Int)).toNat = scanF (bucketL seed S) S.1 K (10 * K) [] cn := by simp
  rw [hr]
  clear hr hK h hfew hd
  have HMN := Lib.hid hmin
  generalize hR : scanF (bucketL seed S) S.1 K (10 * K) [] cn = R
  have HR := Lib.hid hR
  clear hR
  generalize hDD : S.1 = D at *
  clear hDD
  have HMN := Lib.hid hmin
  clear hmin
  go_enter Try.func41, Try.ntmps41
  go_upto_region 1 with (fail)
  go_cut [2] from 9 to 11 (fun v W => v = .int .i64 K ∧ W = w)
  case first =>
    have hmin := HMN.out
    by_cases k1 : count < 1
    · rw [if_pos k1] at hmin
      obtain rfl : K = 1 := by omega
      clear hmin
      go_wp2
      go_meet
      case rel => exact ⟨rfl, rfl⟩
    · rw [if_neg k1] at hmin
      by_cases k2 : 1000 < count
      · rw [if_pos k2] at hmin
        obtain rfl : K = 1000 := by omega
        clear hmin
        go_wp2
        go_meet
        case rel => exact ⟨rfl, rfl⟩
      · rw [if_neg k2] at hmin
        subst hmin
        go_wp2
        go_meet
        case rel => exact ⟨rfl, rfl⟩
  case rest =>
    obtain ⟨rfl, rfl⟩ := hcut
    obtain ⟨T, hT⟩ : ∃ T, T = 10 * K := ⟨_, rfl⟩
    have hk0 : 10 * (K : Int) = (T : Int) := by omega
    have hT1 : T ≤ 10000 := by omega
    have HRR : Hid (scanF (bucketL seed S) D K T [] cn = R) := by rw [hT]; exact HR.out
    have HT := Lib.hid hT
    clear hT HR
    go_wp2
    go_loopg [1, 8, 14] T (fun k cv v i wr => ∃ (j cc : Nat) (acc l : List ByteArray), j + k = T ∧ i = .int .i64 j ∧ cv = .int .u64 (cc : Nat) ∧ (cc : Int) < 18446744073709551616 ∧ wr.ownsRow wc.heap.size 9 1 v l.length (l.map Value.string) ∧ l.Perm acc ∧ l.length ≤ j * 1000000 ∧
      scanF (bucketL seed S) D K (T - j) acc cc = R ∧ Below wc.heap.size wc wr)
    case atStart => exact ⟨0, cn, [], [], by omega, rfl, rfl, by omega, World.ownsRow_nil _ _ _ _, List.Perm.refl _, by simp, HRR.out, Below.refl _ _⟩
    case round =>
      obtain ⟨j, cc, acc, l, hj, rfl, rfl, hcc, ho, hpm, hll, hsc, hb⟩ := hrel
      by_cases hlt : j < T
      · have HP := Lib.hid hpm
        have HS := Lib.hid hsc
        have HBU := Lib.hid (HB.out wr hb cc hcc)
        have hbl1 := hbl.out cc
        have hnx1 := hnx.out cc
        have hsz := hb.size
        have hst : scanF (bucketL seed S) D K (T - j) acc cc = if nxt cc D = 0 ∨ K ≤ (acc ++ bucketL seed S cc).length then (acc ++ bucketL seed S cc, nxt cc D) else scanF (bucketL seed S) D K (T - (j + 1)) (acc ++ bucketL seed S cc) (nxt cc D) := by
          obtain ⟨z, hz⟩ : ∃ z, T - j = z + 1 := ⟨T - (j + 1), by omega⟩
          rw [hz, show T - (j + 1) = z by omega]
          rfl
        have hal : acc.length = l.length := HP.out.length_eq.symm
        rw [hsc, List.length_append, hal] at hst
        obtain ⟨tt, htt⟩ : ∃ tt, l.length + (bucketL seed S cc).length = tt := ⟨_, rfl⟩
        rw [htt] at hst
        have HST := Lib.hid hst
        clear hpm hsc hst hal
        have e5 : ∀ l2 : List ByteArray, (l ++ l2).map Value.string = l.map Value.string ++ l2.map Value.string := fun l2 => by simp
        have HE5 := Lib.hid e5
        clear e5
        by_cases q0 : nxt cc D = 0
        · have q1 : ((nxt cc D : Nat) : Int) = 0 := by omega
          have HQ := Lib.hid q0
          go_wp2_with (first | (go_at_call 37; refine HBU.out.mono ?_; rintro e w3 ⟨v2, l2, rfl, o2, p2, hb3⟩; have hsz3 := hb3.size; have hl2 := p2.length_eq; simp only [Int.toNat_natCast] at hl2; have hlen : l.length + l2.length = tt := (by omega); have hl2b : l2.length ≤ 1000000 := (by omega); have HL2 := Lib.hid hlen; clear hl2 hlen; have hb4 := hb.trans (hb3.mono hsz); have kd := HC.out w3 hb4; have P2 := Lib.hid p2; clear p2) | (at_builtin; refine wpList_append_two _ rfl (.tmp 16) (.tmp 19) 39 rfl wc.heap.size 9 iS (.string ByteArray.empty) 16 Try.underlying39 hiS zS0 zS1 zS2 rfl _ _ _ rfl (owns_later ho hb3) _ _ _ _ rfl o2 (strs_one _) (by unfold maxLen; omega) (by omega) (by omega) ?_; intro v' w4 o3 b4; rw [HL2.out] at o3; have hb5 := hb4.trans b4; have kd4 := HC.out w4 hb5; obtain ⟨av, cv, rfl⟩ := owns_slice o3) | (go_at_call 74; refine (HX.out _ cc hcc).mono ?_; rintro e w5 ⟨rfl, rfl⟩))
          go_ret2
          have hst := HST.out
          rw [if_pos (.inl HQ.out)] at hst
          rw [hst]
          refine ⟨_, l ++ l2, by simp only [HQ.out]; rfl, ?_, HP.out.append (by have := P2.out; simpa using this), hb5⟩
          rw [List.length_append, HE5.out, HL2.out]
          exact o3
        · have HX2 := Lib.hid fun (W : World) => HX.out W cc hcc
          have HQ := Lib.hid q0
          generalize nxt cc D = nn at *
          have HTT := Lib.hid htt
          clear htt
          by_cases q2 : K ≤ tt
          · have HQ2 := Lib.hid q2
            go_wp2_with (first | (go_at_call 37; refine HBU.out.mono ?_; rintro e w3 ⟨v2, l2, rfl, o2, p2, hb3⟩; have hsz3 := hb3.size; have hl2 := p2.length_eq; simp only [Int.toNat_natCast] at hl2; have hlen : l.length + l2.length = tt := (by have := HTT.out; omega); have hl2b : l2.length ≤ 1000000 := (by omega); have HL2 := Lib.hid hlen; clear hl2 hlen; have hb4 := hb.trans (hb3.mono hsz); have kd := HC.out w3 hb4; have P2 := Lib.hid p2; clear p2) | (at_builtin; refine wpList_append_two _ rfl (.tmp 16) (.tmp 19) 39 rfl wc.heap.size 9 iS (.string ByteArray.empty) 16 Try.underlying39 hiS zS0 zS1 zS2 rfl _ _ _ rfl (owns_later ho hb3) _ _ _ _ rfl o2 (strs_one _) (by unfold maxLen; omega) (by omega) (by omega) ?_; intro v' w4 o3 b4; rw [HL2.out] at o3; have hb5 := hb4.trans b4; have kd4 := HC.out w4 hb5; obtain ⟨av, cv, rfl⟩ := owns_slice o3) | (go_at_call 74; refine (HX2.out _).mono ?_; rintro e w5 ⟨rfl, rfl⟩))
            go_ret2
            have hst := HST.out
            rw [if_pos (.inr HQ2.out)] at hst
            rw [hst]
            refine ⟨_, l ++ l2, rfl, ?_, HP.out.append (by have := P2.out; simpa using this), hb5⟩
            rw [List.length_append, HE5.out, HL2.out]
            exact o3
          · have HQ2 := Lib.hid q2
            have q9 : (((nn : Nat) : Int) == 0) = false := by simp only [beq_eq_false_iff_ne, ne_eq]; omega
            go_wp2_with (first | (go_at_call 37; refine HBU.out.mono ?_; rintro e w3 ⟨v2, l2, rfl, o2, p2, hb3⟩; have hsz3 := hb3.size; have hl2 := p2.length_eq; simp only [Int.toNat_natCast] at hl2; have hlen : l.length + l2.length = tt := (by have := HTT.out; omega); have hl2b : l2.length ≤ 1000000 := (by omega); have HL2 := Lib.hid hlen; clear hl2 hlen; have hb4 := hb.trans (hb3.mono hsz); have kd := HC.out w3 hb4; have P2 := Lib.hid p2; clear p2) | (at_builtin; refine wpList_append_two _ rfl (.tmp 16) (.tmp 19) 39 rfl wc.heap.size 9 iS (.string ByteArray.empty) 16 Try.underlying39 hiS zS0 zS1 zS2 rfl _ _ _ rfl (owns_later ho hb3) _ _ _ _ rfl o2 (strs_one _) (by unfold maxLen; omega) (by omega) (by omega) ?_; intro v' w4 o3 b4; rw [HL2.out] at o3; have hb5 := hb4.trans b4; have kd4 := HC.out w4 hb5; obtain ⟨av, cv, rfl⟩ := owns_slice o3) | (go_at_call 74; refine (HX2.out _).mono ?_; rintro e w5 ⟨rfl, rfl⟩))
            go_roundg (gk - 1)
            case rel =>
              have hst := HST.out
              rw [if_neg (fun e => e.elim HQ.out HQ2.out)] at hst
              refine ⟨j + 1, nn, acc ++ bucketL seed S cc, l ++ l2, by omega, by go_num, rfl, by omega, ?_, HP.out.append (by have := P2.out; simpa using this), by rw [List.length_append, HL2.out, Nat.add_mul]; omega, hst.symm, hb5⟩
              rw [List.length_append, HE5.out, HL2.out]
              exact o3
            case measure => omega
      · obtain rfl : j = T := by omega
        go_wp2
        go_ret2
        rw [Nat.sub_self] at hsc
        have e : (acc, cc) = R := hsc
        rw [← e]
        exact ⟨_, l, rfl, ho, hpm, hb⟩
end

/-- The first so many letters of a name. -/
def nm (n : Nat) : Nat → ByteArray
  | 0 => { data := #[107] }
  | i + 1 => nm n i ++ Utf8.encode (97 + ((n / 26 ^ i % 26 : Nat) : Int))
def nameS (n : Nat) : ByteArray := nm n 4
theorem nm_size (n i : Nat) : (nm n i).size ≤ 1 + 4 * i := by
  induction i with
  | zero => exact Nat.le_refl _
  | succ i ih =>
    unfold nm
    rw [ByteArray.size_append]
    have := encode_size (97 + ((n / 26 ^ i % 26 : Nat) : Int))
    omega
theorem nameS_size (n : Nat) : (nameS n).size ≤ 20 := by have := nm_size n 4; unfold nameS; omega
set_option maxRecDepth 100000 in
set_option maxHeartbeats 1000000 in
theorem name_any (n : Nat) (w : World) (hn : n ≤ 100000000) : Calls Try.prog 33 #[.int .i64 (n : Nat)] w fun e w' => e = .returned (.string (nameS n)) ∧ w = w' := by
  go_enter Try.func33, Try.ntmps33
  go_wp2
  go_loopg [0, 3, 4] 4 (fun k nv s i wr => ∃ (j : Nat) (m : Int), j + k = 4 ∧ i = .int .i64 j ∧ s = .string (nm n j) ∧ nv = .int .i64 m ∧ m = ((n / 26 ^ j : Nat) : Int) ∧ wr = w)
  case atStart => exact ⟨0, n, by omega, rfl, rfl, rfl, by simp, rfl⟩
  case round =>
    obtain ⟨j, m, hj, rfl, rfl, rfl, hm, rfl⟩ := hrel
    have hml : 0 ≤ m ∧ m ≤ 100000000 := by
      have := Nat.div_le_self n (26 ^ j)
      generalize n / 26 ^ j = q at *
      omega
    obtain ⟨hm0, hm1⟩ := hml
    have HN : Hid (nm n (j + 1) = nm n j ++ Utf8.encode (97 + m % 26)) := by
      unfold Hid
      have e : m % 26 = ((n / 26 ^ j % 26 : Nat) : Int) := by generalize n / 26 ^ j = q at *; omega
      rw [e]; rfl
    have HM : Hid (m / 26 = ((n / 26 ^ (j + 1) : Nat) : Int)) := by
      unfold Hid
      rw [Nat.pow_succ, ← Nat.div_div_eq_div_mul]
      generalize n / 26 ^ j = q at *
      omega
    clear hm
    have e1 := encode_size (97 + m % 26)
    have e2 := nm_size n j
    by_cases hlt : j < 4
    · have e3 : (nm n j).size ≤ 100 := by omega
      clear e2
      go_wp2
      go_roundg (gk - 1)
      case measure => omega
      case rel =>
        refine ⟨j + 1, m / 26, by omega, by go_num, ?_, rfl, HM.out, rfl⟩
        rw [HN.out]
    · obtain rfl : j = 4 := by omega
      go_wp2
      go_ret
      exact ⟨rfl, rfl⟩

set_option maxRecDepth 100000 in
set_option maxHeartbeats 1000000 in
theorem key10_any (w : World) (K N V : Int) (S : ByteArray) : Calls Try.prog 48 #[.agg #[.int .i64 K, .int .i64 N, .int .i64 V, .string S]] w fun e w' => SomeKey w w' e := by
  have hb := within_bd N 0 1048576 (by omega)
  by_cases c : N.tmod 4 = 0
  · have c1 : (N.tmod 4 == 0) = true := by simp [c]
    have hc := cutB_size S 20
    go_enter Try.func48, Try.ntmps48
    go_wp2_with (go_at_call 59; refine (cut_any S 20 _).mono ?_; rintro e w' ⟨rfl, rfl⟩)
    go_ret
    exact ⟨_, rfl, hc, (Below.refl _ _).alloc (Nat.le_refl _) _⟩
  · have c1 : (N.tmod 4 == 0) = false := by simp [c]
    generalize hn : within N 0 1048576 = n at *
    have HN := Lib.hid hn
    clear hn c
    obtain ⟨hb0, hb1⟩ := hb
    obtain ⟨m, rfl⟩ := Int.eq_ofNat_of_zero_le hb0
    have HM := Lib.hid fun (W : World) => name_any (m % 2000) W (by omega)
    have hq : ((m % 2000 : Nat) : Int) = (m : Int) % 2000 := by omega
    go_enter Try.func48, Try.ntmps48
    go_wp2_with (first | (go_at_call 16; refine (within_any _ _ _ _ (by omega) (by omega) (by omega)).mono ?_; rintro e w' ⟨rfl, rfl⟩; rw [HN.out]) | (go_at_call 33; refine (HM.out _).mono ?_; rintro e w' ⟨rfl, rfl⟩))
    go_ret
    exact ⟨_, rfl, nameS_size _, (Below.refl _ _).alloc (Nat.le_refl _) _⟩

set_option maxRecDepth 100000 in
set_option maxHeartbeats 1000000 in
theorem lists_yes (w : World) (v u : Value) (zs : List ByteArray) (hv : ReadsS w v zs) (hu : ReadsS w u zs) :
    Calls Try.prog 69 #[v, u] w fun e w' => e = .returned (.bool true) ∧ IsDrew w w' := by
  obtain ⟨a, c, rfl, hl, hc⟩ := hv.len
  obtain ⟨a2, c2, rfl, _, hc2⟩ := hu.len
  have HA := Lib.hid hc
  have HB := Lib.hid hc2
  unfold maxLen at hl
  clear hc hc2 hv hu
  go_enter Try.func69, Try.ntmps69
  go_wp2
  go_loopg [5] zs.length (fun g i wr => ∃ k : Nat, k + g = zs.length ∧ i = .int .i64 k ∧ IsDrew w wr)
  case atStart => exact ⟨0, by omega, rfl, IsDrew.refl _⟩
  case round =>
    obtain ⟨k, hk, rfl, m0, rfl⟩ := hrel
    by_cases hlt : k < zs.length
    · obtain ⟨q, hq⟩ : ∃ q, zs[k]? = some q := ⟨zs[k], List.getElem?_eq_getElem hlt⟩
      obtain ⟨b, off, rfl, h1⟩ := HA.out k q hq
      obtain ⟨b2, off2, rfl, h2⟩ := HB.out k q hq
      clear hq
      have he : (q.toList == q.toList) = true := by simp
      go_wp2
      go_quiet (fail)
      go_wp2
      go_roundg (gk - 1)
      case measure => omega
      case rel => exact ⟨k + 1, by omega, by go_num, IsDrew.one _ _⟩
    · obtain rfl : k = zs.length := by omega
      go_wp2
      go_ret
      exact ⟨rfl, _, rfl⟩

/-- A dict of one key. -/
theorem put_first (seed : Int) (key : ByteArray) : putS seed (0, [⟨0, 0, []⟩]) key = (0, [⟨0, 0, [key]⟩]) := by
  have hx : ∀ h, pix [(⟨0, 0, []⟩ : PartR)] h = 0 := fun h => by
    have : fitsB h ⟨0, 0, []⟩ = true := by rw [fitsB_iff]; simp; omega
    unfold pix; rw [List.findIdx_cons, this]; rfl
  unfold putS
  rw [if_neg (by simp [inB', allK])]
  have hp : ((0, [(⟨0, 0, []⟩ : PartR)]) : Nat × List PartR).2[pix ((0, [(⟨0, 0, []⟩ : PartR)]) : Nat × List PartR).2 (hN seed key)]? = some ⟨0, 0, []⟩ := by rw [hx]; rfl
  rw [growS_stop hp (.inl (by simp)), addS_eq hp]
  simp only
  rw [hx]
  rfl
theorem bucket_first (seed : Int) (key : ByteArray) : bucketL seed (0, [⟨0, 0, [key]⟩]) 0 = [key] := by
  unfold bucketL
  simp [allK, Nat.mod_one]
theorem nxt_first : nxt 0 0 = 0 := by decide
theorem scan_first (seed : Int) (key : ByteArray) : scanR seed (0, [⟨0, 0, [key]⟩]) 0 1 = ([key], 0) := by
  unfold scanR
  have : clampC 1 = 1 := by decide
  rw [this]
  show scanF _ 0 1 (9 + 1) [] 0 = _
  unfold scanF
  rw [bucket_first, nxt_first, if_pos (.inl rfl)]
  rfl

set_option maxRecDepth 100000 in
set_option maxHeartbeats 1000000 in
theorem known10_any (w : World) : Calls Try.prog 36 #[] w fun e w' => e = .returned (.bool true) ∧ Below w.heap.size w w' := by
  have hm1 : updM (fun _ => none) kA (some 5) kA = some 5 := by simp [updM]
  have HP := Lib.hid fun (W : World) (db : Nat) (F : Nat → Prop) (h : Dct W db 1 (0, [⟨0, 0, []⟩]) (fun _ => none) F 0) => put_first 1 kA ▸ put_d h kA (by decide) 5 (by omega)
  have HG := Lib.hid fun (W : World) (db : Nat) (F : Nat → Prop) (h : Dct W db 1 (0, [⟨0, 0, [kA]⟩]) (updM (fun _ => none) kA (some 5)) F 2) => hm1 ▸ get_d h kA kA_size
  have HS := Lib.hid fun (W : World) (db : Nat) (F : Nat → Prop) (h : Dct W db 1 (0, [⟨0, 0, [kA]⟩]) (updM (fun _ => none) kA (some 5)) F 2) => scan_d h (by omega) 0 (by omega) (by omega) 1 (by omega) (by omega)
  have HSF := Lib.hid (scan_first 1 kA)
  have HD := Lib.hid fun (W : World) (db : Nat) (F : Nat → Prop) (h : Dct W db 1 (0, [⟨0, 0, [kA]⟩]) (updM (fun _ => none) kA (some 5)) F 2) => depth_d h
  have HT := Lib.hid fun (W : World) (db : Nat) (F : Nat → Prop) (h : Dct W db 1 (0, [⟨0, 0, [kA]⟩]) (updM (fun _ => none) kA (some 5)) F 2) => tables_d h
  clear hm1
  go_enter Try.func36, Try.ntmps36
  go_wp2_with (first | (go_at_call 32; refine (new_d _ _).mono ?_; rintro e w1 ⟨db, F, rfl, hT1, hb1, hF1⟩; have hsz := hb1.size) | (go_at_call 34; refine (HP.out _ _ _ hT1).mono ?_; rintro e w2 ⟨rfl, F2, hT2, hfr⟩; obtain ⟨b2, hF2⟩ := hfr.below hsz hF1; have hb2 := hb1.trans b2) | (go_at_call 49; refine (HG.out _ _ _ hT2).mono ?_; rintro e w3 ⟨rfl, b3⟩; have hT3 := hT2.step b3; have hb3 := hb2.trans (b3.mono hb2.size)) | (go_at_call 41; refine (HS.out _ _ _ hT3).mono ?_; rintro e w4 ⟨v, l, rfl, o4, p4, b4⟩; have hT4 := hT3.step b4; have hb4 := hb3.trans (b4.mono hb3.size); have p4 := HSF.out ▸ p4; have hle := p4.eq_singleton) | (go_at_call 35; refine (HD.out _ _ _ hT4).mono ?_; rintro e w5 ⟨rfl, rfl⟩) | (go_at_call 51; refine (HT.out _ _ _ hT4).mono ?_; rintro e w6 ⟨rfl, b6⟩; have hb6 := hb4.trans (b6.mono hb4.size); have o6 := owns_later o4 b6) | (go_at_call 69; refine (lists_yes _ v _ [kA] (ReadsV.owns (owns_later (hle ▸ o6) (b_al8 _ _))) (ReadsV.owns (World.ownsRow_lit w6 #[.string kA] 1 (Nat.le_refl _) (by unfold maxLen; omega) rfl (e := 9)))).mono ?_; rintro e w7 ⟨rfl, n7, rfl⟩))
  go_ret
  exact ⟨rfl, hb6.trans (((b_al8 _ _).trans ((IsDrew.one _ n7).below _)).mono hb6.size)⟩

end Go.Proofs.Ytkkijcnipjojoaa
