/- Contracts of package dict: Bucket, Scan. -/
import Derived.Test.YtkkijcnipjojoaaDictAll
import Derived.Test.YtkkijcnipjojoaaCursor
namespace Go.Proofs.Ytkkijcnipjojoaa
open Go.RowKit

/-- The keys of a cursor's bucket. -/
def bucketL (seed : Int) (S : Nat × List PartR) (c : Nat) : List ByteArray := (allK S.2).filter fun k => decide (hN seed k % 2 ^ S.1 = c % 2 ^ S.1)
/-- A chain of buckets. -/
def scanF (bl : Nat → List ByteArray) (D : Nat) (count : Nat) : Nat → List ByteArray → Nat → List ByteArray × Nat
  | 0, acc, c => (acc, c)
  | n + 1, acc, c => if nxt c D = 0 ∨ count ≤ (acc ++ bl c).length then (acc ++ bl c, nxt c D) else scanF bl D count n (acc ++ bl c) (nxt c D)
def clampC (n : Int) : Int := if n < 1 then 1 else if 1000 < n then 1000 else n
theorem clampC_bd (n : Int) : 1 ≤ clampC n ∧ clampC n ≤ 1000 := by unfold clampC; split <;> (try split) <;> omega
def scanR (seed : Int) (S : Nat × List PartR) (c : Nat) (count : Int) : List ByteArray × Nat := scanF (bucketL seed S) S.1 (clampC count).toNat (10 * (clampC count).toNat) [] c

theorem low_hk (seed : Int) (k : ByteArray) (D : Nat) (hD : D ≤ 16) : lowI (hk seed k) D = ((hN seed k % 2 ^ D : Nat) : Int) := by
  have := (low_toNat (hk seed k) D (hk_bd seed k).1 (by omega) (by omega)).2
  simpa [hN] using this
theorem low_nat (c : Int) (D : Nat) (h0 : 0 ≤ c) (hD : D ≤ 16) : lowI c D = ((c.toNat % 2 ^ D : Nat) : Int) := by
  have := (low_toNat c D h0 (by omega) (by omega)).2
  simpa using this
theorem SOk.bucket_part {seed : Int} {D c : Nat} {ps : List PartR} (h : SOk seed D ps) {p : PartR} (hp : ps[pix ps c]? = some p) :
    (p.keys.filter fun k => decide (hN seed k % 2 ^ D = c % 2 ^ D)).Perm ((allK ps).filter fun k => decide (hN seed k % 2 ^ D = c % 2 ^ D)) := by
  have hm := List.mem_of_getElem? hp
  rw [List.perm_ext_iff_of_nodup ((h.nodup p hm).filter _) (h.allK_nodup.filter _)]
  intro k
  rw [List.mem_filter, List.mem_filter]
  simp only [decide_eq_true_eq]
  constructor
  · rintro ⟨h1, h2⟩
    exact ⟨by unfold allK; exact List.mem_flatMap.2 ⟨p, hm, h1⟩, h2⟩
  · rintro ⟨h1, h2⟩
    refine ⟨?_, h2⟩
    have hd := h.dep p hm
    have e : pix ps (hN seed k) = pix ps c := by
      refine h.pix_same hp ?_
      rw [← mod_le_pow hd, h2, mod_le_pow hd]
    exact (h.key_at (by rw [e]; exact hp)).1 h1
theorem filter_snoc_pos {P : ByteArray → Bool} {l : List ByteArray} {j : Nat} {y : ByteArray} (hy : l[j]? = some y) (hP : P y = true) : (l.take (j + 1)).filter P = (l.take j).filter P ++ [y] := by
  rw [List.take_add_one, hy]
  simp [List.filter_append, hP]
theorem filter_snoc_neg {P : ByteArray → Bool} {l : List ByteArray} {j : Nat} {y : ByteArray} (hy : l[j]? = some y) (hP : P y = false) : (l.take (j + 1)).filter P = (l.take j).filter P := by
  rw [List.take_add_one, hy]
  simp [List.filter_append, hP]

section
variable {w : World} {db : Nat} {seed : Int} {S : Nat × List PartR} {F : Nat → Prop} {M : ByteArray → Option Int} {L : Nat}
set_option maxRecDepth 100000 in
set_option maxHeartbeats 2000000 in
theorem bucket_d (h : Dct w db seed S M F L) (hL : L ≤ 1000000) (c : Int) (h0 : 0 ≤ c) (h1 : c < 18446744073709551616) :
    Calls Try.prog 37 #[.pointer (some ⟨db, 0, none⟩), .int .u64 c] w fun e w' => ∃ v l, e = .returned v ∧ w'.ownsRow w.heap.size 9 1 v l.length (l.map Value.string) ∧ List.Perm l (bucketL seed S c.toNat) ∧ Below w.heap.size w w' := by
  obtain ⟨nds, dr, dc, hp, hm, ho⟩ := h
  have hD := ho.ok.dmax
  have hpw := pow16 hD
  obtain ⟨x, hx, _, hxm, hnx⟩ := ho.node (c.toNat % 2 ^ S.1)
  have hbl := Nat.mod_lt c.toNat (Nat.two_pow_pos S.1)
  obtain ⟨c0, c1, c2, _⟩ := hm.cells
  have hc := hm.dir _ hbl
  rw [hnx] at hc
  have hsm : (flatT x.ts).length ≤ 1000000 := by
    rw [(ho.nd x hxm).perm.length_eq]
    have h1 := ho.few
    have h2 : x.p.keys.length ≤ (allK (prts nds)).length := (ho.ok.nodup _ (ho.part hxm)).length_le_of_subset fun k hk => by unfold allK; exact List.mem_flatMap.2 ⟨x.p, ho.part hxm, hk⟩
    omega
  obtain ⟨l0, hl0, hK⟩ := keys_nd (hm.nd x hxm) (ho.nd x hxm).card hsm
  have hlen0 : l0.length ≤ 1000000 := by rw [hl0.length_eq]; exact hsm
  have hres : (l0.filter fun k => decide (hN seed k % 2 ^ S.1 = c.toNat % 2 ^ S.1)).Perm (bucketL seed S c.toNat) := by
    have h2 := ho.ok.bucket_part (c := c.toNat % 2 ^ S.1) (prts_get hx)
    rw [Nat.mod_mod] at h2
    refine ((hl0.trans (ho.nd x hxm).perm).filter _).trans (h2.trans ?_)
    unfold bucketL
    rw [hp]
  have hsz : ∀ k ∈ l0, k.size ≤ 20 := fun k hk => ho.ok.size _ (ho.part hxm) k (((hl0.trans (ho.nd x hxm).perm).mem_iff).1 hk)
  have HSZ := Lib.hid hsz
  have HRE := Lib.hid hres
  have HC0 := Lib.hid fun (W : World) (hb : Below w.heap.size w W) => (hm.step hb).cells
  have HK := Lib.hid (hK w (Below.refl _ _))
  have HB := Lib.hid fun (W : World) => low_nat c S.1 h0 hD ▸ bucket_any c S.1 W h0 h1
  have HB2 := Lib.hid fun (W : World) (k : ByteArray) => low_hk seed k S.1 hD ▸ bucket_any (hk seed k) S.1 W (hk_bd seed k).1 (hk_bd seed k).2
  have HH := Lib.hid fun (W : World) (k : ByteArray) (hk' : k.size ≤ maxLen) => hash_hk seed k W hk'
  obtain ⟨iS, hiS, zS0, zS1, zS2⟩ := info_parts info_str
  have HP : Hid (∀ k, (fun k => decide (hN seed k % 2 ^ S.1 = c.toNat % 2 ^ S.1)) k = decide (hN seed k % 2 ^ S.1 = c.toNat % 2 ^ S.1)) := fun k => rfl
  clear hm ho hx hxm hnx hl0 hK hres hp hsm hsz
  generalize hbb : c.toNat % 2 ^ S.1 = b at *
  generalize 2 ^ S.1 = N at *
  generalize hDD : S.1 = D at *
  clear hbb hDD
  go_enter Try.func37, Try.ntmps37
  go_wp2_with (first | (go_at_call 70; refine (HB.out _).mono ?_; rintro e w1 ⟨rfl, rfl⟩) | (go_at_call 71; refine HK.out.mono ?_; rintro e w2 ⟨v0, rfl, o0, hb2⟩; have hr0 := hb2.size; obtain ⟨a0, cap0, e0, _, hcell0⟩ := (ReadsV.owns o0).len; subst e0; clear hcell0))
  have HO := Lib.hid o0
  have HBB := Lib.hid hb2
  clear o0 hb2
  go_loopw [6, 24] (fun v i wr => ∃ j : Nat, j ≤ l0.length ∧ i = .int .i64 j ∧ wr.ownsRow w2.heap.size 9 1 v ((l0.take j).filter fun k => decide (hN seed k % N = b)).length (((l0.take j).filter fun k => decide (hN seed k % N = b)).map Value.string) ∧ Below w2.heap.size w2 wr) (fun _ i _ => l0.length - (intOf i).toNat)
  case atStart => exact ⟨0, by omega, rfl, World.ownsRow_nil _ _ _ _, Below.refl _ _⟩
  case round =>
    obtain ⟨j, hj, rfl, ho, hb⟩ := hrel
    by_cases hlt : j < l0.length
    · obtain ⟨y, hy⟩ : ∃ y, l0[j]? = some y := ⟨_, List.getElem?_eq_getElem hlt⟩
      obtain ⟨a', c', e1, _, hcell⟩ := (ReadsV.owns (owns_later HO.out hb)).len
      simp only [Value.slice.injEq] at e1
      obtain ⟨rfl, _, rfl⟩ := e1
      obtain ⟨g, off, rfl, hcy⟩ := hcell j y hy
      have hys : y.size ≤ maxLen := by have := HSZ.out y (List.mem_of_getElem? hy); unfold maxLen; omega
      have hb0 := HBB.out.trans (hb.mono HBB.out.size)
      obtain ⟨k0, k1, k2, _⟩ := HC0.out wr hb0
      have hsz1 := hb.size
      have hll : ((l0.take j).filter fun k => decide (hN seed k % N = b)).length ≤ 1000000 := by
        have h1 := List.length_filter_le (fun k => decide (hN seed k % N = b)) (l0.take j)
        rw [List.length_take] at h1
        omega
      have HY := Lib.hid hy
      have HH1 := Lib.hid fun (W : World) => HH.out W y hys
      have HB3 := Lib.hid fun (W : World) => HB2.out W y
      clear hcell hy c0 c1 c2 hc
      by_cases hc : hN seed y % N = b
      · have HS := Lib.hid (filter_snoc_pos (P := fun k => decide (hN seed k % N = b)) HY.out (by simpa using hc))
        have HQ := Lib.hid hc
        clear hc
        obtain ⟨ax, cx, rfl⟩ := owns_slice ho
        rw [HQ.out] at HB3
        go_wp2
        go_quiet ((first | (go_at_call 63; exact q_same (HH1.out _)) | (go_at_call 70; exact q_same (HB3.out _))))
        go_wp2_with (at_builtin; refine wpList_append_lies _ rfl (.tmp 41) (.tmp 43) 39 rfl w2.heap.size 9 iS (.string ByteArray.empty) 1 16 Try.underlying39 hiS zS0 zS1 zS2 rfl (by decide) _ _ _ rfl (owns_later (owns_later ho ((IsDrew.one wr _).below _)) (b_al8 _ _)) ⟨wr.heap.size, 0, none⟩ 1 1 [.string y] rfl rfl (cell1 (wr.drewN _) _ _) str_cell (by omega) (by unfold maxLen; omega) (by omega) (by simp; omega) _ rfl ?_; intro g2 cap2 w' h2 h3 h4 h5)
        go_roundw
        case rel =>
          refine ⟨j + 1, by omega, by go_num, ?_, ?_⟩
          · rw [HS.out]
            simp only [List.length_append, List.length_singleton, List.map_append, List.map_cons, List.map_nil]
            exact h2
          · have b3 := grown_below (owns_later (owns_later ho ((IsDrew.one wr _).below _)) (b_al8 _ _)) h3 (by simp; omega)
            exact (hb.trans ((((IsDrew.one wr _).below _).trans ((b_al8 (wr.drewN _) _).mono (Nat.le_refl _))).mono hsz1)).trans b3
        case measure => simp [intOf]; omega
      · have HS := Lib.hid (filter_snoc_neg (P := fun k => decide (hN seed k % N = b)) HY.out (by simpa using hc))
        generalize hN seed y % N = z at *
        have hzb : ((z : Int) == (b : Int)) = false := by simp only [beq_eq_false_iff_ne, ne_eq]; omega
        clear hc
        go_wp2
        go_quiet ((first | (go_at_call 63; exact q_same (HH1.out _)) | (go_at_call 70; exact q_same (HB3.out _))))
        go_wp2
        go_roundw
        case rel =>
          refine ⟨j + 1, by omega, by go_num, ?_, hb.trans (((IsDrew.one wr _).below _).mono hsz1)⟩
          rw [HS.out]; exact ho
        case measure => simp [intOf]; omega
    · obtain rfl : j = l0.length := by omega
      go_wp2
      go_ret
      rw [List.take_of_length_le (Nat.le_refl _)] at ho
      exact ⟨_, _, rfl, owns_base ho HBB.out.size, HRE.out, HBB.out.trans (hb.mono HBB.out.size)⟩
end
end Go.Proofs.Ytkkijcnipjojoaa
