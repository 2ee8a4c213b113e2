/- The document's dict: contracts of its New, part, at, Has, All, Put, Delete. -/
import Derived.Test.YtkkijcnipjojoaaRefP
import Derived.Test.YtkkijcnipjojoaaDictD
namespace Go.Proofs.Ytkkijcnipjojoaa
open Go.RowKit

section
variable {w : World} {rb rr rc : Nat} {seed : Int} {D : Nat} {qs : List (PartR × Value)} {G : Nat → Prop}
theorem pix_before {ps : List PartR} {x j : Nat} (h : j < pix ps x) : ∀ p, ps[j]? = some p → fitsB x p = false := by
  intro p hp
  have := List.not_of_lt_findIdx h
  have hl := (List.getElem?_eq_some_iff.1 hp).1
  have e := (List.getElem?_eq_some_iff.1 hp).2
  rw [e] at this
  simpa using this
theorem q_drew {P : Program} {f : FuncId} {args : Array Value} {w : World} {n : Nat} {v : Value}
    (h : Calls P f args (w.drewN n) fun e w' => e = .returned v ∧ IsDrew (w.drewN n) w') : Calls P f args (w.drewN n) fun e w'' => e = .returned v ∧ ∃ m, w'' = w.drewN m :=
  h.mono fun _ _ ⟨he, m, hm⟩ => ⟨he, n + m, by rw [hm, World.drewN_drewN]⟩
set_option maxRecDepth 100000 in
set_option maxHeartbeats 1000000 in
theorem part_r (h : RMem w rb rr rc seed D qs G) (hS : SOk seed D (qs.map (·.1))) (x : Int) (x0 : 0 ≤ x) (x1 : x < 18446744073709551616) :
    Calls Try.prog 76 #[.pointer (some ⟨rb, 0, none⟩), .int .u64 x] w fun e w' => e = .returned (.int .i64 (pix (qs.map (·.1)) x.toNat : Nat)) ∧ IsDrew w w' := by
  obtain ⟨c0, c1, c2⟩ := h.cells
  have hlen : qs.length ≤ maxLen := owns_maxLen h.row
  unfold maxLen at hlen
  obtain ⟨p, hp, hpx, hpm⟩ := hS.pix_at x.toNat
  have hpl := (List.getElem?_eq_some_iff.1 hp).1
  rw [List.length_map] at hpl
  have HP : Hid (∀ j q, qs[j]? = some q → ∀ W, Below w.heap.size w W → W.cell? ⟨rb, 2, none⟩ = some (.slice (some ⟨rr, 0, none⟩) (qs.length : Nat) rc) ∧ W.cell? ⟨rr, j * 3, none⟩ = some (.int .i64 (q.1.dep : Nat)) ∧ W.cell? ⟨rr, j * 3 + 1, none⟩ = some (.int .u64 (q.1.bits : Nat))) := fun j q hq W hb => ⟨(h.step hb).cells.2.2, ((h.step hb).part hq).1, ((h.step hb).part hq).2.1⟩
  have HD : Hid (∀ q ∈ qs, q.1.dep ≤ 16) := fun q hq => by
    have := hS.dep q.1 (List.mem_map.2 ⟨q, hq, rfl⟩)
    have := hS.dmax
    omega
  have HB : Hid (∀ j q, qs[j]? = some q → j < pix (qs.map (·.1)) x.toNat → ¬ x.toNat % 2 ^ q.1.dep = q.1.bits) := fun j q hq hj e => by
    have := pix_before hj q.1 (by rw [List.getElem?_map, hq]; rfl)
    rw [fitsB_iff.2 e] at this
    cases this
  have HL : Hid (∀ (W : World) (d : Nat), d ≤ 16 → Calls Try.prog 38 #[.int .u64 x, .int .i64 (d : Nat)] W fun e w' => e = .returned (.int .u64 ((x.toNat % 2 ^ d : Nat) : Int)) ∧ W = w') := fun W d hd => low_nat x d x0 hd ▸ rlow_any x d W x0 x1
  have HE : Hid (∀ q, qs[pix (qs.map (·.1)) x.toNat]? = some q → x.toNat % 2 ^ q.1.dep = q.1.bits) := fun q hq => by
    have : (qs.map (·.1))[pix (qs.map (·.1)) x.toNat]? = some q.1 := by rw [List.getElem?_map, hq]; rfl
    rw [hp] at this
    simp only [Option.some.injEq] at this
    rw [← this]; exact hpx
  generalize pix (qs.map (·.1)) x.toNat = N at *
  generalize x.toNat = X at *
  clear h hS hp hpx hpm
  go_enter Try.func76, Try.ntmps76
  go_wp2
  go_loopg [5] N (fun g i wr => ∃ j : Nat, j + g = N ∧ i = .int .i64 j ∧ IsDrew w wr)
  case atStart => exact ⟨0, by omega, rfl, IsDrew.refl w⟩
  case round =>
    obtain ⟨j, hj, rfl, hdr⟩ := hrel
    have HDR := Lib.hid hdr
    have HJ := Lib.hid hj
    have hjl : j < qs.length := by omega
    have hjN : j ≤ N := by omega
    clear hj
    obtain ⟨q, hq⟩ : ∃ q, qs[j]? = some q := ⟨qs[j], List.getElem?_eq_getElem hjl⟩
    obtain ⟨c2, k0, k1⟩ := HP.out j q hq wr (hdr.below _)
    clear hdr c0 c1
    have HLW := Lib.hid fun (W : World) => HL.out W q.1.dep (HD.out q (List.mem_of_getElem? hq))
    by_cases c : j = N
    · have e := HE.out q (by rw [← c]; exact hq)
      have HCN := Lib.hid c
      clear c
      generalize X % 2 ^ q.1.dep = z at *
      have hzb : ((z : Int) == ((q.1.bits : Nat) : Int)) = true := by simp only [beq_iff_eq]; omega
      clear hq e
      go_wp2
      go_quiet ((go_at_call 38; exact q_same (HLW.out _)))
      go_wp2
      go_ret
      exact ⟨by rw [← HCN.out]; rfl, HDR.out.trans (IsDrew.one _ _)⟩
    · have e := HB.out j q hq (by omega)
      generalize X % 2 ^ q.1.dep = z at *
      have hzb : ((z : Int) == ((q.1.bits : Nat) : Int)) = false := by simp only [beq_eq_false_iff_ne, ne_eq]; omega
      clear hq e
      go_wp2
      go_quiet ((go_at_call 38; exact q_same (HLW.out _)))
      go_wp2
      go_roundg (gk - 1)
      case measure => have := HJ.out; omega
      case rel => exact ⟨j + 1, by have := HJ.out; omega, by go_num, HDR.out.trans (IsDrew.one _ _)⟩
end

/-- The place of a text in a list, -1: none. -/
def posN (ks : List ByteArray) (key : ByteArray) : Nat := ks.findIdx fun k => decide (k = key)
def posI (ks : List ByteArray) (key : ByteArray) : Int := if posN ks key < ks.length then (posN ks key : Int) else -1
theorem posI_yes {ks : List ByteArray} {key : ByteArray} (h : key ∈ ks) : ks[posN ks key]? = some key ∧ posI ks key = (posN ks key : Int) ∧ posN ks key < ks.length := by
  have hl : posN ks key < ks.length := List.findIdx_lt_length_of_exists ⟨key, h, by simp⟩
  refine ⟨?_, by unfold posI; rw [if_pos hl], hl⟩
  have h1 := List.findIdx_getElem (w := hl)
  have h2 : ks[posN ks key] = key := of_decide_eq_true h1
  rw [List.getElem?_eq_getElem hl, h2]
theorem posI_no {ks : List ByteArray} {key : ByteArray} (h : key ∉ ks) : posI ks key = -1 := by
  unfold posI
  rw [if_neg]
  intro hl
  have := List.findIdx_getElem (w := hl)
  simp only [decide_eq_true_eq] at this
  exact h (this ▸ List.getElem_mem hl)
theorem posN_before {ks : List ByteArray} {key : ByteArray} {j : Nat} (h : j < posN ks key) {k : ByteArray} (hk : ks[j]? = some k) : k ≠ key := by
  have := List.not_of_lt_findIdx h
  have e := (List.getElem?_eq_some_iff.1 hk).2
  rw [e] at this
  simpa using this
theorem posN_here {ks : List ByteArray} {key k : ByteArray} (hk : ks[posN ks key]? = some k) : k = key := by
  have hl := (List.getElem?_eq_some_iff.1 hk).1
  have h1 := List.findIdx_getElem (w := hl)
  have h2 : ks[posN ks key] = key := of_decide_eq_true h1
  rw [List.getElem?_eq_getElem hl, h2] at hk
  exact (Option.some.inj hk).symm
theorem posN_le (ks : List ByteArray) (key : ByteArray) : posN ks key ≤ ks.length := List.findIdx_le_length
set_option maxRecDepth 100000 in
set_option maxHeartbeats 1000000 in
theorem pos_any (w : World) (v : Value) (ks : List ByteArray) (key : ByteArray) (hr : ReadsS w v ks) :
    Calls Try.prog 77 #[v, .string key] w fun e w' => e = .returned (.int .i64 (posI ks key)) ∧ w = w' := by
  obtain ⟨a, c, rfl, hlen, hcell⟩ := hr.len
  unfold maxLen at hlen
  have hle := posN_le ks key
  have HB : Hid (∀ j k, ks[j]? = some k → j < posN ks key → k ≠ key) := fun j k h1 h2 => posN_before h2 h1
  have HE : Hid (∀ k, ks[posN ks key]? = some k → k = key) := fun k h => posN_here h
  have HI : Hid (posI ks key = if posN ks key < ks.length then (posN ks key : Int) else -1) := rfl
  have HC := Lib.hid hcell
  clear hcell hr
  generalize posI ks key = R at *
  generalize posN ks key = N at *
  go_enter Try.func77, Try.ntmps77
  go_wp2
  go_loop [5] (fun i => ∃ j : Nat, j ≤ N ∧ i = .int .i64 j) (fun i => N - (intOf i).toNat)
  case atStart => exact ⟨0, by omega, rfl⟩
  case round =>
    obtain ⟨j, hj, rfl⟩ := hrel
    by_cases hlt : j < ks.length
    · obtain ⟨k, hk⟩ : ∃ k, ks[j]? = some k := ⟨ks[j], List.getElem?_eq_getElem hlt⟩
      obtain ⟨b, off, hab, hck⟩ := HC.out j k hk
      subst hab
      by_cases c : j = N
      · have ce : k = key := HE.out k (by rw [← c]; exact hk)
        have HQ := bytes_eq ce
        have HCN := Lib.hid c
        clear hk c
        go_wp2
        go_ret
        have hi := HI.out
        rw [← HCN.out, if_pos hlt] at hi
        exact ⟨by rw [hi]; rfl, rfl⟩
      · have ce : k ≠ key := HB.out j k hk (by omega)
        have HQ := str_ne ce
        clear hk
        go_wp2
        go_round
        case rel => exact ⟨j + 1, by omega, by go_num⟩
        case measure => simp [intOf]; omega
    · have hi := HI.out
      rw [if_neg (by omega)] at hi
      have HII := Lib.hid hi
      clear hi
      go_wp2
      go_ret
      exact ⟨by rw [HII.out]; rfl, rfl⟩

section
variable {w : World} {rb : Nat} {seed : Int} {S : Nat × List PartR} {G : Nat → Prop} {L : Nat}
set_option maxRecDepth 100000 in
set_option maxHeartbeats 1000000 in
theorem has_r (h : Rct w rb seed S G L) (key : ByteArray) (hkey : key.size ≤ maxLen) :
    Calls Try.prog 82 #[.pointer (some ⟨rb, 0, none⟩), .string key] w fun e w' => e = .returned (.bool (inB' S.2 key)) ∧ IsDrew w w' := by
  obtain ⟨qs, rr, rc, hq, hm, hS, _⟩ := h
  obtain ⟨c0, c1, c2⟩ := hm.cells
  obtain ⟨p, hp, _, _⟩ := hS.pix_at (hN seed key)
  obtain ⟨v, hv⟩ := qs_get hq hp
  have hl := (List.getElem?_eq_some_iff.1 hv).1
  obtain ⟨_, _, k2⟩ := hm.part hv
  have hmx : qs.length ≤ maxLen := owns_maxLen hm.row
  unfold maxLen at hmx
  have HP := Lib.hid fun (W : World) (hb : Below w.heap.size w W) => hq ▸ part_r (hm.step hb) (by rw [hq]; exact hS) (hk seed key) (hk_bd seed key).1 (hk_bd seed key).2
  have HH := Lib.hid fun (W : World) => rhash_hk seed key W hkey
  have HA := Lib.hid fun (W : World) (hb : Below w.heap.size w W) => pos_any W v p.keys key (ReadsV.owns ((hm.step hb).keys _ (List.mem_of_getElem? hv)))
  have HR : Hid (decide (0 ≤ posI p.keys key) = inB' S.2 key) := by
    refine Bool.eq_iff_iff.2 ?_
    rw [decide_eq_true_iff, inB'_iff, hS.key_at hp]
    constructor
    · intro h0
      cases Classical.em (key ∈ p.keys) with
      | inl h1 => exact h1
      | inr h1 => rw [posI_no h1] at h0; omega
    · intro h1
      rw [(posI_yes h1).2.1]; omega
  have HN : Hid ((hk seed key).toNat = hN seed key) := rfl
  rw [HN.out] at HP
  generalize hN seed key = x at *
  generalize pix S.2 x = i at *
  clear hq hm hS hp hv HN
  go_enter Try.func82, Try.ntmps82
  go_wp2
  go_quiet ((first | (go_at_call 29; exact q_same (HH.out _)) | (go_at_call 76; exact q_drew (HP.out _ ((IsDrew.one w _).below _))) | (go_at_call 77; exact q_same (HA.out _ ((IsDrew.one w _).below _)))))
  go_wp2
  go_ret
  exact ⟨by rw [HR.out]; rfl, IsDrew.one _ _⟩

theorem allK_snoc {qs : List (PartR × Value)} {j : Nat} {q : PartR × Value} (h : qs[j]? = some q) : allK ((qs.take (j + 1)).map (·.1)) = allK ((qs.take j).map (·.1)) ++ q.1.keys := by
  rw [List.take_add_one, h]
  simp [allK]
theorem allK_take (qs : List (PartR × Value)) (j : Nat) : (allK ((qs.take j).map (·.1))).length ≤ (allK (qs.map (·.1))).length := by
  conv => rhs; rw [← List.take_append_drop j qs]
  simp only [allK, List.map_append, List.flatMap_append, List.length_append]
  omega
set_option maxRecDepth 100000 in
set_option maxHeartbeats 1000000 in
theorem all_r (h : Rct w rb seed S G L) (hL : L ≤ 1000000) :
    Calls Try.prog 79 #[.pointer (some ⟨rb, 0, none⟩)] w fun e w' => ∃ v, e = .returned v ∧ w'.ownsRow w.heap.size 9 1 v (allK S.2).length ((allK S.2).map Value.string) ∧ Below w.heap.size w w' := by
  obtain ⟨qs, rr, rc, hq, hm, hS, hfew⟩ := h
  have hmx : qs.length ≤ maxLen := owns_maxLen hm.row
  unfold maxLen at hmx
  have HC := Lib.hid fun (W : World) (hb : Below w.heap.size w W) => (hm.step hb).cells
  have HK : Hid (∀ j q, qs[j]? = some q → ∀ W, Below w.heap.size w W → W.cell? ⟨rr, j * 3 + 2, none⟩ = some q.2 ∧ W.ownsRow 0 9 1 q.2 q.1.keys.length (q.1.keys.map Value.string)) := fun j q hj W hb => ⟨((hm.step hb).part hj).2.2, (hm.step hb).keys q (List.mem_of_getElem? hj)⟩
  have hfew2 : ∀ j, (allK ((qs.take j).map (·.1))).length ≤ 1000000 := fun j => by have := allK_take qs j; rw [hq] at this; omega
  have HF := Lib.hid hfew2
  have HQ := Lib.hid hq
  obtain ⟨iS, hiS, zS0, zS1, zS2⟩ := info_parts info_str
  clear hm hS hfew hfew2 hq
  go_enter Try.func79, Try.ntmps79
  go_wp2
  go_loopg [3, 4] qs.length (fun g v i wr => ∃ j : Nat, j + g = qs.length ∧ i = .int .i64 j ∧ wr.ownsRow w.heap.size 9 1 v (allK ((qs.take j).map (·.1))).length ((allK ((qs.take j).map (·.1))).map Value.string) ∧ Below w.heap.size w wr)
  case atStart => exact ⟨0, by omega, rfl, World.ownsRow_nil _ _ _ _, Below.refl _ _⟩
  case round =>
    obtain ⟨j, hj, rfl, ho, hb⟩ := hrel
    have HJ := Lib.hid hj
    have hjl : j ≤ qs.length := by omega
    clear hj
    obtain ⟨c0, c1, c2⟩ := HC.out wr hb
    by_cases hlt : j < qs.length
    · obtain ⟨q, hq⟩ : ∃ q, qs[j]? = some q := ⟨qs[j], List.getElem?_eq_getElem hlt⟩
      obtain ⟨k2, o2⟩ := HK.out j q hq wr hb
      have h1 := HF.out (j + 1)
      have hsz := hb.size
      have HE := Lib.hid (allK_snoc hq)
      rw [HE.out, List.length_append] at h1
      clear hq
      go_wp2_with (at_builtin; refine wpList_append_two _ rfl (.tmp 14) (.tmp 22) 39 rfl w.heap.size 9 iS (.string ByteArray.empty) 16 Try.underlying39 hiS zS0 zS1 zS2 rfl _ _ _ rfl ho _ _ _ _ rfl o2 (strs_one _) (by unfold maxLen; omega) (by omega) (by omega) ?_; intro v' w' o3 b3)
      go_roundg (gk - 1)
      case measure => have := HJ.out; omega
      case rel =>
        refine ⟨j + 1, by have := HJ.out; omega, by go_num, ?_, hb.trans b3⟩
        rw [HE.out, List.length_append, List.map_append]
        exact o3
    · obtain rfl : j = qs.length := by omega
      go_wp2
      go_ret
      have e : allK S.2 = allK ((qs.take qs.length).map (·.1)) := by rw [List.take_of_length_le (Nat.le_refl _), HQ.out]
      rw [e]
      exact ⟨_, rfl, ho, hb⟩

set_option maxRecDepth 100000 in
set_option maxHeartbeats 1000000 in
theorem new_r (seed : Int) (w : World) : Calls Try.prog 43 #[.int .u64 seed] w fun e w' =>
    ∃ rb G, e = .returned (.pointer (some ⟨rb, 0, none⟩)) ∧ Rct w' rb seed (0, [⟨0, 0, []⟩]) G 0 ∧ Below w.heap.size w w' ∧ ∀ k, G k → w.heap.size ≤ k := by
  go_enter Try.func43, Try.ntmps43
  go_wp2
  go_ret
  have hb : Below w.heap.size w ((w.alloc (.cells #[.int .i64 0, .int .u64 0, .slice none 0 0] 107)).alloc (.cells #[.int .u64 seed, .int .i64 0, .slice (some ⟨w.heap.size, 0, none⟩) 1 1] 110)) := ((Below.refl _ _).alloc (Nat.le_refl _) _).alloc (by simp) _
  refine ⟨_, fun k => k = w.heap.size ∨ k = w.heap.size + 1, rfl, ⟨[(⟨0, 0, []⟩, .slice none 0 0)], w.heap.size, 1, rfl, ⟨?_, ?_, ?_, .inr rfl, .inl rfl, ?_, ?_⟩, SOk.start seed, by simp [allK]⟩, hb, fun k hk => by rcases hk with e | e <;> omega⟩
  · have := heap_alloc_new (w.alloc (.cells #[.int .i64 0, .int .u64 0, .slice none 0 0] 107)) (.cells #[.int .u64 seed, .int .i64 0, .slice (some ⟨w.heap.size, 0, none⟩) 1 1] 110)
    rw [World.size_alloc] at this
    exact this
  · refine ⟨rfl, .inr ⟨w.heap.size, 1, #[.int .i64 0, .int .u64 0, .slice none 0 0], rfl, Nat.zero_le _, ?_, Nat.le_refl _, by unfold maxLen; omega, rfl, rfl⟩⟩
    rw [heap_alloc_old _ _ (by simp)]; exact heap_alloc_new _ _
  · intro q hq
    rw [List.mem_singleton] at hq
    subst hq
    exact World.ownsRow_nil _ _ _ _
  · intro q hq b hb
    rw [List.mem_singleton] at hq
    subst hq
    simp [Value.ownBlock] at hb
  · intro k hk
    simp
    rcases hk with e | e <;> omega
end


section
variable {w : World} {rb : Nat} {seed : Int} {S : Nat × List PartR} {G : Nat → Prop} {L : Nat} {key : ByteArray}
theorem put_same (h : key ∈ allK S.2) : putS seed S key = S := by unfold putS; rw [if_pos (inB'_iff.2 h)]
set_option maxRecDepth 100000 in
set_option maxHeartbeats 4000000 in
theorem put_r (h : Rct w rb seed S G L) (hkey : key.size ≤ 20) (hL : L ≤ 1000000) :
    Calls Try.prog 44 #[.pointer (some ⟨rb, 0, none⟩), .string key] w fun e w' => e = .returned (.tuple #[]) ∧ ∃ G', Rct w' rb seed (putS seed S key) G' (L + 1) ∧ Fr w w' G G' := by
  have hR := h
  obtain ⟨qs, rr, rc, hq, hm, hS, hfew⟩ := h
  obtain ⟨c0, c1, c2⟩ := hm.cells
  obtain ⟨p, hp, hx, hpm⟩ := hS.pix_at (hN seed key)
  obtain ⟨v, hv⟩ := qs_get hq hp
  obtain ⟨_, _, k2⟩ := hm.part hv
  simp only at k2
  have hil := (List.getElem?_eq_some_iff.1 hv).1
  have hmx : qs.length ≤ maxLen := owns_maxLen hm.row
  unfold maxLen at hmx
  have HP := Lib.hid fun (W : World) (hb : Below w.heap.size w W) => hq ▸ part_r (hm.step hb) (by rw [hq]; exact hS) (hk seed key) (hk_bd seed key).1 (hk_bd seed key).2
  have HH := Lib.hid fun (W : World) => rhash_hk seed key W (by unfold maxLen; omega)
  have hov := owns_here (hm.keys _ (List.mem_of_getElem? hv))
  have HA := Lib.hid fun (W : World) (hb : Below w.heap.size w W) => pos_any W v p.keys key (ReadsV.owns (owns_later hov hb))
  have HN : Hid ((hk seed key).toNat = hN seed key) := rfl
  rw [HN.out] at HP
  by_cases hin : key ∈ allK S.2
  · have hpk := (hS.key_at hp).1 hin
    rw [(posI_yes hpk).2.1] at HA
    have HE : Hid (∀ W, Below w.heap.size w W → ∃ G', Rct W rb seed (putS seed S key) G' (L + 1) ∧ Fr w W G G') := fun W hb => by
      rw [put_same hin]
      exact ⟨G, (hR.step hb).le (by omega), Fr.of_below hb G⟩
    have HCE : Hid (∀ W, Below w.heap.size w W → W.cell? ⟨rb, 2, none⟩ = some (.slice (some ⟨rr, 0, none⟩) (qs.length : Nat) rc) ∧ W.cell? ⟨rr, pix S.2 (hN seed key) * 3 + 2, none⟩ = some v) := fun W hb => ⟨(hm.step hb).cells.2.2, ((hm.step hb).part hv).2.2⟩
    clear hm hS hp hv hq hR hx hpk hin hov
    generalize pix S.2 (hN seed key) = i at *
    generalize posN p.keys key = j at *
    go_enter Try.func44, Try.ntmps44
    go_wp2_with (first | (go_at_call 29; refine (HH.out _).mono ?_; rintro e w1 ⟨rfl, rfl⟩) | (go_at_call 76; refine (HP.out _ (Below.refl _ _)).mono ?_; rintro e w2 ⟨rfl, hd2⟩; have hb2 := hd2.below w.heap.size; obtain ⟨z2, zk⟩ := HCE.out _ hb2) | (go_at_call 77; refine (HA.out _ hb2).mono ?_; rintro e w3 ⟨rfl, rfl⟩))
    refine bodyPost_ret (results_none rfl _ _ _) rfl ?_
    exact ⟨rfl, HE.out _ hb2⟩

  · have hpk : key ∉ p.keys := fun e => hin ((hS.key_at hp).2 e)
    rw [posI_no hpk] at HA
    have HNI := Lib.hid hin
    have HS := Lib.hid hS
    have HM := Lib.hid hm
    have HQ := Lib.hid hq
    have HPP := Lib.hid hp
    have HCE : Hid (∀ W, Below w.heap.size w W → W.cell? ⟨rb, 2, none⟩ = some (.slice (some ⟨rr, 0, none⟩) (qs.length : Nat) rc) ∧ W.cell? ⟨rr, pix S.2 (hN seed key) * 3 + 2, none⟩ = some v) := fun W hb => ⟨(hm.step hb).cells.2.2, ((hm.step hb).part hv).2.2⟩
    have HI0 : Hid (∃ i, i = pix S.2 (hN seed key)) := ⟨_, rfl⟩
    clear hm hS hp hv hq hR hx hpk hin hov
    generalize hi0 : pix S.2 (hN seed key) = i0 at *
    have HII := Lib.hid hi0
    clear hi0
    go_enter Try.func44, Try.ntmps44
    go_wp2_with (first | (go_at_call 29; refine (HH.out _).mono ?_; rintro e w1 ⟨rfl, rfl⟩) | (go_at_call 76; refine (HP.out _ (Below.refl _ _)).mono ?_; rintro e w2 ⟨rfl, hd2⟩; have hb2 := hd2.below w.heap.size; obtain ⟨z2, zk⟩ := HCE.out _ hb2) | (go_at_call 77; refine (HA.out _ hb2).mono ?_; rintro e w3 ⟨rfl, rfl⟩))
    go_loopg [5] 16 (fun g iv wr => ∃ (T : Nat × List PartR) (qs1 : List (PartR × Value)) (rr1 rc1 : Nat) (G1 : Nat → Prop) (p1 : PartR), iv = .int .i64 (pix T.2 (hN seed key) : Nat) ∧ GrowI seed (hN seed key) S T ∧ qs1.map (·.1) = T.2 ∧ RMem wr rb rr1 rc1 seed T.1 qs1 G1 ∧ Fr w wr G G1 ∧ T.2[pix T.2 (hN seed key)]? = some p1 ∧ 16 ≤ g + p1.dep)
    case atStart => exact ⟨S, qs, rr, rc, G, p, by rw [HII.out], GrowI.start HS.out _, HQ.out, HM.out.step hb2, Fr.of_below hb2 G, by rw [HII.out]; exact HPP.out, by omega⟩
    case round =>
      clear z2 zk hb2 hd2 HCE HA HP HPP HM HII k2 hil hmx c0 c1 c2
      obtain ⟨T, qs1, rr1, rc1, G1, p1, rfl, hG, hq1, hm1, hf1, hp1, hg1⟩ := hrel
      obtain ⟨v1, hv1⟩ := qs_get hq1 hp1
      obtain ⟨k0, _, k2⟩ := hm1.part hv1
      simp only at k0 k2
      obtain ⟨c0, c1, c2⟩ := hm1.cells
      have hil := (List.getElem?_eq_some_iff.1 hv1).1
      have hmx : qs1.length ≤ maxLen := owns_maxLen hm1.row
      unfold maxLen at hmx
      have hov := owns_here (hm1.keys _ (List.mem_of_getElem? hv1))
      obtain ⟨av, cv, rfl⟩ := owns_slice hov
      have hkl : p1.keys.length ≤ 1000000 := by
        have h1 := hG.len HS.out
        have h2 : p1.keys.length ≤ (allK T.2).length := (hG.ok.nodup _ (List.mem_of_getElem? hp1)).length_le_of_subset fun k hk => by unfold allK; exact List.mem_flatMap.2 ⟨p1, List.mem_of_getElem? hp1, hk⟩
        omega
      have HG1 := Lib.hid hG
      have HQ1 := Lib.hid hq1
      have HM1 := Lib.hid hm1
      have HF1 := Lib.hid hf1
      have HP1 := Lib.hid hp1
      have HV1 := Lib.hid hv1
      have HOV := Lib.hid hov
      have HGG := Lib.hid hg1
      have hrl1 := hm1.glt _ hm1.grb
      have hrl2 := hm1.glt _ hm1.grr
      have hfz := hm1.row.frozenAt (pix T.2 (hN seed key) * 3 + 2)
      by_cases hgo : 112 ≤ p1.keys.length ∧ p1.dep < 16
      · obtain ⟨hg2, hg3⟩ := hgo
        have HSP := Lib.hid (split_r hm1 (by rw [hq1]; exact hG.ok) hv1 hg3 hkl)
        have HPX := Lib.hid fun (W : World) (rr2 rc2 : Nat) (qs2 : List (PartR × Value)) (G2 : Nat → Prop) (hm2 : RMem W rb rr2 rc2 seed (max T.1 (p1.dep + 1)) qs2 G2) (hq2 : qs2.map (·.1) = spS seed T.2 (pix T.2 (hN seed key)) p1) => hq2 ▸ part_r hm2 (by rw [hq2]; exact hG.ok.split hp1 hg3) (hk seed key) (hk_bd seed key).1 (hk_bd seed key).2
        rw [hq1] at HSP
        rw [HN.out] at HPX
        have hd1 : ((p1.dep : Nat) : Int) < 16 := by omega
        have hl1 : (112 : Int) ≤ ((p1.keys.length : Nat) : Int) := by omega
        clear hG hq1 hm1 hf1 hp1 hv1 hov hg1
        go_wp2_with (first | (go_at_call 78; refine HSP.out.mono ?_; rintro e w4 ⟨rfl, qs2, rr2, rc2, G2, hq2, hm2, hf2⟩; have HPY := Lib.hid (HPX.out _ _ _ _ _ hm2 hq2); have HQ2 := Lib.hid hq2; have HM2 := Lib.hid hm2; have HF2 := Lib.hid hf2; clear hq2 hm2 hf2) | (go_at_call 76; refine HPY.out.mono ?_; rintro e w5 ⟨rfl, hd5⟩))
        go_roundg (gk - 1)
        case measure => have := HGG.out; omega
        case rel =>
          obtain ⟨p2, hp2, hd2⟩ := HG1.out.ok.split_pix HP1.out hg3
          have hb5 := hd5.below w4.heap.size
          exact ⟨_, qs2, rr2, rc2, G2, p2, rfl, HG1.out.step HP1.out hg2 hg3, HQ2.out, HM2.out.step hb5, (HF1.out.trans HF2.out).trans (Fr.of_below hb5 G2), hp2, by have := HGG.out; omega⟩
      · have hfull : Hid (p1.keys.length < 112 ∨ 16 ≤ p1.dep) := by unfold Hid; omega
        by_cases hlt : p1.keys.length < 112
        · have hl1 : ¬ (112 : Int) ≤ ((p1.keys.length : Nat) : Int) := by omega
          clear hG hq1 hm1 hf1 hp1 hv1 hov hg1 hgo
          go_wp2
          go_upto_region 6 with (fail)
          exact regP_any HS HNI hkey HG1 HQ1 HM1 HF1 HP1 HV1 hfull hkl hfew (fun W h => ⟨rfl, h⟩)
        · have hl1 : (112 : Int) ≤ ((p1.keys.length : Nat) : Int) := by omega
          have hd1 : ¬ ((p1.dep : Nat) : Int) < 16 := by omega
          clear hG hq1 hm1 hf1 hp1 hv1 hov hg1 hgo
          go_wp2
          go_upto_region 6 with (fail)
          exact regP_any HS HNI hkey HG1 HQ1 HM1 HF1 HP1 HV1 hfull hkl hfew (fun W h => ⟨rfl, h⟩)

set_option maxRecDepth 100000 in
set_option maxHeartbeats 4000000 in
theorem delete_r (h : Rct w rb seed S G L) (hkey : key.size ≤ 20) (hL : L ≤ 1000000) :
    Calls Try.prog 84 #[.pointer (some ⟨rb, 0, none⟩), .string key] w fun e w' => e = .returned (.bool (inB' S.2 key)) ∧ ∃ G', Rct w' rb seed (S.1, delS seed S.2 key) G' L ∧ Fr w w' G G' := by
  have hR := h
  obtain ⟨qs, rr, rc, hq, hm, hS, hfew⟩ := h
  obtain ⟨c0, c1, c2⟩ := hm.cells
  obtain ⟨p, hp, hx, hpm⟩ := hS.pix_at (hN seed key)
  obtain ⟨v, hv⟩ := qs_get hq hp
  obtain ⟨_, _, k2⟩ := hm.part hv
  simp only at k2
  have hil := (List.getElem?_eq_some_iff.1 hv).1
  have hmx : qs.length ≤ maxLen := owns_maxLen hm.row
  unfold maxLen at hmx
  have HP := Lib.hid fun (W : World) (hb : Below w.heap.size w W) => hq ▸ part_r (hm.step hb) (by rw [hq]; exact hS) (hk seed key) (hk_bd seed key).1 (hk_bd seed key).2
  have HH := Lib.hid fun (W : World) => rhash_hk seed key W (by unfold maxLen; omega)
  have hov := owns_here (hm.keys _ (List.mem_of_getElem? hv))
  have HA := Lib.hid fun (W : World) (hb : Below w.heap.size w W) => pos_any W v p.keys key (ReadsV.owns (owns_later hov hb))
  have HN : Hid ((hk seed key).toNat = hN seed key) := rfl
  rw [HN.out] at HP
  have HCE : Hid (∀ W, Below w.heap.size w W → W.cell? ⟨rb, 2, none⟩ = some (.slice (some ⟨rr, 0, none⟩) (qs.length : Nat) rc) ∧ W.cell? ⟨rr, pix S.2 (hN seed key) * 3 + 2, none⟩ = some v) := fun W hb => ⟨(hm.step hb).cells.2.2, ((hm.step hb).part hv).2.2⟩
  by_cases hin : key ∈ allK S.2
  · have hpk := (hS.key_at hp).1 hin
    have hpos := posI_yes hpk
    rw [hpos.2.1] at HA
    have hbt : inB' S.2 key = true := inB'_iff.2 hin
    rw [hbt]
    have hkl : p.keys.length ≤ 1000000 := by
      have h2 : p.keys.length ≤ (allK S.2).length := (hS.nodup _ hpm).length_le_of_subset fun k hk => by unfold allK; exact List.mem_flatMap.2 ⟨p, hpm, hk⟩
      omega
    obtain ⟨gk, ck, rfl⟩ : ∃ gk ck, v = .slice (some ⟨gk, 0, none⟩) p.keys.length ck := by
      rcases hov.2 with ⟨_, h0⟩ | ⟨g, cap, cur, hv, _⟩
      · have := hpos.2.2; omega
      · exact ⟨g, cap, hv⟩
    have HS := Lib.hid hS
    have HM := Lib.hid hm
    have HQ := Lib.hid hq
    have HPP := Lib.hid hp
    have HVV := Lib.hid hv
    have HIN := Lib.hid hin
    have HJ := Lib.hid hpos.1
    have hjl := hpos.2.2
    clear hm hS hp hv hq hR hx hpk hin hov hpos hbt hpm
    generalize posN p.keys key = j at *
    go_enter Try.func84, Try.ntmps84
    go_wp2_with (first | (go_at_call 29; refine (HH.out _).mono ?_; rintro e w1 ⟨rfl, rfl⟩) | (go_at_call 76; refine (HP.out _ (Below.refl _ _)).mono ?_; rintro e w2 ⟨rfl, hd2⟩; have hb2 := hd2.below w.heap.size; obtain ⟨z2, zk⟩ := HCE.out _ hb2; have HM2 := Lib.hid (HM.out.step hb2); have HB2 := Lib.hid hb2) | (go_at_call 77; refine (HA.out _ hb2).mono ?_; rintro e w3 ⟨rfl, rfl⟩))
    go_upto_region 6 with (fail)
    refine regD_any HS HQ HM2 HPP HVV HIN HJ hjl hkl hfew ?_
    intro x36 x37 x38 x39 x40 x41 x42 x43 x44 x45 x46 x47 x48 x49 x50 x51 x52 W hW
    go_wp2
    go_ret
    obtain ⟨G', r1, r2⟩ := hW
    exact ⟨rfl, G', r1, (Fr.of_below HB2.out G).trans r2⟩
  · have hpk : key ∉ p.keys := fun e => hin ((hS.key_at hp).2 e)
    rw [posI_no hpk] at HA
    have hbf : inB' S.2 key = false := by
      cases hc : inB' S.2 key with
      | false => rfl
      | true => exact absurd (inB'_iff.1 hc) hin
    rw [hbf]
    have HE : Hid (∀ W, Below w.heap.size w W → ∃ G', Rct W rb seed (S.1, delS seed S.2 key) G' L ∧ Fr w W G G') := fun W hb => by
      rw [del_none hS hin]
      exact ⟨G, hR.step hb, Fr.of_below hb G⟩
    clear hm hS hp hv hq hR hx hpk hin hov hbf hpm
    generalize pix S.2 (hN seed key) = i at *
    go_enter Try.func84, Try.ntmps84
    go_wp2_with (first | (go_at_call 29; refine (HH.out _).mono ?_; rintro e w1 ⟨rfl, rfl⟩) | (go_at_call 76; refine (HP.out _ (Below.refl _ _)).mono ?_; rintro e w2 ⟨rfl, hd2⟩; have hb2 := hd2.below w.heap.size; obtain ⟨z2, zk⟩ := HCE.out _ hb2) | (go_at_call 77; refine (HA.out _ hb2).mono ?_; rintro e w3 ⟨rfl, rfl⟩))
    go_ret
    exact ⟨rfl, HE.out _ hb2⟩
end
end Go.Proofs.Ytkkijcnipjojoaa
