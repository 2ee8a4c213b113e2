/- Contracts of package dict: Get, Delete, Len, Depth. -/
import Derived.Test.YtkkijcnipjojoaaDictRead
namespace Go.Proofs.Ytkkijcnipjojoaa
open Go.RowKit

section
variable {w : World} {db : Nat} {seed : Int} {D n dr dc : Nat} {nds : List Nd} {F : Nat → Prop} {M : ByteArray → Option Int} {L : Nat} {x : Nd} {key : ByteArray}
theorem place_x (h : DMem w db seed D n dr dc nds F) (ho : DOk seed D nds M L) (hx : nds[pix (prts nds) (hN seed key)]? = some x) :
    Calls Try.prog 65 #[.pointer (some ⟨db, 0, none⟩), .int .u64 (hk seed key)] w fun e w' => e = .returned (.pointer (some ⟨x.b, 0, none⟩)) ∧ Below w.heap.size w w' := by
  refine (place_n h ho key).mono ?_
  rintro e w' ⟨⟨y, hy, rfl⟩, hb⟩
  rw [hx] at hy
  simp only [Option.some.injEq] at hy
  subst hy
  exact ⟨rfl, hb⟩
theorem find_no (h : NdAt w seed x) (key : ByteArray) (hk : key.size ≤ maxLen) (hno : ∀ t ∈ x.ts, t.m key = none) :
    Calls Try.prog 66 #[.pointer (some ⟨x.b, 0, none⟩), .string key] w fun e w' => e = .returned (.pointer none) ∧ Below w.heap.size w w' := by
  refine (find_d h key hk).mono ?_
  rintro e w' ⟨⟨a, t, b, hx, hk, rfl⟩ | ⟨_, rfl⟩, hb⟩
  · exact absurd (hno t (by rw [hx]; simp)) hk
  · exact ⟨rfl, hb⟩
theorem find_yes (h : NdAt w seed x) (key : ByteArray) (hk : key.size ≤ maxLen) (hyes : ∃ t ∈ x.ts, t.m key ≠ none) :
    Calls Try.prog 66 #[.pointer (some ⟨x.b, 0, none⟩), .string key] w fun e w' => (∃ a t b, x.ts = a ++ t :: b ∧ t.m key ≠ none ∧ e = .returned (.pointer (some ⟨t.t, 0, none⟩))) ∧ Below w.heap.size w w' := by
  refine (find_d h key hk).mono ?_
  rintro e w' ⟨h1 | ⟨h1, _⟩, hb⟩
  · exact ⟨h1, hb⟩
  · obtain ⟨t, ht, hc⟩ := hyes
    exact absurd hc (h1 t ht)
theorem DOk.no_of (h : DOk seed D nds M L) (hx : x ∈ nds) (hk : M key = none) : ∀ t ∈ x.ts, t.m key = none := by
  intro t ht
  cases hc : t.m key with
  | none => rfl
  | some v => rw [(h.nd x hx).sub t ht key v hc] at hk; cases hk
theorem DOk.yes_of (h : DOk seed D nds M L) (hx : nds[pix (prts nds) (hN seed key)]? = some x) (hk : M key ≠ none) : ∃ t ∈ x.ts, t.m key ≠ none := by
  have h1 := (h.dom key).1 hk
  rw [h.ok.key_at (prts_get hx), (h.nd x (List.mem_of_getElem? hx)).in_iff] at h1
  exact h1
end

/-- A dict: its state (depth, parts), what its keys have, where it lies, a bound. -/
def Dct (w : World) (db : Nat) (seed : Int) (S : Nat × List PartR) (M : ByteArray → Option Int) (F : Nat → Prop) (L : Nat) : Prop :=
  ∃ nds dr dc, prts nds = S.2 ∧ DMem w db seed S.1 (allK S.2).length dr dc nds F ∧ DOk seed S.1 nds M L
section
variable {w w' : World} {db : Nat} {seed : Int} {S : Nat × List PartR} {F F' : Nat → Prop} {M : ByteArray → Option Int} {L L' : Nat} {key : ByteArray}
theorem Dct.step (h : Dct w db seed S M F L) (hb : Below w.heap.size w w') : Dct w' db seed S M F L := by
  obtain ⟨nds, dr, dc, h1, h2, h3⟩ := h
  exact ⟨nds, dr, dc, h1, h2.step hb, h3⟩
theorem Dct.stay (h : Dct w db seed S M F L) (hs : w.heap.size ≤ w'.heap.size) (hb : ∀ k, F k → w'.heap[k]? = w.heap[k]?) : Dct w' db seed S M F L := by
  obtain ⟨nds, dr, dc, h1, h2, h3⟩ := h
  exact ⟨nds, dr, dc, h1, h2.stay hs hb, h3⟩
theorem Dct.sok (h : Dct w db seed S M F L) : SOk seed S.1 S.2 := by
  obtain ⟨nds, dr, dc, h1, _, h3⟩ := h
  rw [← h1]; exact h3.ok
theorem Dct.dom (h : Dct w db seed S M F L) (k : ByteArray) : M k ≠ none ↔ k ∈ allK S.2 := by
  obtain ⟨nds, dr, dc, h1, _, h3⟩ := h
  rw [← h1]; exact h3.dom k
theorem Dct.few (h : Dct w db seed S M F L) : (allK S.2).length ≤ L := by
  obtain ⟨nds, dr, dc, h1, _, h3⟩ := h
  rw [← h1]; exact h3.few
theorem Dct.le (h : Dct w db seed S M F L) (hL : L ≤ L') : Dct w db seed S M F L' := by
  obtain ⟨nds, dr, dc, h1, h2, h3⟩ := h
  exact ⟨nds, dr, dc, h1, h2, h3.ok, h3.nd, h3.dom, Nat.le_trans h3.few hL, fun x hx => by have := h3.tabs x hx; omega⟩
theorem Dct.lt (h : Dct w db seed S M F L) : (∀ k, F k → k < w.heap.size) ∧ F db := by
  obtain ⟨nds, dr, dc, _, h2, _⟩ := h
  exact ⟨h2.flt, h2.fdb⟩

set_option maxRecDepth 100000 in
set_option maxHeartbeats 1000000 in
theorem get_d (h : Dct w db seed S M F L) (key : ByteArray) (hkey : key.size ≤ maxLen) :
    Calls Try.prog 49 #[.pointer (some ⟨db, 0, none⟩), .string key] w fun e w' => e = .returned (.tuple #[.int .i64 ((M key).getD 0), .bool (M key).isSome]) ∧ Below w.heap.size w w' := by
  obtain ⟨nds, dr, dc, _, hm, ho⟩ := h
  obtain ⟨c0, _⟩ := hm.cells
  obtain ⟨x, hx, _, hxm, _⟩ := ho.node (hN seed key)
  have HP := Lib.hid (place_x hm ho hx)
  have HH := Lib.hid (hash_hk seed key w hkey)
  cases hc : M key with
  | none =>
    have HF := Lib.hid fun (W : World) (hb : Below w.heap.size w W) => find_no ((hm.nd x hxm).later hb) key hkey (ho.no_of hxm hc)
    clear hm ho hx hc
    go_enter Try.func49, Try.ntmps49
    go_wp2_with (first | (go_at_call 63; refine HH.out.mono ?_; rintro e w1 ⟨rfl, rfl⟩) | (go_at_call 65; refine HP.out.mono ?_; rintro e w2 ⟨rfl, hb2⟩) | (go_at_call 66; refine (HF.out _ hb2).mono ?_; rintro e w3 ⟨rfl, hb3⟩))
    go_ret2
    exact ⟨rfl, hb2.trans (hb3.mono hb2.size)⟩
  | some v =>
    have hne : M key ≠ none := by rw [hc]; simp
    have HF := Lib.hid fun (W : World) (hb : Below w.heap.size w W) => find_yes ((hm.nd x hxm).later hb) key hkey (ho.yes_of hx hne)
    have HG := Lib.hid fun (W : World) (hb : Below w.heap.size w W) (t : Tb) (ht : t ∈ x.ts) (hk : t.m key ≠ none) => ((ho.some_of hxm ht hk).symm.trans hc) ▸ get_tb W (((hm.nd x hxm).later hb).tab t ht) key hkey
    clear hm ho hx hc hne
    go_enter Try.func49, Try.ntmps49
    go_wp2_with (first | (go_at_call 63; refine HH.out.mono ?_; rintro e w1 ⟨rfl, rfl⟩) | (go_at_call 65; refine HP.out.mono ?_; rintro e w2 ⟨rfl, hb2⟩) | (go_at_call 66; refine (HF.out _ hb2).mono ?_; rintro e w3 ⟨⟨a, t, b, ht, hk, rfl⟩, hb3⟩; have hb4 := hb2.trans (hb3.mono hb2.size); have HT := Lib.hid ht; have HK := Lib.hid hk; clear ht hk) | (go_at_call 22; refine (HG.out _ hb4 t (by rw [HT.out]; simp) HK.out).mono ?_; rintro e w5 ⟨rfl, hb5⟩))
    go_ret2
    exact ⟨rfl, hb4.trans (hb5.mono hb4.size)⟩

set_option maxRecDepth 100000 in
theorem len_d (h : Dct w db seed S M F L) : Calls Try.prog 50 #[.pointer (some ⟨db, 0, none⟩)] w fun e w' => e = .returned (.int .i64 ((allK S.2).length : Nat)) ∧ w = w' := by
  obtain ⟨nds, dr, dc, _, hm, _⟩ := h
  obtain ⟨_, _, _, c3⟩ := hm.cells
  generalize (allK S.2).length = n at *
  clear hm
  go_enter Try.func50, Try.ntmps50
  go_wp2
  go_ret
  exact ⟨rfl, rfl⟩
set_option maxRecDepth 100000 in
theorem depth_d (h : Dct w db seed S M F L) : Calls Try.prog 35 #[.pointer (some ⟨db, 0, none⟩)] w fun e w' => e = .returned (.int .i64 (S.1 : Nat)) ∧ w = w' := by
  obtain ⟨nds, dr, dc, _, hm, _⟩ := h
  obtain ⟨_, c1, _, _⟩ := hm.cells
  generalize S.1 = n at *
  clear hm
  go_enter Try.func35, Try.ntmps35
  go_wp2
  go_ret
  exact ⟨rfl, rfl⟩

set_option maxRecDepth 100000 in
set_option maxHeartbeats 2000000 in
theorem delete_d (h : Dct w db seed S M F L) (key : ByteArray) (hkey : key.size ≤ maxLen) (hL : L ≤ 1000000) :
    Calls Try.prog 47 #[.pointer (some ⟨db, 0, none⟩), .string key] w fun e w' => e = .returned (.bool (M key).isSome) ∧ ∃ F', Dct w' db seed (S.1, delS seed S.2 key) (updM M key none) F' L ∧ Fr w w' F F' := by
  have hS := h.sok
  have hdom := h.dom key
  have hfew := h.few
  obtain ⟨nds, dr, dc, hp, hm, ho⟩ := h
  obtain ⟨c0, _, _, c3⟩ := hm.cells
  obtain ⟨x, hx, _, hxm, _⟩ := ho.node (hN seed key)
  have HP := Lib.hid (place_x hm ho hx)
  have HH := Lib.hid (hash_hk seed key w hkey)
  cases hc : M key with
  | none =>
    have HF := Lib.hid fun (W : World) (hb : Below w.heap.size w W) => find_no ((hm.nd x hxm).later hb) key hkey (ho.no_of hxm hc)
    have hnot : key ∉ allK S.2 := fun e => (hdom.2 e) hc
    have hM : updM M key none = M := by
      funext k; unfold updM; by_cases e : k = key
      · rw [if_pos e, e, hc]
      · rw [if_neg e]
    have HE : Hid (∀ W, Below w.heap.size w W → ∃ F', Dct W db seed (S.1, delS seed S.2 key) (updM M key none) F' L ∧ Fr w W F F') := fun W hb => by
      rw [hM, del_none hS hnot]
      exact ⟨F, ⟨nds, dr, dc, hp, hm.step hb, ho⟩, Fr.of_below hb F⟩
    clear hm ho hx hc hdom hp hM hS hnot
    generalize (allK S.2).length = q at *
    go_enter Try.func47, Try.ntmps47
    go_wp2_with (first | (go_at_call 63; refine HH.out.mono ?_; rintro e w1 ⟨rfl, rfl⟩) | (go_at_call 65; refine HP.out.mono ?_; rintro e w2 ⟨rfl, hb2⟩) | (go_at_call 66; refine (HF.out _ hb2).mono ?_; rintro e w3 ⟨rfl, hb3⟩))
    go_ret
    exact ⟨rfl, HE.out _ (hb2.trans (hb3.mono hb2.size))⟩
  | some v =>
    have hne : M key ≠ none := by rw [hc]; simp
    have HF := Lib.hid fun (W : World) (hb : Below w.heap.size w W) => find_yes ((hm.nd x hxm).later hb) key hkey (ho.yes_of hx hne)
    have hlen := hS.del_len (hdom.1 hne)
    have HD : Hid (∀ W, Below w.heap.size w W → ∀ a t b, x.ts = a ++ t :: b → t.m key ≠ none → ∀ z : Nat, z + 1 = (allK S.2).length →
        Calls Try.prog 18 #[.pointer (some ⟨t.t, 0, none⟩), .string key] (W.setCell ⟨db, 3, none⟩ (.int .i64 (z : Nat))) fun e w' => e = .returned (.bool true) ∧ ∃ F', Dct w' db seed (S.1, delS seed S.2 key) (updM M key none) F' L ∧ Fr w w' F F') := by
      intro W hb a t b ht hk z hz
      have htm : t ∈ x.ts := by rw [ht]; simp
      have h1 := (hm.step hb).setN z
      obtain ⟨v', hv'⟩ := ne_some hk
      refine (delete_tb _ ((h1.nd x hxm).tab t htm) key hkey).mono ?_
      rintro e w' ⟨rfl, hT, hp'⟩
      have hP : Puts (W.setCell ⟨db, 3, none⟩ (.int .i64 (z : Nat))) w' t.t t.g t.g := ⟨.inl rfl, hp'⟩
      obtain ⟨F', h2, h3⟩ := h1.put (t' := ⟨t.t, t.g, updM t.m key none, dropK t.ks key⟩) (p' := ⟨x.p.dep, x.p.bits, dropK x.p.keys key⟩) hx ht (ho.nd x hxm).ap rfl hT hP rfl rfl
      obtain ⟨h4, h5⟩ := ho.del (t' := ⟨t.t, t.g, updM t.m key none, dropK t.ks key⟩) hx ht hk rfl rfl rfl (by
        have hap := (ho.nd x hxm).ap
        rw [ht, List.pairwise_append, List.pairwise_cons] at hap
        intro s hs
        rw [List.mem_append] at hs
        rcases hs with hs | hs
        · exact (hap.2.2 s hs t (by simp)).2
        · exact fun e => (hap.2.1.1 s hs).2 e.symm)
      refine ⟨by rw [hv']; rfl, F', ⟨_, dr, dc, ?_, ?_, h4⟩, ((Fr.of_below hb F).trans (Fr.setCell W _ _ hm.fdb)).trans h3⟩
      · rw [prts_set, ← hp]; exact h5
      · have e : z = (allK (delS seed S.2 key)).length := by omega
        simp only
        rw [← e]; exact h2
    have HC : Hid (∀ W, Below w.heap.size w W → W.cell? ⟨db, 3, none⟩ = some (.int .i64 ((allK S.2).length : Nat))) := fun W hb => (hm.step hb).cells.2.2.2
    have HZ : Hid (∀ W, Below w.heap.size w W → W.frozen? ⟨db, 3, none⟩ = false) := fun W hb => by have := (hm.step hb).blk; unfold World.frozen?; rw [this]; simp
    have hq0 : 0 < (allK S.2).length := List.length_pos_of_mem (hdom.1 hne)
    clear hm ho hx hc hne hdom hp hS hlen
    generalize (allK S.2).length = q at *
    obtain ⟨z, rfl⟩ : ∃ z, q = z + 1 := ⟨q - 1, by omega⟩
    have HW : Hid ((((z + 1 : Nat) : Int) - 1) = (z : Int)) := by unfold Hid; omega
    go_enter Try.func47, Try.ntmps47
    go_wp2_with (first | (go_at_call 63; refine HH.out.mono ?_; rintro e w1 ⟨rfl, rfl⟩) | (go_at_call 65; refine HP.out.mono ?_; rintro e w2 ⟨rfl, hb2⟩) | (go_at_call 66; refine (HF.out _ hb2).mono ?_; rintro e w3 ⟨⟨a, t, b, ht, hk, rfl⟩, hb3⟩; have hb4 := hb2.trans (hb3.mono hb2.size); have HT := Lib.hid ht; have HK := Lib.hid hk; have c3' := HC.out _ hb4; have z3' := HZ.out _ hb4; clear ht hk) | (go_at_call 18; refine (HD.out _ hb4 a t b HT.out HK.out z rfl).mono ?_; rintro e w5 ⟨rfl, hE⟩))
    go_ret
    exact ⟨rfl, hE⟩
end
end Go.Proofs.Ytkkijcnipjojoaa
