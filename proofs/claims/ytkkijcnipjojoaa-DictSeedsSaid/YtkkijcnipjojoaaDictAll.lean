/- Contracts of package dict: Keys, Tables, Bucket, Scan. -/
import Derived.Test.YtkkijcnipjojoaaDictNew
namespace Go.Proofs.Ytkkijcnipjojoaa
open Go.RowKit

section
variable {w : World} {db : Nat} {seed : Int} {S : Nat × List PartR} {F : Nat → Prop} {M : ByteArray → Option Int} {L : Nat}
theorem allK_eq (nds : List Nd) : allK (prts nds) = nds.flatMap fun x => x.p.keys := by unfold allK prts; rw [List.flatMap_map]
theorem upTo_len {α β : Type} {lf : Nat → List α} {g : β → List α} {l : List β} (h : ∀ j x, l[j]? = some x → (lf j).Perm (g x)) (n : Nat) (hn : n ≤ l.length) : (upTo lf n).Perm ((l.take n).flatMap g) := by
  induction n with
  | zero => simp [upTo]
  | succ n ih =>
    obtain ⟨t, ht⟩ : ∃ t, l[n]? = some t := ⟨_, List.getElem?_eq_getElem (by omega)⟩
    unfold upTo
    rw [List.take_add_one, ht]
    simp only [Option.toList_some, List.flatMap_append, List.flatMap_cons, List.flatMap_nil, List.append_nil]
    exact (ih (by omega)).append (h n t ht)
/-- All keys, node by node. -/
theorem nodes_lists {D n dr dc : Nat} {nds : List Nd} (hm : DMem w db seed D n dr dc nds F) (ho : DOk seed D nds M L) (hL : L ≤ 1000000) :
    ∃ lf : Nat → List ByteArray, (upTo lf (nlU nds (2 ^ D)).length).Perm (allK (prts nds)) ∧ (∀ j, j ≤ (nlU nds (2 ^ D)).length → (upTo lf j).length ≤ 1000000) ∧ ∀ j x, (nlU nds (2 ^ D))[j]? = some x →
      ∀ W, Below w.heap.size w W → Calls Try.prog 71 #[.pointer (some ⟨x.b, 0, none⟩)] W fun e w' => ∃ v, e = .returned v ∧ w'.ownsRow W.heap.size 9 1 v (lf j).length ((lf j).map Value.string) ∧ Below W.heap.size W w' := by
  have hperm := ho.nodes_perm
  have hmem : ∀ j x, (nlU nds (2 ^ D))[j]? = some x → x ∈ nds := fun j x hx => hperm.mem_iff.1 (List.mem_of_getElem? hx)
  have hsm : ∀ x ∈ nds, (flatT x.ts).length ≤ 1000000 := by
    intro x hx
    rw [(ho.nd x hx).perm.length_eq]
    have h1 := ho.few
    have h2 : x.p.keys.length ≤ (allK (prts nds)).length := (ho.ok.nodup _ (ho.part hx)).length_le_of_subset fun k hk => by unfold allK; exact List.mem_flatMap.2 ⟨x.p, ho.part hx, hk⟩
    omega
  have hex : ∀ j : Nat, ∃ l : List ByteArray, ∀ x : Nd, (nlU nds (2 ^ D))[j]? = some x → l.Perm x.p.keys ∧ ∀ W, Below w.heap.size w W → Calls Try.prog 71 #[.pointer (some ⟨x.b, 0, none⟩)] W fun e w' => ∃ v, e = .returned v ∧ w'.ownsRow W.heap.size 9 1 v l.length (l.map Value.string) ∧ Below W.heap.size W w' := by
    intro j
    cases hj : (nlU nds (2 ^ D))[j]? with
    | none => exact ⟨[], fun t ht => by cases ht⟩
    | some x =>
      have hx := hmem j x hj
      obtain ⟨l, h1, h2⟩ := keys_nd (hm.nd x hx) (ho.nd x hx).card (hsm x hx)
      exact ⟨l, fun x' hx' => by simp only [Option.some.injEq] at hx'; subst hx'; exact ⟨h1.trans (ho.nd x hx).perm, h2⟩⟩
  obtain ⟨lf, hlf⟩ := Classical.axiomOfChoice hex
  have hp : ∀ n, n ≤ (nlU nds (2 ^ D)).length → (upTo lf n).Perm (((nlU nds (2 ^ D)).take n).flatMap fun x => x.p.keys) := upTo_len fun j x hx => (hlf j x hx).1
  have hall : ((nlU nds (2 ^ D)).flatMap fun x => x.p.keys).Perm (allK (prts nds)) := by rw [allK_eq]; exact hperm.flatMap_right _
  refine ⟨lf, ?_, ?_, fun j x hx => (hlf j x hx).2⟩
  · have := hp _ (Nat.le_refl _)
    rw [List.take_of_length_le (Nat.le_refl _)] at this
    exact this.trans hall
  · intro j hj
    rw [(hp j hj).length_eq]
    have h1 := hall.length_eq
    conv at h1 => lhs; rw [← List.take_append_drop j (nlU nds (2 ^ D))]
    rw [List.flatMap_append, List.length_append] at h1
    have := ho.few
    omega
theorem node_ptr {W : World} {B N : Nat} {v : Value} {l : List Nd} (h : W.ownsRow B 93 1 v N (l.map ndV)) : ∃ a c, v = .slice a N c ∧ ∀ W', Below W.heap.size W W' → ∀ j x, l[j]? = some x → ∃ g, a = some ⟨g, 0, none⟩ ∧ W'.cell? ⟨g, j, none⟩ = some (.pointer (some ⟨x.b, 0, none⟩)) := by
  have hl := h.1
  rcases id h.2 with ⟨rfl, rfl⟩ | ⟨g, cap, cur, rfl, _⟩
  · refine ⟨none, 0, rfl, fun W' hW j x hx => ?_⟩
    have : l = [] := List.length_eq_zero_iff.1 (by simpa using hl)
    subst this
    simp at hx
  · refine ⟨_, cap, rfl, fun W' hW j x hx => ⟨g, rfl, ?_⟩⟩
    have hj := (List.getElem?_eq_some_iff.1 hx).1
    simp only [List.length_map] at hl
    rw [(owns_later h hW).cellAt j (by omega), List.getElem?_map, hx]
    rfl

set_option maxRecDepth 100000 in
set_option maxHeartbeats 1000000 in
theorem keys_dd (h : Dct w db seed S M F L) (hL : L ≤ 1000000) :
    Calls Try.prog 42 #[.pointer (some ⟨db, 0, none⟩)] w fun e w' => ∃ v l, e = .returned v ∧ w'.ownsRow w.heap.size 9 1 v l.length (l.map Value.string) ∧ List.Perm l (allK S.2) ∧ Below w.heap.size w w' := by
  obtain ⟨nds, dr, dc, hp, hm, ho⟩ := h
  obtain ⟨lf, h1, h2, h3⟩ := nodes_lists hm ho hL
  have HN := Lib.hid (nodes_d hm ho)
  rw [hp] at h1
  have HP := Lib.hid h1
  have HS := Lib.hid h2
  have HK := Lib.hid h3
  have hlen := nlU_len nds (2 ^ S.1)
  have hpw := pow16 ho.ok.dmax
  obtain ⟨iS, hiS, zS0, zS1, zS2⟩ := info_parts info_str
  clear h1 h2 h3 hm ho hp
  generalize nlU nds (2 ^ S.1) = nl at *
  generalize hn : nl.length = n at *
  have HE := Lib.hid hn
  clear hn
  go_enter Try.func42, Try.ntmps42
  go_wp2_with (go_at_call 75; refine HN.out.mono ?_; rintro e w1 ⟨v, rfl, o1, hb1⟩; obtain ⟨al, cl, rfl, hcl⟩ := node_ptr o1)
  have HC := Lib.hid hcl
  have HB1 := Lib.hid hb1
  have hs1 := hb1.size
  clear hcl o1 hb1
  go_loopw [3, 9] (fun v i wr => ∃ j : Nat, j ≤ n ∧ i = .int .i64 j ∧ wr.ownsRow w1.heap.size 9 1 v (upTo lf j).length ((upTo lf j).map Value.string) ∧ Below w1.heap.size w1 wr) (fun _ i _ => n - (intOf i).toNat)
  case atStart => exact ⟨0, by omega, rfl, World.ownsRow_nil _ _ _ _, Below.refl _ _⟩
  case round =>
    obtain ⟨j, hj, rfl, ho, hb⟩ := hrel
    by_cases hlt : j < n
    · obtain ⟨x, hx⟩ : ∃ x, nl[j]? = some x := ⟨_, List.getElem?_eq_getElem (by rw [HE.out]; exact hlt)⟩
      obtain ⟨g, rfl, hc⟩ := HC.out wr hb j x hx
      have hb0 : Below w.heap.size w wr := HB1.out.trans (hb.mono HB1.out.size)
      have HT := Lib.hid (HK.out j x hx wr hb0)
      have hsz := hb0.size
      have hsz1 := hb.size
      have hs1' := HS.out (j + 1) hlt
      have hs2 : (upTo lf j).length + (lf j).length = (upTo lf (j + 1)).length := by simp [upTo]
      obtain ⟨q, hq⟩ : ∃ q, q = (upTo lf (j + 1)).length := ⟨_, rfl⟩
      rw [← hq] at hs1' hs2
      have HB0 := Lib.hid hb0
      clear hx hq hb0
      go_wp2_with (first | (go_at_call 71; refine HT.out.mono ?_; rintro e w3 ⟨v2, rfl, o2, hb3⟩; have hsz3 := hb3.size) | (at_builtin; refine wpList_append_two _ rfl (.tmp 13) (.tmp 15) 39 rfl w1.heap.size 9 iS (.string ByteArray.empty) 16 Try.underlying39 hiS zS0 zS1 zS2 rfl _ _ _ rfl (owns_later ho hb3) _ _ _ _ rfl o2 (strs_one _) (by unfold maxLen; omega) (by omega) (by omega) ?_; intro v' w' o3 b3))
      go_roundw
      case rel =>
        refine ⟨j + 1, hlt, by go_num, ?_, ?_⟩
        · have e1 : (upTo lf (j + 1)).length = (upTo lf j).length + (lf j).length := by simp [upTo]
          have e2 : (upTo lf (j + 1)).map Value.string = (upTo lf j).map Value.string ++ (lf j).map Value.string := by simp [upTo]
          rw [e1, e2]
          exact o3
        · exact hb.trans ((hb3.mono hsz1).trans b3)
      case measure => simp [intOf]; omega
    · obtain rfl : j = n := by omega
      go_wp2
      go_ret
      exact ⟨_, _, rfl, owns_base ho HB1.out.size, HP.out, HB1.out.trans (hb.mono HB1.out.size)⟩

set_option maxRecDepth 100000 in
theorem tables_d (h : Dct w db seed S M F L) : Calls Try.prog 51 #[.pointer (some ⟨db, 0, none⟩)] w fun e w' => e = .returned (.int .i64 (S.2.length : Nat)) ∧ Below w.heap.size w w' := by
  obtain ⟨nds, dr, dc, hp, hm, ho⟩ := h
  have HN := Lib.hid (nodes_d hm ho)
  have hlen : (nlU nds (2 ^ S.1)).length = S.2.length := by
    rw [ho.nodes_perm.length_eq, ← hp]; simp [prts]
  have HL := Lib.hid hlen
  clear hm ho hlen
  go_enter Try.func51, Try.ntmps51
  go_wp2_with (go_at_call 75; refine HN.out.mono ?_; rintro e w1 ⟨v, rfl, o1, hb1⟩; obtain ⟨al, cl, rfl⟩ := owns_slice o1; rw [HL.out])
  go_ret
  exact ⟨rfl, hb1⟩
end
end Go.Proofs.Ytkkijcnipjojoaa
