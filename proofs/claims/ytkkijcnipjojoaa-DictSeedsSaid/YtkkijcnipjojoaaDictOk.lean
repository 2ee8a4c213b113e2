/- What holds of a dict's nodes and their tables, in plain lists. -/
import Derived.Test.YtkkijcnipjojoaaDictMem
import Derived.Test.YtkkijcnipjojoaaSplits8
namespace Go.Proofs.Ytkkijcnipjojoaa
open Go.RowKit

abbrev flatT (ts : List Tb) : List ByteArray := ts.flatMap (·.ks)
/-- What holds of one node. -/
structure NdOk (M : ByteArray → Option Int) (x : Nd) : Prop where
  card : ∀ t ∈ x.ts, Card t.m t.ks
  few : ∀ t ∈ x.ts, t.ks.length ≤ 112
  sub : ∀ t ∈ x.ts, ∀ k v, t.m k = some v → M k = some v
  perm : (flatT x.ts).Perm x.p.keys
  one : x.p.dep < 16 → x.ts.length = 1
  pos : 0 < x.ts.length
  ap : x.ts.Pairwise fun t s => t.t ≠ s.t ∧ t.g ≠ s.g
/-- What holds of all nodes. -/
structure DOk (seed : Int) (D : Nat) (nds : List Nd) (M : ByteArray → Option Int) (L : Nat) : Prop where
  ok : SOk seed D (prts nds)
  nd : ∀ x ∈ nds, NdOk M x
  dom : ∀ k, M k ≠ none ↔ k ∈ allK (prts nds)
  few : (allK (prts nds)).length ≤ L
  tabs : ∀ x ∈ nds, x.ts.length ≤ L + 1
theorem flat_mid (a b : List Tb) (t : Tb) : flatT (a ++ t :: b) = flatT a ++ (t.ks ++ flatT b) := by simp [flatT]
theorem ne_some {α : Type} {o : Option α} (h : o ≠ none) : ∃ v, o = some v := by cases o with | none => exact absurd rfl h | some v => exact ⟨v, rfl⟩

section
variable {M : ByteArray → Option Int} {x : Nd} {a b : List Tb} {t : Tb} {key : ByteArray}
theorem NdOk.only (h : NdOk M x) (hn : x.p.keys.Nodup) (hx : x.ts = a ++ t :: b) (hk : t.m key ≠ none) : ∀ s ∈ a ++ b, s.m key = none := by
  intro s hs
  have hd := h.perm.nodup_iff.2 hn
  rw [hx, flat_mid, List.nodup_append, List.nodup_append] at hd
  have htk : key ∈ t.ks := ((h.card t (by rw [hx]; simp)).2 key).2 hk
  have hsx : s ∈ x.ts := by rw [hx]; rw [List.mem_append] at hs ⊢; rcases hs with hs | hs; exact .inl hs; exact .inr (List.mem_cons_of_mem _ hs)
  cases hc : s.m key with
  | none => rfl
  | some v =>
    have hsk : key ∈ s.ks := ((h.card s hsx).2 key).2 (by rw [hc]; simp)
    rw [List.mem_append] at hs
    rcases hs with hs | hs
    · exact absurd rfl (hd.2.2 key (List.mem_flatMap.2 ⟨s, hs, hsk⟩) key (List.mem_append.2 (.inl htk)))
    · exact absurd rfl (hd.2.1.2.2 key htk key (List.mem_flatMap.2 ⟨s, hs, hsk⟩))
theorem NdOk.in_iff (h : NdOk M x) : key ∈ x.p.keys ↔ ∃ t ∈ x.ts, t.m key ≠ none := by
  rw [← h.perm.mem_iff, List.mem_flatMap]
  constructor
  · rintro ⟨t, ht, hk⟩; exact ⟨t, ht, ((h.card t ht).2 key).1 hk⟩
  · rintro ⟨t, ht, hk⟩; exact ⟨t, ht, ((h.card t ht).2 key).2 hk⟩
/-- A node's tables with one changed. -/
theorem NdOk.retab {M' : ByteArray → Option Int} {t' : Tb} {r c : Nat} {p' : PartR} (h : NdOk M x) (hx : x.ts = a ++ t :: b) (hd : p'.dep = x.p.dep) (ht : t'.t = t.t) (hg : ∀ s ∈ a ++ b, s.g ≠ t'.g) (hC : Card t'.m t'.ks) (hf : t'.ks.length ≤ 112)
    (hs : ∀ k v, t'.m k = some v → M' k = some v) (ho : ∀ s ∈ a ++ b, ∀ k v, s.m k = some v → M k = some v → M' k = some v) (hp : (flatT (a ++ t' :: b)).Perm p'.keys) : NdOk M' ⟨x.b, r, c, p', a ++ t' :: b⟩ := by
  have hin : ∀ s, s ∈ a ++ b → s ∈ x.ts := by
    intro s hs; rw [hx]; rw [List.mem_append] at hs ⊢; rcases hs with hs | hs
    · exact .inl hs
    · exact .inr (List.mem_cons_of_mem _ hs)
  have hmem : ∀ s, s ∈ a ++ t' :: b → s = t' ∨ s ∈ a ++ b := by
    intro s hs; rw [List.mem_append, List.mem_cons] at hs; rw [List.mem_append]; rcases hs with hs | hs | hs
    · exact .inr (.inl hs)
    · exact .inl hs
    · exact .inr (.inr hs)
  have hlen : (a ++ t' :: b).length = x.ts.length := by rw [hx]; simp
  refine ⟨?_, ?_, ?_, hp, fun e => hlen.trans (h.one (by simp only at e; omega)), by simp only; rw [hlen]; exact h.pos, ?_⟩
  · intro s hsm; rcases hmem s hsm with rfl | q
    · exact hC
    · exact h.card s (hin s q)
  · intro s hsm; rcases hmem s hsm with rfl | q
    · exact hf
    · exact h.few s (hin s q)
  · intro s hsm; rcases hmem s hsm with rfl | q
    · exact hs
    · exact fun k v hk => ho s q k v hk (h.sub s (hin s q) k v hk)
  · have hap := h.ap
    rw [hx] at hap
    simp only [List.pairwise_append, List.pairwise_cons, List.mem_cons, forall_eq_or_imp] at hap ⊢
    obtain ⟨h1, ⟨h2, h3⟩, h4⟩ := hap
    refine ⟨h1, ⟨fun s hs => ?_, h3⟩, fun s hs => ⟨?_, (h4 s hs).2⟩⟩
    · rw [ht]; exact ⟨(h2 s hs).1, fun e => hg s (List.mem_append.2 (.inr hs)) e.symm⟩
    · rw [ht]; exact ⟨(h4 s hs).1.1, hg s (List.mem_append.2 (.inl hs))⟩
end

section
variable {seed : Int} {D : Nat} {nds : List Nd} {M : ByteArray → Option Int} {L : Nat} {key : ByteArray} {x : Nd} {a b : List Tb} {t t' : Tb}
theorem prts_at {i : Nat} {p : PartR} (h : (prts nds)[i]? = some p) : ∃ x, nds[i]? = some x ∧ x.p = p ∧ x ∈ nds := by
  unfold prts at h
  rw [List.getElem?_map] at h
  cases hx : nds[i]? with
  | none => rw [hx] at h; cases h
  | some x => rw [hx] at h; simp only [Option.map_some, Option.some.injEq] at h; exact ⟨x, rfl, h, List.mem_of_getElem? hx⟩
/-- A hash's node. -/
theorem DOk.node (h : DOk seed D nds M L) (n : Nat) : ∃ x, nds[pix (prts nds) n]? = some x ∧ n % 2 ^ x.p.dep = x.p.bits ∧ x ∈ nds ∧ nodeOf nds n = x.b := by
  obtain ⟨p, hp, hx, _⟩ := h.ok.pix_at n
  obtain ⟨x, h1, rfl, h2⟩ := prts_at hp
  refine ⟨x, h1, hx, h2, ?_⟩
  unfold nodeOf; rw [h1]
theorem DOk.part (_ : DOk seed D nds M L) (hx : x ∈ nds) : x.p ∈ prts nds := List.mem_map.2 ⟨x, hx, rfl⟩
theorem DOk.none_of (h : DOk seed D nds M L) (hi : nds[pix (prts nds) (hN seed key)]? = some x) (hf : ∀ t ∈ x.ts, t.m key = none) : M key = none := by
  cases hc : M key with
  | none => rfl
  | some v =>
    have h1 := (h.dom key).1 (by rw [hc]; simp)
    rw [h.ok.key_at (prts_get hi), (h.nd x (List.mem_of_getElem? hi)).in_iff] at h1
    obtain ⟨t, ht, hk⟩ := h1
    exact absurd (hf t ht) hk
theorem DOk.some_of (h : DOk seed D nds M L) (hxm : x ∈ nds) (ht : t ∈ x.ts) (hk : t.m key ≠ none) : M key = t.m key := by
  obtain ⟨v, hv⟩ := ne_some hk
  rw [hv]; exact (h.nd x hxm).sub t ht key v hv
theorem DOk.elsewhere (h : DOk seed D nds M L) {j : Nat} {y : Nd} (hj : nds[j]? = some y) (hne : j ≠ pix (prts nds) (hN seed key)) {s : Tb} (hs : s ∈ y.ts) : s.m key = none := by
  cases hc : s.m key with
  | none => rfl
  | some v =>
    have hy := List.mem_of_getElem? hj
    have hk : key ∈ y.p.keys := (h.nd y hy).in_iff.2 ⟨s, hs, by rw [hc]; simp⟩
    exact absurd (h.ok.pix_eq (prts_get hj) (h.ok.keys _ (h.part hy) key hk)) hne
theorem upd_old {m : ByteArray → Option Int} {k key : ByteArray} {u : Int} {o : Option Int} (h : m k = some u) (hne : k ≠ key) : updM m key o k = some u := by unfold updM; rw [if_neg hne]; exact h
theorem upd_sub {m M : ByteArray → Option Int} {key : ByteArray} {o : Option Int} (h : ∀ k v, m k = some v → M k = some v) : ∀ k v, updM m key o k = some v → updM M key o k = some v := by
  intro k v; unfold updM
  by_cases c : k = key
  · rw [if_pos c, if_pos c]; exact id
  · rw [if_neg c, if_neg c]; exact h k v

/-- A node's tables are changed: all that is asked of the whole. -/
theorem DOk.renode {i L' : Nat} {M' : ByteArray → Option Int} {x' : Nd} (h : DOk seed D nds M L) (hok : SOk seed D ((prts nds).set i x'.p)) (hx' : NdOk M' x') (ho : ∀ j y, nds[j]? = some y → j ≠ i → ∀ s ∈ y.ts, ∀ k v, s.m k = some v → M k = some v → M' k = some v)
    (hdom : ∀ k, M' k ≠ none ↔ k ∈ allK ((prts nds).set i x'.p)) (hf : (allK ((prts nds).set i x'.p)).length ≤ L') (hL : L ≤ L') (ht : x'.ts.length ≤ L' + 1) : DOk seed D (nds.set i x') M' L' := by
  have hp := prts_set (nds := nds) i x'
  refine ⟨by rw [hp]; exact hok, ?_, by rw [hp]; exact hdom, by rw [hp]; exact hf, ?_⟩
  · intro y hy
    obtain ⟨j, hj⟩ := List.mem_iff_getElem?.1 hy
    rcases set_get hj with ⟨_, rfl, _⟩ | ⟨c, hj⟩
    · exact hx'
    · have q := h.nd y (List.mem_of_getElem? hj)
      exact ⟨q.card, q.few, fun s hs k v hk => ho j y hj c s hs k v hk (q.sub s hs k v hk), q.perm, q.one, q.pos, q.ap⟩
  · intro y hy
    obtain ⟨j, hj⟩ := List.mem_iff_getElem?.1 hy
    rcases set_get hj with ⟨_, rfl, _⟩ | ⟨c, hj⟩
    · exact ht
    · have := h.tabs y (List.mem_of_getElem? hj); omega
theorem set_self {α : Type} {l : List α} {i : Nat} {x : α} (h : l[i]? = some x) : l.set i x = l := by
  apply List.ext_getElem?
  intro j
  by_cases c : j = i
  · subst c; rw [set_here (List.getElem?_eq_some_iff.1 h).1, h]
  · rw [set_else c]

/-- A key that is there has something else. -/
theorem DOk.set (h : DOk seed D nds M L) (hi : nds[pix (prts nds) (hN seed key)]? = some x) (hx : x.ts = a ++ t :: b) (hk : t.m key ≠ none) (v : Int) (ht : t'.t = t.t) (hm : t'.m = updM t.m key (some v)) (hks : t'.ks = t.ks) (hg : ∀ s ∈ a ++ b, s.g ≠ t'.g) :
    DOk seed D (nds.set (pix (prts nds) (hN seed key)) ⟨x.b, x.r, x.c, x.p, a ++ t' :: b⟩) (updM M key (some v)) L := by
  have hxm := List.mem_of_getElem? hi
  have hN := h.nd x hxm
  have htm : t ∈ x.ts := by rw [hx]; simp
  have hset := set_self (prts_get hi)
  have hMk : M key ≠ none := by rw [h.some_of hxm htm hk]; exact hk
  refine h.renode (by rw [hset]; exact h.ok) (hN.retab hx rfl ht hg (by rw [hm, hks]; exact (hN.card t htm).same hk v) (by rw [hks]; exact hN.few t htm) (by rw [hm]; exact upd_sub (hN.sub t htm)) ?_ ?_) ?_ ?_ (by rw [hset]; exact h.few) (Nat.le_refl _) ?_
  · intro s hs k u hsk hMk
    exact upd_old hMk (by rintro rfl; rw [hN.only (h.ok.nodup _ (h.part hxm)) hx hk s hs] at hsk; cases hsk)
  · rw [flat_mid, hks, ← flat_mid, ← hx]; exact hN.perm
  · intro j y hj hne s hs k u hsk hMk
    exact upd_old hMk (by rintro rfl; rw [h.elsewhere hj hne hs] at hsk; cases hsk)
  · intro k
    rw [hset, ← h.dom k]
    unfold updM
    by_cases c : k = key
    · subst c; simp [hMk]
    · rw [if_neg c]
  · have := h.tabs x hxm; rw [hx] at this; simpa using this

/-- A key is added. -/
theorem DOk.add (h : DOk seed D nds M L) (hi : nds[pix (prts nds) (hN seed key)]? = some x) (hx : x.ts = a ++ t :: b) (hk : M key = none) (hr : t.ks.length < 112) (hsz : key.size ≤ 20) (v : Int) (ht : t'.t = t.t) (hm : t'.m = updM t.m key (some v)) (hks : t'.ks = t.ks ++ [key])
    (hg : ∀ s ∈ a ++ b, s.g ≠ t'.g) : DOk seed D (nds.set (pix (prts nds) (hN seed key)) ⟨x.b, x.r, x.c, ⟨x.p.dep, x.p.bits, x.p.keys ++ [key]⟩, a ++ t' :: b⟩) (updM M key (some v)) (L + 1) := by
  have hxm := List.mem_of_getElem? hi
  have hNd := h.nd x hxm
  have htm : t ∈ x.ts := by rw [hx]; simp
  have hnone : ∀ s ∈ x.ts, s.m key = none := by
    intro s hs
    cases hc : s.m key with
    | none => rfl
    | some u => rw [hNd.sub s hs key u hc] at hk; cases hk
  have hnk : key ∉ x.p.keys := fun e => by obtain ⟨s, hs, q⟩ := hNd.in_iff.1 e; exact q (hnone s hs)
  have hfull : x.p.keys.length < 112 ∨ 16 ≤ x.p.dep := by
    by_cases c : x.p.dep < 16
    · left
      have h1 := hNd.one c
      have h2 := hNd.perm.length_eq
      rw [hx] at h1
      simp only [List.length_append, List.length_cons] at h1
      obtain rfl : a = [] := List.length_eq_zero_iff.1 (by omega)
      obtain rfl : b = [] := List.length_eq_zero_iff.1 (by omega)
      rw [hx] at h2
      simp [flatT] at h2
      omega
    · exact .inr (by omega)
  obtain ⟨hS, hmem⟩ := h.ok.add (prts_get hi) hfull hnk hsz
  have hin : ∀ s, s ∈ a ++ b → s ∈ x.ts := by
    intro s hs; rw [hx]; rw [List.mem_append] at hs ⊢; rcases hs with hs | hs
    · exact .inl hs
    · exact .inr (List.mem_cons_of_mem _ hs)
  have hold : ∀ k u, M k = some u → updM M key (some v) k = some u := fun k u hu => upd_old hu (by rintro rfl; rw [hk] at hu; cases hu)
  refine h.renode hS (hNd.retab hx rfl ht hg (by rw [hm, hks]; exact (hNd.card t htm).snoc (hnone t htm) v) (by rw [hks]; simp; omega) (by rw [hm]; exact upd_sub (hNd.sub t htm)) (fun s hs k u _ => hold k u) ?_) (fun j y hj hne s hs k u _ => hold k u) ?_ ?_ (by omega) ?_
  · rw [flat_mid, hks]
    have hp := hNd.perm
    rw [hx, flat_mid] at hp
    refine List.Perm.trans ?_ (hp.append_right [key])
    rw [List.append_assoc, List.append_assoc]
    refine List.Perm.append_left _ ?_
    rw [List.append_assoc]
    exact List.Perm.append_left _ List.perm_append_comm
  · intro k
    rw [hmem k, ← h.dom k]
    unfold updM
    by_cases c : k = key
    · subst c; simp
    · rw [if_neg c]; simp [c]
  · have hn := hS.allK_nodup
    have : (allK ((prts nds).set (pix (prts nds) (hN seed key)) ⟨x.p.dep, x.p.bits, x.p.keys ++ [key]⟩)).length ≤ (allK (prts nds) ++ [key]).length :=
      hn.length_le_of_subset fun k hk' => by rw [hmem k] at hk'; rw [List.mem_append, List.mem_singleton]; exact hk'
    simp only [List.length_append, List.length_singleton] at this
    have := h.few
    simp only
    omega
  · have := h.tabs x hxm; rw [hx] at this; simp at this ⊢; omega

/-- .. and there is one key more. -/
theorem SOk.add_len {ps : List PartR} (h : SOk seed D ps) {p : PartR} (hp : ps[pix ps (hN seed key)]? = some p) (hf : p.keys.length < 112 ∨ 16 ≤ p.dep) (hk : key ∉ allK ps) (hs : key.size ≤ 20) :
    (allK (ps.set (pix ps (hN seed key)) ⟨p.dep, p.bits, p.keys ++ [key]⟩)).length = (allK ps).length + 1 := by
  have hk' : key ∉ p.keys := fun e => hk ((h.key_at hp).2 e)
  obtain ⟨hS, hmem⟩ := h.add hp hf hk' hs
  have hp' : (allK (ps.set (pix ps (hN seed key)) ⟨p.dep, p.bits, p.keys ++ [key]⟩)).Perm (allK ps ++ [key]) := by
    rw [List.perm_ext_iff_of_nodup hS.allK_nodup]
    · intro k; rw [hmem k, List.mem_append, List.mem_singleton]
    · exact List.nodup_append.2 ⟨h.allK_nodup, by simp, fun a ha b hb => by rw [List.mem_singleton] at hb; subst hb; rintro rfl; exact hk ha⟩
  rw [hp'.length_eq]; simp
theorem SOk.del_len {ps : List PartR} (h : SOk seed D ps) (hk : key ∈ allK ps) : (allK (delS seed ps key)).length + 1 = (allK ps).length := by
  obtain ⟨hS, hmem⟩ := h.del key
  have hp' : (key :: allK (delS seed ps key)).Perm (allK ps) := by
    rw [List.perm_ext_iff_of_nodup _ h.allK_nodup]
    · intro k; rw [List.mem_cons, hmem k]
      constructor
      · rintro (rfl | e)
        · exact hk
        · exact e.1
      · intro e
        by_cases c : k = key
        · exact .inl c
        · exact .inr ⟨e, c⟩
    · exact List.nodup_cons.2 ⟨fun e => ((hmem key).1 e).2 rfl, hS.allK_nodup⟩
  rw [← hp'.length_eq]; simp
theorem del_none {ps : List PartR} (h : SOk seed D ps) (hk : key ∉ allK ps) : delS seed ps key = ps := by
  obtain ⟨p, hp, _⟩ := h.pix_at (hN seed key)
  rw [delS_eq hp, dropK_none (fun e => hk ((h.key_at hp).2 e))]
  exact set_self hp

/-- A key is taken away. -/
theorem DOk.del (h : DOk seed D nds M L) (hi : nds[pix (prts nds) (hN seed key)]? = some x) (hx : x.ts = a ++ t :: b) (hk : t.m key ≠ none) (ht : t'.t = t.t) (hm : t'.m = updM t.m key none) (hks : t'.ks = dropK t.ks key) (hg : ∀ s ∈ a ++ b, s.g ≠ t'.g) :
    DOk seed D (nds.set (pix (prts nds) (hN seed key)) ⟨x.b, x.r, x.c, ⟨x.p.dep, x.p.bits, dropK x.p.keys key⟩, a ++ t' :: b⟩) (updM M key none) L ∧ (prts nds).set (pix (prts nds) (hN seed key)) ⟨x.p.dep, x.p.bits, dropK x.p.keys key⟩ = delS seed (prts nds) key := by
  have hxm := List.mem_of_getElem? hi
  have hNd := h.nd x hxm
  have htm : t ∈ x.ts := by rw [hx]; simp
  have he := (delS_eq (prts_get hi)).symm
  obtain ⟨hS, hmem⟩ := h.ok.del key
  have honly := hNd.only (h.ok.nodup _ (h.part hxm)) hx hk
  refine ⟨h.renode (by rw [he]; exact hS) (hNd.retab hx rfl ht hg (by rw [hm, hks]; exact filter_card (hNd.card t htm) key) (by rw [hks]; exact Nat.le_trans (List.length_filter_le _ _) (hNd.few t htm)) (by rw [hm]; exact upd_sub (hNd.sub t htm)) ?_ ?_) ?_ ?_ ?_ (Nat.le_refl _) ?_, he⟩
  · intro s hs k u hsk hMk
    exact upd_old hMk (by rintro rfl; rw [honly s hs] at hsk; cases hsk)
  · rw [flat_mid, hks]
    have hp := hNd.perm.filter (fun k => decide (k ≠ key))
    rw [hx, flat_mid, List.filter_append, List.filter_append] at hp
    have nk : ∀ s ∈ a ++ b, ∀ k ∈ s.ks, k ≠ key := by
      rintro s hs k hq rfl
      have hsx : s ∈ x.ts := by rw [hx]; rw [List.mem_append] at hs ⊢; rcases hs with hs | hs; exact .inl hs; exact .inr (List.mem_cons_of_mem _ hs)
      exact ((hNd.card s hsx).2 k).1 hq (honly s hs)
    have ea : (flatT a).filter (fun k => decide (k ≠ key)) = flatT a := by
      rw [List.filter_eq_self]; intro k hk'
      obtain ⟨s, hs, hks'⟩ := List.mem_flatMap.1 hk'
      simpa using nk s (List.mem_append.2 (.inl hs)) k hks'
    have eb : (flatT b).filter (fun k => decide (k ≠ key)) = flatT b := by
      rw [List.filter_eq_self]; intro k hk'
      obtain ⟨s, hs, hks'⟩ := List.mem_flatMap.1 hk'
      simpa using nk s (List.mem_append.2 (.inr hs)) k hks'
    rw [ea, eb] at hp
    exact hp
  · intro j y hj hne s hs k u hsk hMk
    exact upd_old hMk (by rintro rfl; rw [h.elsewhere hj hne hs] at hsk; cases hsk)
  · intro k
    simp only
    rw [he, hmem k, ← h.dom k]
    unfold updM
    by_cases c : k = key
    · subst c; simp
    · rw [if_neg c]; simp [c]
  · simp only
    rw [he]
    have := h.ok.del_len ((h.dom key).1 (by rw [h.some_of hxm htm hk]; exact hk))
    have := h.few
    omega
  · have := h.tabs x hxm; rw [hx] at this; simpa using this

/-- A table more in a node of the greatest depth. -/
theorem DOk.more (h : DOk seed D nds M L) {i r c : Nat} (hi : nds[i]? = some x) (hd : 16 ≤ x.p.dep) (hm : t.m = fun _ => none) (hks : t.ks = []) (hap : ∀ s ∈ x.ts, s.t ≠ t.t ∧ s.g ≠ t.g) : DOk seed D (nds.set i ⟨x.b, r, c, x.p, x.ts ++ [t]⟩) M (L + 1) := by
  have hxm := List.mem_of_getElem? hi
  have hNd := h.nd x hxm
  have hset := set_self (prts_get hi)
  have hmem : ∀ s, s ∈ x.ts ++ [t] → s ∈ x.ts ∨ s = t := fun s hs => by rw [List.mem_append, List.mem_singleton] at hs; exact hs
  refine h.renode (by rw [hset]; exact h.ok) ⟨?_, ?_, ?_, ?_, fun e => ?_, by simp, ?_⟩ (fun j y hj hne s hs k u _ hu => hu) (by rw [hset]; exact h.dom) (by rw [hset]; have := h.few; omega) (by omega) (by have := h.tabs x hxm; simp; omega)
  · intro s hs; rcases hmem s hs with q | rfl
    · exact hNd.card s q
    · rw [hm, hks]; exact Card.nil
  · intro s hs; rcases hmem s hs with q | rfl
    · exact hNd.few s q
    · rw [hks]; simp
  · intro s hs k u hk; rcases hmem s hs with q | rfl
    · exact hNd.sub s q k u hk
    · rw [hm] at hk; cases hk
  · have : flatT (x.ts ++ [t]) = flatT x.ts := by simp [flatT, hks]
    simp only; rw [this]; exact hNd.perm
  · simp only at e; omega
  · simp only [List.pairwise_append, List.pairwise_cons, List.mem_singleton, forall_eq]
    exact ⟨hNd.ap, ⟨by simp, List.Pairwise.nil⟩, hap⟩

theorem side_hN (seed : Int) (k : ByteArray) (d : Nat) (hd : d < 64) : sideI (hk seed k) d = ((hN seed k / 2 ^ d % 2 : Nat) : Int) := by
  unfold sideI
  rw [if_pos (by omega), hN_int]
  simp
/-- A node of one table is split. -/
theorem DOk.split (h : DOk seed D nds M L) {i ba ra ca bb rb cb : Nat} {ta tc : Tb} (hi : nds[i]? = some x) (hd : x.p.dep < 16) (hx : x.ts = [t]) (hma : ta.m = fun k => if sideI (hk seed k) x.p.dep = 0 then t.m k else none)
    (hmc : tc.m = fun k => if sideI (hk seed k) x.p.dep = 1 then t.m k else none) (hka : ta.ks = t.ks.filter fun k => decide (sideI (hk seed k) x.p.dep = 0)) (hkc : tc.ks = t.ks.filter fun k => decide (sideI (hk seed k) x.p.dep = 1)) :
    DOk seed (max D (x.p.dep + 1)) (nds.set i ⟨ba, ra, ca, spA seed x.p, [ta]⟩ ++ [⟨bb, rb, cb, spB seed x.p, [tc]⟩]) M L ∧
      prts (nds.set i ⟨ba, ra, ca, spA seed x.p, [ta]⟩ ++ [⟨bb, rb, cb, spB seed x.p, [tc]⟩]) = spS seed (prts nds) i x.p := by
  have hxm := List.mem_of_getElem? hi
  have hNd := h.nd x hxm
  have htm : t ∈ x.ts := by rw [hx]; simp
  have hC := hNd.card t htm
  have hsd := fun k => side_hN seed k x.p.dep (by omega)
  have he : prts (nds.set i ⟨ba, ra, ca, spA seed x.p, [ta]⟩ ++ [⟨bb, rb, cb, spB seed x.p, [tc]⟩]) = spS seed (prts nds) i x.p := by
    unfold spS; simp [prts]
  have hp : t.ks.Perm x.p.keys := by have := hNd.perm; rw [hx] at this; simpa [flatT] using this
  have fa : ∀ (s : Nat), (t.ks.filter fun k => decide (sideI (hk seed k) x.p.dep = (s : Int))).Perm (halfK seed x.p.dep s x.p.keys) := by
    intro s
    unfold halfK
    have : (fun k => decide (hN seed k / 2 ^ x.p.dep % 2 = s)) = fun k => decide (sideI (hk seed k) x.p.dep = (s : Int)) := by
      funext k; rw [hsd k]
      exact decide_eq_decide.2 ⟨fun e => by rw [e], fun e => Int.ofNat_inj.1 e⟩
    rw [this]
    exact hp.filter _
  refine ⟨⟨by rw [he]; exact h.ok.split (prts_get hi) hd, ?_, by rw [he]; exact fun k => (h.dom k).trans (h.ok.split_all (prts_get hi) k).symm, ?_, ?_⟩, he⟩
  · intro y hy
    rw [List.mem_append, List.mem_singleton] at hy
    rcases hy with hy | rfl
    · obtain ⟨j, hj⟩ := List.mem_iff_getElem?.1 hy
      rcases set_get hj with ⟨_, rfl, _⟩ | ⟨c, hj⟩
      · refine ⟨?_, ?_, ?_, ?_, fun _ => rfl, by simp, by simp⟩
        · intro s hs; rw [List.mem_singleton] at hs; subst hs; rw [hma, hka]; exact half_card hC seed _ 0
        · intro s hs; rw [List.mem_singleton] at hs; subst hs; rw [hka]; exact Nat.le_trans (List.length_filter_le _ _) (hNd.few t htm)
        · intro s hs k u hk; rw [List.mem_singleton] at hs; subst hs; rw [hma] at hk; simp only at hk; split at hk
          · exact hNd.sub t htm k u hk
          · cases hk
        · have := fa 0
          simp only [flatT, List.flatMap_cons, List.flatMap_nil, List.append_nil]; rw [hka]; exact this
      · exact h.nd y (List.mem_of_getElem? hj)
    · refine ⟨?_, ?_, ?_, ?_, fun _ => rfl, by simp, by simp⟩
      · intro s hs; rw [List.mem_singleton] at hs; subst hs; rw [hmc, hkc]; exact half_card hC seed _ 1
      · intro s hs; rw [List.mem_singleton] at hs; subst hs; rw [hkc]; exact Nat.le_trans (List.length_filter_le _ _) (hNd.few t htm)
      · intro s hs k u hk; rw [List.mem_singleton] at hs; subst hs; rw [hmc] at hk; simp only at hk; split at hk
        · exact hNd.sub t htm k u hk
        · cases hk
      · have := fa 1
        simp only [flatT, List.flatMap_cons, List.flatMap_nil, List.append_nil]; rw [hkc]; exact this
  · rw [he]
    have hs := h.ok.split (prts_get hi) hd
    have := hs.allK_nodup.length_le_of_subset (l₂ := allK (prts nds)) fun k hk => (h.ok.split_all (prts_get hi) k).1 hk
    have := h.few
    omega
  · intro y hy
    rw [List.mem_append, List.mem_singleton] at hy
    rcases hy with hy | rfl
    · obtain ⟨j, hj⟩ := List.mem_iff_getElem?.1 hy
      rcases set_get hj with ⟨_, rfl, _⟩ | ⟨c, hj⟩
      · simp
      · exact h.tabs y (List.mem_of_getElem? hj)
    · simp
theorem SOk.split_len {ps : List PartR} (h : SOk seed D ps) {i : Nat} {p : PartR} (hi : ps[i]? = some p) (hd : p.dep < 16) : (allK (spS seed ps i p)).length = (allK ps).length :=
  ((List.perm_ext_iff_of_nodup (h.split hi hd).allK_nodup h.allK_nodup).2 (h.split_all hi)).length_eq
end
end Go.Proofs.Ytkkijcnipjojoaa
