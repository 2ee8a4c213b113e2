/- What tallboylaw8.play keeps: a table, and the lists of its keys and values. -/
import Derived.Test.YtkkijcnipjojoaaSound8
import Derived.Test.YtkkijcnipjojoaaSeeds8
import Derived.Deep.AppendLies
namespace Go.Proofs.Ytkkijcnipjojoaa
open Go.RowKit

theorem info_int8 : (Try.prog.info? 3).map (fun i => (i.zero, i.size, i.bytes)) = some (some (.int .i64 0), 1, 8) := by kernel_rfl

/-- The last place of a text among the first so many. -/
def findN (ks : List ByteArray) (k : ByteArray) : Nat → Int
  | 0 => -1
  | j + 1 => if ks[j]? = some k then (j : Int) else findN ks k j
theorem findN_bd (ks : List ByteArray) (k : ByteArray) (n : Nat) : -1 ≤ findN ks k n ∧ findN ks k n < n := by
  induction n with
  | zero => simp [findN]
  | succ n ih => unfold findN; split <;> omega
theorem findN_none (ks : List ByteArray) (k : ByteArray) (h : k ∉ ks) (n : Nat) : findN ks k n = -1 := by
  induction n with
  | zero => rfl
  | succ n ih =>
    unfold findN
    rw [if_neg (fun e => h (List.mem_iff_getElem?.2 ⟨n, e⟩))]; exact ih
theorem findN_some (ks : List ByteArray) (hn : ks.Nodup) (k : ByteArray) (j : Nat) (h : ks[j]? = some k) (n : Nat) (hj : j < n) : findN ks k n = j := by
  induction n with
  | zero => omega
  | succ n ih =>
    unfold findN
    by_cases c : ks[n]? = some k
    · rw [if_pos c]
      have hl := (List.getElem?_eq_some_iff.1 h).1
      have := (List.getElem?_inj hl hn).1 (h.trans c.symm)
      omega
    · rw [if_neg c]
      by_cases d : j = n
      · subst d; exact absurd h c
      · exact ih (by omega)

/-- The lists are what a table has. -/
structure Rel (m : ByteArray → Option Int) (ks : List ByteArray) (vs : List Int) : Prop where
  card : Card m ks
  len : vs.length = ks.length
  val : ∀ (j : Nat) k x, ks[j]? = some k → vs[j]? = some x → m k = some x
theorem Rel.nil : Rel (fun _ => none) [] [] := ⟨Card.nil, rfl, fun j k x h => by simp at h⟩
theorem Rel.at {m : ByteArray → Option Int} {ks : List ByteArray} {vs : List Int} (h : Rel m ks vs) (j : Nat) (k : ByteArray) (hj : ks[j]? = some k) : ∃ x, vs[j]? = some x ∧ m k = some x := by
  have hl := (List.getElem?_eq_some_iff.1 hj).1
  exact ⟨_, List.getElem?_eq_getElem (by have := h.len; omega), h.val j k _ hj (List.getElem?_eq_getElem (by have := h.len; omega))⟩
theorem Rel.set {m : ByteArray → Option Int} {ks : List ByteArray} {vs : List Int} (h : Rel m ks vs) (j : Nat) (k : ByteArray) (hj : ks[j]? = some k) (v : Int) : Rel (updM m k (some v)) ks (vs.set j v) := by
  have hl := (List.getElem?_eq_some_iff.1 hj).1
  obtain ⟨x0, _, hm⟩ := h.at j k hj
  refine ⟨h.card.same (by rw [hm]; simp) v, by simp [h.len], fun i k' x hk hx => ?_⟩
  rw [List.getElem?_set] at hx
  unfold updM
  by_cases c : j = i
  · subst c
    rw [if_pos rfl, if_pos (by have := h.len; omega)] at hx
    rw [hj] at hk
    simp only [Option.some.injEq] at hk hx
    rw [if_pos hk.symm, hx]
  · rw [if_neg c] at hx
    rw [if_neg (fun e => c ((List.getElem?_inj hl h.card.1).1 (by rw [hj, hk, e])))]
    exact h.val i k' x hk hx
theorem Rel.add {m : ByteArray → Option Int} {ks : List ByteArray} {vs : List Int} (h : Rel m ks vs) (k : ByteArray) (hm : m k = none) (v : Int) : Rel (updM m k (some v)) (ks ++ [k]) (vs ++ [v]) := by
  have hne : ∀ k', k' ∈ ks → k' ≠ k := fun k' hk e => (h.card.2 k').1 hk (by rw [e]; exact hm)
  refine ⟨h.card.snoc hm v, by simp [h.len], fun i k' x hk hx => ?_⟩
  have hl := h.len
  unfold updM
  by_cases c : i < ks.length
  · rw [List.getElem?_append_left c] at hk
    rw [List.getElem?_append_left (by omega)] at hx
    rw [if_neg (hne k' (List.mem_of_getElem? hk))]
    exact h.val i k' x hk hx
  · rw [List.getElem?_append_right (by omega)] at hk
    rw [List.getElem?_append_right (by omega)] at hx
    have hi := (List.getElem?_eq_some_iff.1 hk).1
    rw [List.length_singleton] at hi
    have e : i - ks.length = 0 := by omega
    rw [e] at hk
    rw [show i - vs.length = 0 by omega] at hx
    simp only [List.getElem?_cons_zero, Option.some.injEq] at hk hx
    rw [if_pos hk.symm, hx]
theorem Rel.del {m : ByteArray → Option Int} {ks : List ByteArray} {vs : List Int} (h : Rel m ks vs) (j : Nat) (k : ByteArray) (hj : ks[j]? = some k) : Rel (updM m k none) (ks.eraseIdx j) (vs.eraseIdx j) := by
  have hl := (List.getElem?_eq_some_iff.1 hj).1
  refine ⟨⟨List.Nodup.sublist (List.eraseIdx_sublist _ _) h.card.1, fun x => ?_⟩, by rw [List.length_eraseIdx, List.length_eraseIdx, h.len], fun i k' x hk hx => ?_⟩
  · rw [List.mem_eraseIdx_iff_getElem?]
    unfold updM
    constructor
    · rintro ⟨i, hi, e⟩
      have hx : x ∈ ks := List.mem_of_getElem? e
      rw [if_neg (fun c => hi ((List.getElem?_inj hl h.card.1).1 (by rw [hj, e, c])).symm)]
      exact (h.card.2 x).1 hx
    · intro hx
      by_cases c : x = k
      · rw [if_pos c] at hx; exact absurd rfl hx
      · rw [if_neg c] at hx
        obtain ⟨i, hi⟩ := List.mem_iff_getElem?.1 ((h.card.2 x).2 hx)
        exact ⟨i, fun e => c (by rw [e, hj] at hi; exact (Option.some.inj hi).symm), hi⟩
  · rw [List.getElem?_eraseIdx] at hk hx
    unfold updM
    have key : ∀ q, ks[q]? = some k' → q ≠ j → k' ≠ k := fun q hq hne e => hne ((List.getElem?_inj hl h.card.1).1 (by rw [hj, hq, e])).symm
    by_cases c : i < j
    · rw [if_pos c] at hk hx
      rw [if_neg (key i hk (by omega))]
      exact h.val i k' x hk hx
    · rw [if_neg c] at hk hx
      rw [if_neg (key (i + 1) hk (by omega))]
      exact h.val (i + 1) k' x hk hx
theorem Rel.gone {m : ByteArray → Option Int} {ks : List ByteArray} {vs : List Int} (h : Rel m ks vs) (k : ByteArray) (hm : m k = none) : Rel (updM m k none) ks vs := by
  rw [updM_none hm]; exact h

/-- A table and two lists in memory, all apart. -/
structure PM (w wr : World) (tb gb : Nat) (seed : Int) (m : ByteArray → Option Int) (ks : List ByteArray) (vs : List Int) (vk vv : Value) : Prop where
  tab : TB wr tb gb seed m
  ok : wr.ownsRow w.heap.size 9 1 vk ks.length (ks.map Value.string)
  ov : wr.ownsRow w.heap.size 3 1 vv vs.length (vs.map (Value.int .i64))
  a1 : ∀ q, vk.ownBlock = some q → vv.ownBlock = some q → False
  a2 : vk.ownBlock ≠ some tb ∧ vk.ownBlock ≠ some gb ∧ vv.ownBlock ≠ some tb ∧ vv.ownBlock ≠ some gb
  lo : w.heap.size ≤ tb ∧ w.heap.size ≤ gb ∧ w.heap.size ≤ wr.heap.size
  bel : Below w.heap.size w wr
section
variable {w wr w' : World} {tb gb : Nat} {seed : Int} {m m' : ByteArray → Option Int} {ks : List ByteArray} {vs : List Int} {vk vv : Value}
theorem own_ne {v : Value} {q : Nat} (h : v.ownBlock ≠ some q) : v.ownBlock = none ∨ v.ownBlock ≠ some q := .inr h
theorem PM.step (h : PM w wr tb gb seed m ks vs vk vv) (hb : Below wr.heap.size wr w') : PM w w' tb gb seed m ks vs vk vv :=
  ⟨h.tab.later hb, owns_later h.ok hb, owns_later h.ov hb, h.a1, h.a2, ⟨h.lo.1, h.lo.2.1, Nat.le_trans h.lo.2.2 hb.size⟩, h.bel.trans (hb.mono h.lo.2.2)⟩
theorem owns_touch {w w' : World} {B : Nat} {e : TypeId} {s : Nat} {v : Value} {n : Nat} {xs : List Value} {tb gb : Nat} (h : w.ownsRow B e s v n xs) (ht : Touch w w' tb gb) (h1 : v.ownBlock ≠ some tb) (h2 : v.ownBlock ≠ some gb) : w'.ownsRow B e s v n xs := by
  rcases h with ⟨hl, ⟨rfl, h0⟩ | ⟨g, cap, cur, rfl, hg, hh, r⟩⟩
  · exact ⟨hl, .inl ⟨rfl, h0⟩⟩
  · refine ⟨hl, .inr ⟨g, cap, cur, rfl, hg, ?_, r⟩⟩
    rw [ht.block g (heap_lt' hh) (fun e => h1 (by rw [e]; rfl)) (fun e => h2 (by rw [e]; rfl))]; exact hh
theorem PM.puts {g' : Nat} (h : PM w wr tb gb seed m ks vs vk vv) (hT : TB w' tb g' seed m') (hp : Puts wr w' tb gb g') : PM w w' tb g' seed m' ks vs vk vv := by
  obtain ⟨a, b, c, d⟩ := h.a2
  obtain ⟨l1, l2, l3⟩ := h.lo
  have hg := hp.1
  have hs := hp.2.size
  have fresh : ∀ {e : TypeId} {v : Value} {n : Nat} {xs : List Value}, wr.ownsRow w.heap.size e 1 v n xs → v.ownBlock ≠ some gb → v.ownBlock ≠ some g' := by
    intro e v n xs ho hne hc
    rcases hg with rfl | hg
    · exact hne hc
    · have := (ho.lt g' hc).2; omega
  exact ⟨hT, owns_touch h.ok hp.2 a b, owns_touch h.ov hp.2 c d, h.a1, ⟨a, fresh h.ok b, c, fresh h.ov d⟩, ⟨l1, by rcases hg with rfl | hg <;> omega, by omega⟩, h.bel.trans (hp.2.below l3 l1 l2)⟩

/-- A row that grew: the other blocks stand. -/
theorem PM.growK (h : PM w wr tb gb seed m ks vs vk vv) {vk' : Value} {ks' : List ByteArray} (ho : w'.ownsRow w.heap.size 9 1 vk' ks'.length (ks'.map Value.string)) (hg : wr.grownBy w' vk.ownBlock)
    (hm : vk'.ownBlock = vk.ownBlock ∨ ∃ q, vk'.ownBlock = some q ∧ wr.heap.size ≤ q) : PM w w' tb gb seed m ks' vs vk' vv := by
  obtain ⟨a, b, c, d⟩ := h.a2
  obtain ⟨l1, l2, l3⟩ := h.lo
  have lt := h.tab.lt
  refine ⟨h.tab.kept (hg.block _ lt.1 (fun e => a e.symm)) (hg.block _ lt.2.1 (fun e => b e.symm)), ho, ?_, ?_, ?_, ⟨l1, l2, Nat.le_trans l3 hg.size⟩, h.bel.trans (grown_below h.ok hg l3)⟩
  · refine h.ov.kept hg ?_
    cases hv : vv.ownBlock with
    | none => exact .inl rfl
    | some q => exact .inr (fun e => h.a1 q e.symm hv)
  · intro q h1 h2
    rcases hm with hm | ⟨p, hp, hlp⟩
    · exact h.a1 q (hm ▸ h1) h2
    · have := (h.ov.lt q h2).2
      rw [hp] at h1; cases h1; omega
  · rcases hm with hm | ⟨p, hp, hlp⟩
    · rw [hm]; exact ⟨a, b, c, d⟩
    · rw [hp]
      exact ⟨fun e => by cases e; omega, fun e => by cases e; omega, c, d⟩
theorem PM.growV (h : PM w wr tb gb seed m ks vs vk vv) {vv' : Value} {vs' : List Int} (ho : w'.ownsRow w.heap.size 3 1 vv' vs'.length (vs'.map (Value.int .i64))) (hg : wr.grownBy w' vv.ownBlock)
    (hm : vv'.ownBlock = vv.ownBlock ∨ ∃ q, vv'.ownBlock = some q ∧ wr.heap.size ≤ q) : PM w w' tb gb seed m ks vs' vk vv' := by
  obtain ⟨a, b, c, d⟩ := h.a2
  obtain ⟨l1, l2, l3⟩ := h.lo
  have lt := h.tab.lt
  refine ⟨h.tab.kept (hg.block _ lt.1 (fun e => c e.symm)) (hg.block _ lt.2.1 (fun e => d e.symm)), ?_, ho, ?_, ?_, ⟨l1, l2, Nat.le_trans l3 hg.size⟩, h.bel.trans (grown_below h.ov hg l3)⟩
  · refine h.ok.kept hg ?_
    cases hv : vk.ownBlock with
    | none => exact .inl rfl
    | some q => exact .inr (fun e => h.a1 q hv e.symm)
  · intro q h1 h2
    rcases hm with hm | ⟨p, hp, hlp⟩
    · exact h.a1 q h1 (hm ▸ h2)
    · have := (h.ok.lt q h1).2
      rw [hp] at h2; cases h2; omega
  · rcases hm with hm | ⟨p, hp, hlp⟩
    · rw [hm]; exact ⟨a, b, c, d⟩
    · rw [hp]
      exact ⟨a, b, fun e => by cases e; omega, fun e => by cases e; omega⟩
/-- A list made anew. -/
theorem PM.newK (h : PM w wr tb gb seed m ks vs vk vv) {vk' : Value} {ks' : List ByteArray} (ho : w'.ownsRow wr.heap.size 9 1 vk' ks'.length (ks'.map Value.string)) (hb : Below wr.heap.size wr w') : PM w w' tb gb seed m ks' vs vk' vv := by
  have h2 := h.step hb
  obtain ⟨a, b, c, d⟩ := h2.a2
  have lt := h.tab.lt
  refine ⟨h2.tab, owns_base ho h.lo.2.2, h2.ov, fun q h1 h3 => ?_, ⟨fun e => ?_, fun e => ?_, c, d⟩, h2.lo, h2.bel⟩
  · have := (ho.lt q h1).1; have := (h.ov.lt q h3).2; omega
  · have := (ho.lt _ e).1; omega
  · have := (ho.lt _ e).1; omega
theorem PM.newV (h : PM w wr tb gb seed m ks vs vk vv) {vv' : Value} {vs' : List Int} (ho : w'.ownsRow wr.heap.size 3 1 vv' vs'.length (vs'.map (Value.int .i64))) (hb : Below wr.heap.size wr w') : PM w w' tb gb seed m ks vs' vk vv' := by
  have h2 := h.step hb
  obtain ⟨a, b, c, d⟩ := h2.a2
  have lt := h.tab.lt
  refine ⟨h2.tab, h2.ok, owns_base ho h.lo.2.2, fun q h1 h3 => ?_, ⟨a, b, fun e => ?_, fun e => ?_⟩, h2.lo, h2.bel⟩
  · have := (ho.lt q h3).1; have := (h.ok.lt q h1).2; omega
  · have := (ho.lt _ e).1; omega
  · have := (ho.lt _ e).1; omega
theorem PM.setV (h : PM w wr tb gb seed m ks vs vk vv) {g n cap : Nat} (hv : vv = .slice (some ⟨g, 0, none⟩) n cap) (j : Nat) (x : Int) : PM w (wr.setCell ⟨g, j, none⟩ (.int .i64 x)) tb gb seed m ks (vs.set j x) vk vv := by
  have hn : n = vs.length := by
    obtain ⟨a, c, e⟩ := owns_slice h.ov
    rw [hv] at e; simp only [Value.slice.injEq] at e; exact e.2.1
  subst hn
  subst hv
  have hs := h.ov.stored j (.int .i64 x)
  refine h.growV (vs' := vs.set j x) ?_ hs.2 (.inl rfl)
  rw [List.length_set, List.map_set]
  exact hs.1
end
end Go.Proofs.Ytkkijcnipjojoaa
