/- Names, told apart; what a dict of names has; parts that shrink and fill again: no program in sight. -/
import Derived.Test.YtkkijcnipjojoaaDictD
namespace Go.Proofs.Ytkkijcnipjojoaa
open Go.RowKit

theorem enc1 : ∀ x : Fin 26, Utf8.encode (97 + ((x.val : Nat) : Int)) = { data := #[UInt8.ofNat (97 + x.val)] } := by decide +kernel
theorem enc1' (x : Nat) (h : x < 26) : Utf8.encode (97 + (x : Int)) = { data := #[UInt8.ofNat (97 + x)] } := enc1 ⟨x, h⟩
theorem push_inj {s t : ByteArray} {x y : UInt8} (h : s ++ { data := #[x] } = t ++ { data := #[y] }) : s = t ∧ x = y := by
  have h1 := congrArg (fun b => b.data.toList) h
  simp only [ByteArray.data_append, Array.toList_append] at h1
  have h2 := List.append_inj' h1 rfl
  refine ⟨ByteArray.ext (Array.toList_inj.1 h2.1), ?_⟩
  have h3 := h2.2
  simpa using h3
theorem byte_inj {x y : Nat} (hx : x < 26) (hy : y < 26) (h : UInt8.ofNat (97 + x) = UInt8.ofNat (97 + y)) : x = y := by
  have := congrArg UInt8.toNat h
  simp at this
  omega
theorem nm_inj {a b i : Nat} (h : nm a (i + 1) = nm b (i + 1)) : nm a i = nm b i ∧ a / 26 ^ i % 26 = b / 26 ^ i % 26 := by
  unfold nm at h
  rw [enc1' _ (Nat.mod_lt _ (by omega)), enc1' _ (Nat.mod_lt _ (by omega))] at h
  obtain ⟨h1, h2⟩ := push_inj h
  exact ⟨h1, byte_inj (Nat.mod_lt _ (by omega)) (Nat.mod_lt _ (by omega)) h2⟩
theorem nameS_inj {a b : Nat} (ha : a < 456976) (hb : b < 456976) (h : nameS a = nameS b) : a = b := by
  unfold nameS at h
  obtain ⟨h3, d3⟩ := nm_inj h
  obtain ⟨h2, d2⟩ := nm_inj h3
  obtain ⟨h1, d1⟩ := nm_inj h2
  obtain ⟨_, d0⟩ := nm_inj h1
  simp only [Nat.reducePow] at d0 d1 d2 d3
  omega

/-- The names from lo to hi (and they alone) have what a function says. -/
structure NamesM (g : Nat → ByteArray) (M : ByteArray → Option Int) (lo hi : Nat) (f : Nat → Int) : Prop where
  has : ∀ j, lo ≤ j → j < hi → M (g j) = some (f j)
  only : ∀ k, M k ≠ none → ∃ j, lo ≤ j ∧ j < hi ∧ k = g j
section
variable {g : Nat → ByteArray} {M : ByteArray → Option Int} {lo hi N : Nat} {f : Nat → Int}
theorem NamesM.start (g : Nat → ByteArray) (f : Nat → Int) (lo : Nat) : NamesM g (fun _ => none) lo lo f := ⟨fun j h1 h2 => by omega, fun k h => absurd rfl h⟩
theorem NamesM.fresh (h : NamesM g M lo hi f) (hg : ∀ a b, a < N → b < N → g a = g b → a = b) (hN : hi < N) : M (g hi) = none := by
  cases hc : M (g hi) with
  | none => rfl
  | some v =>
    obtain ⟨j, h1, h2, h3⟩ := h.only (g hi) (by rw [hc]; simp)
    have := hg hi j hN (by omega) h3
    omega
theorem NamesM.put (h : NamesM g M lo hi f) (hg : ∀ a b, a < N → b < N → g a = g b → a = b) (hN : hi < N) (hl : lo ≤ hi) : NamesM g (updM M (g hi) (some (f hi))) lo (hi + 1) f := by
  refine ⟨fun j h1 h2 => ?_, fun k hk => ?_⟩
  · unfold updM
    by_cases c : g j = g hi
    · rw [if_pos c]
      have := hg j hi (by omega) hN c
      rw [this]
    · rw [if_neg c]
      exact h.has j h1 (by have : j ≠ hi := fun e => c (by rw [e]); omega)
  · unfold updM at hk
    by_cases c : k = g hi
    · exact ⟨hi, hl, by omega, c⟩
    · rw [if_neg c] at hk
      obtain ⟨j, h1, h2, h3⟩ := h.only k hk
      exact ⟨j, h1, by omega, h3⟩
theorem NamesM.del (h : NamesM g M lo hi f) (hg : ∀ a b, a < N → b < N → g a = g b → a = b) (hN : hi ≤ N) (hl : lo < hi) : NamesM g (updM M (g lo) none) (lo + 1) hi f := by
  refine ⟨fun j h1 h2 => ?_, fun k hk => ?_⟩
  · unfold updM
    rw [if_neg (fun e => by have := hg j lo (by omega) (by omega) e; omega)]
    exact h.has j (by omega) h2
  · unfold updM at hk
    by_cases c : k = g lo
    · rw [if_pos c] at hk; exact absurd rfl hk
    · rw [if_neg c] at hk
      obtain ⟨j, h1, h2, h3⟩ := h.only k hk
      exact ⟨j, by have : j ≠ lo := fun e => c (by rw [h3, e]); omega, h2, h3⟩
theorem NamesM.gone (h : NamesM g M hi hi f) (k : ByteArray) : M k = none := by
  cases hc : M k with
  | none => rfl
  | some v =>
    obtain ⟨j, h1, h2, _⟩ := h.only k (by rw [hc]; simp)
    omega
def namesL (g : Nat → ByteArray) (n : Nat) : List ByteArray := (List.range n).map g
theorem namesL_nodup (hg : ∀ a b, a < N → b < N → g a = g b → a = b) {n : Nat} (hn : n ≤ N) : (namesL g n).Nodup := by
  unfold namesL
  rw [List.Nodup, List.pairwise_map]
  have := @List.nodup_range n
  rw [List.Nodup] at this
  rw [List.pairwise_iff_getElem] at this ⊢
  intro i j hi hj hij e
  simp only [List.getElem_range] at e
  simp only [List.length_range] at hi hj
  have := hg i j (by omega) (by omega) e
  omega
theorem NamesM.perm {ks : List ByteArray} (h : NamesM g M 0 hi f) (hg : ∀ a b, a < N → b < N → g a = g b → a = b) (hN : hi ≤ N) (hn : ks.Nodup) (hd : ∀ k, M k ≠ none ↔ k ∈ ks) : ks.Perm (namesL g hi) := by
  rw [List.perm_ext_iff_of_nodup hn (namesL_nodup hg hN)]
  intro k
  rw [← hd k]
  unfold namesL
  rw [List.mem_map]
  constructor
  · intro hk
    obtain ⟨j, _, h2, h3⟩ := h.only k hk
    exact ⟨j, List.mem_range.2 h2, h3.symm⟩
  · rintro ⟨j, hj, rfl⟩
    rw [h.has j (Nat.zero_le _) (List.mem_range.1 hj)]; simp
theorem namesL_len (g : Nat → ByteArray) (n : Nat) : (namesL g n).length = n := by simp [namesL]
end

/-- Parts that are cut alike, with some of the keys. -/
structure SubP (ps P : List PartR) : Prop where
  len : ps.length = P.length
  at' : ∀ (j : Nat) (p q : PartR), ps[j]? = some p → P[j]? = some q → p.dep = q.dep ∧ p.bits = q.bits ∧ p.keys ⊆ q.keys
section
variable {seed : Int} {D : Nat} {ps P : List PartR} {key : ByteArray}
theorem SubP.refl (P : List PartR) : SubP P P := ⟨rfl, fun j p q h1 h2 => by rw [h1] at h2; simp only [Option.some.injEq] at h2; subst h2; exact ⟨rfl, rfl, fun _ h => h⟩⟩
theorem SubP.get (h : SubP ps P) {j : Nat} {p : PartR} (hp : ps[j]? = some p) : ∃ q, P[j]? = some q ∧ p.dep = q.dep ∧ p.bits = q.bits ∧ p.keys ⊆ q.keys := by
  have hl := (List.getElem?_eq_some_iff.1 hp).1
  obtain ⟨q, hq⟩ : ∃ q, P[j]? = some q := ⟨_, List.getElem?_eq_getElem (by have := h.len; omega)⟩
  exact ⟨_, hq, h.at' j p _ hp hq⟩
theorem SubP.set (h : SubP ps P) {i : Nat} {p : PartR} {ks : List ByteArray} (hp : ps[i]? = some p) (hk : ∀ q, P[i]? = some q → ks ⊆ q.keys) : SubP (ps.set i ⟨p.dep, p.bits, ks⟩) P := by
  refine ⟨by simpa using h.len, fun j p' q h1 h2 => ?_⟩
  rcases set_get h1 with ⟨rfl, rfl, _⟩ | ⟨c, h1⟩
  · obtain ⟨e1, e2, _⟩ := h.at' _ p q hp h2
    exact ⟨e1, e2, hk q h2⟩
  · exact h.at' j p' q h1 h2
theorem SubP.del (h : SubP ps P) (hS : SOk seed D ps) (key : ByteArray) : SubP (delS seed ps key) P := by
  obtain ⟨p, hp, _⟩ := hS.pix_at (hN seed key)
  rw [delS_eq hp]
  refine h.set hp fun q hq => ?_
  obtain ⟨_, _, e⟩ := h.at' _ p q hp hq
  exact fun k hk => e (dropK_mem.1 hk).1
theorem SubP.put (h : SubP ps P) (hS : SOk seed D ps) (hP : SOk seed D P) (hk : key ∈ allK P) (hno : key ∉ allK ps) : ∃ ps', putS seed (D, ps) key = (D, ps') ∧ SubP ps' P := by
  obtain ⟨p, hp, hx, hm⟩ := hS.pix_at (hN seed key)
  obtain ⟨q, hq, e1, e2, e3⟩ := h.get hp
  have hpi : pix ps (hN seed key) = pix P (hN seed key) := hP.pix_eq hq (by rw [← e1, ← e2]; exact hx)
  have hkq : key ∈ q.keys := (hP.key_at (by rw [← hpi]; exact hq)).1 hk
  have hkp : key ∉ p.keys := fun e => hno ((hS.key_at hp).2 e)
  have hfull : p.keys.length < 112 ∨ 16 ≤ p.dep := by
    by_cases c : p.dep < 16
    · left
      have h1 := hP.few q (List.mem_of_getElem? hq) (by omega)
      have h2 : (key :: p.keys).length ≤ q.keys.length := List.Nodup.length_le_of_subset (List.nodup_cons.2 ⟨hkp, hS.nodup p hm⟩) fun k hk' => by
        rw [List.mem_cons] at hk'
        rcases hk' with rfl | hk'
        · exact hkq
        · exact e3 hk'
      simp only [List.length_cons] at h2
      omega
    · exact .inr (by omega)
  refine ⟨ps.set (pix ps (hN seed key)) ⟨p.dep, p.bits, p.keys ++ [key]⟩, ?_, ?_⟩
  · unfold putS
    rw [if_neg (by rw [inB'_iff]; exact hno), growS_stop (S := (D, ps)) hp hfull, addS_eq hp]
  · refine h.set hp fun q' hq' => ?_
    rw [hq] at hq'
    simp only [Option.some.injEq] at hq'
    subst hq'
    intro k hk'
    rw [List.mem_append, List.mem_singleton] at hk'
    rcases hk' with hk' | rfl
    · exact e3 hk'
    · exact hkq
end
end Go.Proofs.Ytkkijcnipjojoaa
