/- Tables under a directory, in plain lists: a key is put, taken away, looked up. -/
import Derived.Test.YtkkijcnipjojoaaPlainD
namespace Go.Proofs.Ytkkijcnipjojoaa
open Go.RowKit

/-- Splits, as long as a hash's part is full. -/
def growS (seed : Int) (x : Nat) : Nat → Nat × List PartR → Nat × List PartR
  | 0, S => S
  | f + 1, S => match S.2[pix S.2 x]? with
    | some p => if 112 ≤ p.keys.length ∧ p.dep < 16 then growS seed x f (max S.1 (p.dep + 1), spS seed S.2 (pix S.2 x) p) else S
    | none => S
theorem growS_stop {seed : Int} {x : Nat} {S : Nat × List PartR} {p : PartR} (hp : S.2[pix S.2 x]? = some p) (h : p.keys.length < 112 ∨ 16 ≤ p.dep) (f : Nat) : growS seed x f S = S := by
  cases f with
  | zero => rfl
  | succ f => unfold growS; rw [hp]; simp only; rw [if_neg (by omega)]
theorem growS_step {seed : Int} {x : Nat} {S : Nat × List PartR} {p : PartR} (hp : S.2[pix S.2 x]? = some p) (h1 : 112 ≤ p.keys.length) (h2 : p.dep < 16) (f : Nat) :
    growS seed x (f + 1) S = growS seed x f (max S.1 (p.dep + 1), spS seed S.2 (pix S.2 x) p) := by
  conv => lhs; unfold growS
  rw [hp]; simp only; rw [if_pos ⟨h1, h2⟩]

section
variable {seed : Int} {D : Nat} {ps : List PartR}
/-- Behind a split a hash's part is one deeper. -/
theorem SOk.split_pix (h : SOk seed D ps) {x : Nat} {p : PartR} (hp : ps[pix ps x]? = some p) (hd : p.dep < 16) :
    ∃ q, (spS seed ps (pix ps x) p)[pix (spS seed ps (pix ps x) p) x]? = some q ∧ q.dep = p.dep + 1 := by
  have hs := h.split hp hd
  have hl := (List.getElem?_eq_some_iff.1 hp).1
  obtain ⟨p', hp', hx, hm⟩ := h.pix_at x
  rw [hp] at hp'
  simp only [Option.some.injEq] at hp'
  subst hp'
  have fs := fit_split (h := x) (h.bits p hm)
  have key : ∀ q, q ∈ spS seed ps (pix ps x) p → x % 2 ^ q.dep = q.bits → (spS seed ps (pix ps x) p)[pix (spS seed ps (pix ps x) p) x]? = some q := by
    intro q hq hx
    obtain ⟨j, hj⟩ := List.mem_iff_getElem?.1 hq
    rw [← hs.pix_eq hj hx]
    exact hj
  by_cases b : x / 2 ^ p.dep % 2 = 0
  · exact ⟨spA seed p, key _ (spS_a hl) (fs.1.2 ⟨hx, b⟩), rfl⟩
  · exact ⟨spB seed p, key _ spS_b (fs.2.2 ⟨hx, by omega⟩), rfl⟩

/-- The state behind some splits: a loop's invariant. -/
structure GrowI (seed : Int) (x : Nat) (S T : Nat × List PartR) : Prop where
  ok : SOk seed T.1 T.2
  all : ∀ k, k ∈ allK T.2 ↔ k ∈ allK S.2
  to : ∃ f p, T.2[pix T.2 x]? = some p ∧ 16 ≤ f + p.dep ∧ growS seed x f T = growS seed x 16 S
theorem GrowI.start {S : Nat × List PartR} (h : SOk seed S.1 S.2) (x : Nat) : GrowI seed x S S := by
  obtain ⟨p, hp, _⟩ := h.pix_at x
  exact ⟨h, fun _ => Iff.rfl, 16, p, hp, by omega, rfl⟩
theorem GrowI.step {x : Nat} {S T : Nat × List PartR} (h : GrowI seed x S T) {p : PartR} (hp : T.2[pix T.2 x]? = some p) (h1 : 112 ≤ p.keys.length) (h2 : p.dep < 16) :
    GrowI seed x S (max T.1 (p.dep + 1), spS seed T.2 (pix T.2 x) p) := by
  obtain ⟨f, q, hq, hf, hg⟩ := h.to
  rw [hp] at hq
  simp only [Option.some.injEq] at hq
  subst hq
  obtain ⟨q, hq, hqd⟩ := h.ok.split_pix hp h2
  refine ⟨h.ok.split hp h2, fun k => (h.ok.split_all hp k).trans (h.all k), ?_⟩
  cases f with
  | zero => omega
  | succ f =>
    rw [growS_step hp h1 h2] at hg
    exact ⟨f, q, hq, by omega, hg⟩
theorem GrowI.stop {x : Nat} {S T : Nat × List PartR} (h : GrowI seed x S T) {p : PartR} (hp : T.2[pix T.2 x]? = some p) (h1 : p.keys.length < 112 ∨ 16 ≤ p.dep) : growS seed x 16 S = T := by
  obtain ⟨f, q, hq, hf, hg⟩ := h.to
  rw [← hg]
  exact growS_stop hp h1 f
theorem GrowI.done {S : Nat × List PartR} (h : SOk seed S.1 S.2) (x : Nat) : ∃ p, SOk seed (growS seed x 16 S).1 (growS seed x 16 S).2 ∧ (∀ k, k ∈ allK (growS seed x 16 S).2 ↔ k ∈ allK S.2) ∧
    (growS seed x 16 S).2[pix (growS seed x 16 S).2 x]? = some p ∧ (p.keys.length < 112 ∨ 16 ≤ p.dep) := by
  suffices H : ∀ n T q, T.2[pix T.2 x]? = some q → 16 ≤ n + q.dep → GrowI seed x S T → ∃ T' p, GrowI seed x S T' ∧ T'.2[pix T'.2 x]? = some p ∧ (p.keys.length < 112 ∨ 16 ≤ p.dep) by
    obtain ⟨q, hq, _⟩ := h.pix_at x
    obtain ⟨T', p, hI, hp, hs⟩ := H 16 S q hq (by omega) (GrowI.start h x)
    rw [hI.stop hp hs]
    exact ⟨p, hI.ok, hI.all, hp, hs⟩
  intro n
  induction n with
  | zero => intro T q hq hn hI; exact ⟨T, q, hI, hq, .inr (by omega)⟩
  | succ n ih =>
    intro T q hq hn hI
    by_cases c : 112 ≤ q.keys.length ∧ q.dep < 16
    · obtain ⟨q', hq', hd⟩ := hI.ok.split_pix hq c.2
      exact ih _ q' hq' (by omega) (hI.step hq c.1 c.2)
    · exact ⟨T, q, hI, hq, by omega⟩

/-- A key is added to its part. -/
def addS (ps : List PartR) (x : Nat) (key : ByteArray) : List PartR := match ps[pix ps x]? with
  | some p => ps.set (pix ps x) ⟨p.dep, p.bits, p.keys ++ [key]⟩
  | none => ps
def inB' (ps : List PartR) (key : ByteArray) : Bool := (allK ps).any fun k => decide (k = key)
theorem inB'_iff {ps : List PartR} {key : ByteArray} : inB' ps key = true ↔ key ∈ allK ps := by unfold inB'; simp
/-- A key is put. -/
def putS (seed : Int) (S : Nat × List PartR) (key : ByteArray) : Nat × List PartR :=
  if inB' S.2 key then S else ((growS seed (hN seed key) 16 S).1, addS (growS seed (hN seed key) 16 S).2 (hN seed key) key)
/-- A key is taken away. -/
def dropK (ks : List ByteArray) (key : ByteArray) : List ByteArray := ks.filter fun k => decide (k ≠ key)
def delS (seed : Int) (ps : List PartR) (key : ByteArray) : List PartR := match ps[pix ps (hN seed key)]? with
  | some p => ps.set (pix ps (hN seed key)) ⟨p.dep, p.bits, dropK p.keys key⟩
  | none => ps
theorem dropK_mem {ks : List ByteArray} {key k : ByteArray} : k ∈ dropK ks key ↔ k ∈ ks ∧ k ≠ key := by unfold dropK; rw [List.mem_filter]; simp
theorem dropK_at {ks : List ByteArray} {key : ByteArray} {j : Nat} (hn : ks.Nodup) (hj : ks[j]? = some key) : dropK ks key = ks.take j ++ ks.drop (j + 1) := by
  induction ks generalizing j with
  | nil => simp at hj
  | cons a l ih =>
    have hn' := List.nodup_cons.1 hn
    unfold dropK at ih ⊢
    cases j with
    | zero =>
      simp only [List.getElem?_cons_zero, Option.some.injEq] at hj
      subst hj
      rw [List.filter_cons_of_neg (by simp)]
      simp only [List.take_zero, List.nil_append, Nat.zero_add, List.drop_succ_cons, List.drop_zero]
      rw [List.filter_eq_self]
      intro b hb
      have : b ≠ a := fun e => hn'.1 (e ▸ hb)
      simpa using this
    | succ j =>
      rw [List.getElem?_cons_succ] at hj
      have hne : a ≠ key := fun e => hn'.1 (e ▸ List.mem_of_getElem? hj)
      rw [List.filter_cons_of_pos (by simpa using hne), ih hn'.2 hj]
      simp
theorem dropK_none {ks : List ByteArray} {key : ByteArray} (h : key ∉ ks) : dropK ks key = ks := by
  unfold dropK
  rw [List.filter_eq_self]
  intro b hb
  have : b ≠ key := fun e => h (e ▸ hb)
  simpa using this

theorem SOk.add (h : SOk seed D ps) {key : ByteArray} {p : PartR} (hp : ps[pix ps (hN seed key)]? = some p) (hf : p.keys.length < 112 ∨ 16 ≤ p.dep) (hk : key ∉ p.keys) (hs : key.size ≤ 20) :
    SOk seed D (ps.set (pix ps (hN seed key)) ⟨p.dep, p.bits, p.keys ++ [key]⟩) ∧ ∀ k, k ∈ allK (ps.set (pix ps (hN seed key)) ⟨p.dep, p.bits, p.keys ++ [key]⟩) ↔ k ∈ allK ps ∨ k = key := by
  obtain ⟨p', hp', hx, hm⟩ := h.pix_at (hN seed key)
  rw [hp] at hp'
  simp only [Option.some.injEq] at hp'
  subst hp'
  have hks : ∀ k ∈ p.keys ++ [key], hN seed k % 2 ^ p.dep = p.bits := by
    intro k hk
    rw [List.mem_append, List.mem_singleton] at hk
    rcases hk with hk | rfl
    · exact h.keys p hm k hk
    · exact hx
  refine ⟨h.rekey hp _ hks ?_ ?_ ?_, fun k => ?_⟩
  · exact List.nodup_append.2 ⟨h.nodup p hm, by simp, fun a ha b hb => by rw [List.mem_singleton] at hb; subst hb; rintro rfl; exact hk ha⟩
  · intro hd; simp only [List.length_append, List.length_singleton]; omega
  · intro k hk
    rw [List.mem_append, List.mem_singleton] at hk
    rcases hk with hk | rfl
    · exact h.size p hm k hk
    · exact hs
  · by_cases c : hN seed k % 2 ^ p.dep = p.bits
    · rw [h.rekey_all hp _ k c]
      have hpk : ps[pix ps (hN seed k)]? = some p := by rw [← h.pix_eq hp c]; exact hp
      rw [h.key_at hpk]
      simp
    · rw [h.rekey_else hp _ hks k c]
      constructor
      · exact .inl
      · rintro (e | rfl)
        · exact e
        · exact absurd hx c
theorem addS_eq {x : Nat} {key : ByteArray} {p : PartR} (hp : ps[pix ps x]? = some p) : addS ps x key = ps.set (pix ps x) ⟨p.dep, p.bits, p.keys ++ [key]⟩ := by
  unfold addS; rw [hp]
theorem delS_eq {key : ByteArray} {p : PartR} (hp : ps[pix ps (hN seed key)]? = some p) : delS seed ps key = ps.set (pix ps (hN seed key)) ⟨p.dep, p.bits, dropK p.keys key⟩ := by
  unfold delS; rw [hp]
theorem SOk.del (h : SOk seed D ps) (key : ByteArray) : SOk seed D (delS seed ps key) ∧ ∀ k, k ∈ allK (delS seed ps key) ↔ k ∈ allK ps ∧ k ≠ key := by
  obtain ⟨p, hp, hx, hm⟩ := h.pix_at (hN seed key)
  rw [delS_eq hp]
  have hks : ∀ k ∈ dropK p.keys key, hN seed k % 2 ^ p.dep = p.bits := fun k hk => h.keys p hm k (dropK_mem.1 hk).1
  refine ⟨h.rekey hp _ hks ((h.nodup p hm).filter _) (fun hd => Nat.le_trans (List.length_filter_le _ _) (h.few p hm hd)) (fun k hk => h.size p hm k (dropK_mem.1 hk).1), fun k => ?_⟩
  by_cases c : hN seed k % 2 ^ p.dep = p.bits
  · rw [h.rekey_all hp _ k c, dropK_mem]
    have hpk : ps[pix ps (hN seed k)]? = some p := by rw [← h.pix_eq hp c]; exact hp
    rw [h.key_at hpk]
  · rw [h.rekey_else hp _ hks k c]
    have : k ≠ key := by rintro rfl; exact c hx
    simp [this]
theorem SOk.put (h : SOk seed D ps) {key : ByteArray} (hs : key.size ≤ 20) : SOk seed (putS seed (D, ps) key).1 (putS seed (D, ps) key).2 ∧ ∀ k, k ∈ allK (putS seed (D, ps) key).2 ↔ k ∈ allK ps ∨ k = key := by
  unfold putS
  by_cases c : key ∈ allK ps
  · rw [if_pos (by exact inB'_iff.2 c)]
    refine ⟨h, fun k => ⟨.inl, ?_⟩⟩
    rintro (e | rfl)
    · exact e
    · exact c
  · rw [if_neg (by rw [inB'_iff]; exact c)]
    obtain ⟨p, h1, h2, h3, h4⟩ := GrowI.done (S := (D, ps)) h (hN seed key)
    have hk : key ∉ p.keys := by
      rw [← h1.key_at h3, h2]
      exact c
    obtain ⟨h5, h6⟩ := h1.add h3 h4 hk hs
    simp only
    rw [addS_eq h3]
    exact ⟨h5, fun k => by rw [h6, h2]⟩
end
end Go.Proofs.Ytkkijcnipjojoaa
