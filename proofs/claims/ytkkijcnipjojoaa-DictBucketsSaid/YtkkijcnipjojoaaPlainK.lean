/- A table's keys as a list: each key once; their number. -/
import Derived.Test.YtkkijcnipjojoaaTabKeys
namespace Go.Proofs.Ytkkijcnipjojoaa
open Go.RowKit

theorem keysG_mem (S : Grps) (g n : Nat) (k : ByteArray) : k ∈ keysG S g n ↔ ∃ b, b < n ∧ bytI (S.w g) b < 128 ∧ S.k g b = k := by
  unfold keysG
  rw [List.mem_map]
  constructor
  · rintro ⟨q, hq, rfl⟩
    obtain ⟨q0, q1, q2⟩ := (slots_mem _ _ _ _).1 hq
    exact ⟨q.toNat, by omega, by simpa [isFull] using q2, rfl⟩
  · rintro ⟨b, hb, hf, rfl⟩
    exact ⟨(b : Int), (slots_mem _ _ _ _).2 ⟨by omega, by omega, by simpa [isFull] using hf⟩, by simp⟩
theorem keysL_mem (S : Grps) (g : Nat) (k : ByteArray) : k ∈ keysL S g ↔ ∃ a b, a < g ∧ b < 8 ∧ bytI (S.w a) b < 128 ∧ S.k a b = k := by
  induction g with
  | zero => simp [keysL]
  | succ g ih =>
    rw [keysL, List.mem_append, ih, keysG_mem]
    constructor
    · rintro (⟨a, b, ha, hb, hf, e⟩ | ⟨b, hb, hf, e⟩)
      · exact ⟨a, b, by omega, hb, hf, e⟩
      · exact ⟨g, b, by omega, hb, hf, e⟩
    · rintro ⟨a, b, ha, hb, hf, e⟩
      by_cases c : a = g
      · subst c; exact .inr ⟨b, hb, hf, e⟩
      · exact .inl ⟨a, b, by omega, hb, hf, e⟩

variable {seed : Int} {S : Grps} {m : ByteArray → Option Int}
theorem Good.fresh (h : Good seed S m) (g i : Nat) (hg : g < S.G) (hi : i < 8) (hf : bytI (S.w g) i < 128) : S.k g i ∉ keysV S g i := by
  unfold keysV
  rw [List.mem_append, keysL_mem, keysG_mem]
  rintro (⟨a, b, ha, hb, hfa, e⟩ | ⟨b, hb, hfb, e⟩)
  · have := (h.inj a b g i (by omega) hb hfa hg hi hf e).1; omega
  · have := (h.inj g b g i hg (by omega) hfb hg hi hf e).2; omega
theorem Good.nodupV (h : Good seed S m) (g : Nat) (hg : g < S.G) (hL : (keysL S g).Nodup) (i : Nat) (hi : i ≤ 8) : (keysV S g i).Nodup := by
  induction i with
  | zero => rw [keysV_zero]; exact hL
  | succ i ih =>
    by_cases hf : bytI (S.w g) i < 128
    · rw [keysV_add _ _ _ hf, List.nodup_append]
      refine ⟨ih (by omega), by simp, fun a ha b hb => ?_⟩
      rw [List.mem_singleton] at hb
      subst hb
      rintro rfl
      exact h.fresh g i hg (by omega) hf ha
    · rw [keysV_skip _ _ _ hf]; exact ih (by omega)
theorem Good.nodupL (h : Good seed S m) (g : Nat) (hg : g ≤ S.G) : (keysL S g).Nodup := by
  induction g with
  | zero => exact List.nodup_nil
  | succ g ih => exact h.nodupV g (by omega) (ih (by omega)) 8 (by omega)
theorem Good.keys_nodup (h : Good seed S m) : (keysL S S.G).Nodup := h.nodupL _ (Nat.le_refl _)
theorem Good.keys_mem (h : Good seed S m) (k : ByteArray) : k ∈ keysL S S.G ↔ m k ≠ none := by
  rw [keysL_mem]
  constructor
  · rintro ⟨a, b, ha, hb, hf, rfl⟩
    rw [h.val a b ha hb hf]; simp
  · intro hk
    cases hm : m k with
    | none => exact absurd hm hk
    | some x => exact h.dom k x hm
theorem Good.count (h : Good seed S m) (l : List ByteArray) (hl : l.Nodup) (hm : ∀ k, k ∈ l ↔ m k ≠ none) : cnt isFull S.w S.G = l.length ∧ (keysL S S.G).Perm l := by
  have hp : (keysL S S.G).Perm l := (List.perm_ext_iff_of_nodup h.keys_nodup hl).2 fun k => by rw [h.keys_mem, hm]
  exact ⟨by rw [← keysL_len, hp.length_eq], hp⟩
theorem Good.count_le (h : Good seed S m) (l : List ByteArray) (hm : ∀ k, m k ≠ none → k ∈ l) : cnt isFull S.w S.G ≤ l.length := by
  rw [← keysL_len]
  exact List.Nodup.length_le_of_subset h.keys_nodup fun k hk => hm k ((h.keys_mem k).1 hk)
end Go.Proofs.Ytkkijcnipjojoaa
