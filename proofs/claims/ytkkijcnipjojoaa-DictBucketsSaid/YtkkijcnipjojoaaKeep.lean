/- Contracts of tallboykeep: how often a text is among others; the same texts in any order. -/
import Derived.Test.YtkkijcnipjojoaaStrs
import Derived.BigQuiet
import Derived.Deep.QuietTactic
import Derived.Lib.Hide
namespace Go.Proofs.Ytkkijcnipjojoaa
open Go.RowKit

/-- How often a text is among others. -/
def timesL (l : List ByteArray) (s : ByteArray) : Nat := (l.filter fun x => decide (x = s)).length
theorem times_snoc (l : List ByteArray) (x s : ByteArray) : timesL (l ++ [x]) s = timesL l s + if x = s then 1 else 0 := by
  unfold timesL
  rw [List.filter_append, List.length_append]
  by_cases h : x = s <;> simp [h]
theorem times_le (l : List ByteArray) (s : ByteArray) : timesL l s ≤ l.length := List.length_filter_le _ _
theorem times_perm {a b : List ByteArray} (h : a.Perm b) (s : ByteArray) : timesL a s = timesL b s := (h.filter _).length_eq
theorem times_zero {l : List ByteArray} {s : ByteArray} : timesL l s = 0 ↔ s ∉ l := by
  unfold timesL
  rw [List.length_eq_zero_iff, List.filter_eq_nil_iff]
  simp only [decide_eq_true_eq]
  exact ⟨fun h hs => h s hs rfl, fun h a ha e => h (e ▸ ha)⟩

theorem str_ne {a b : ByteArray} (h : a ≠ b) : (a.toList == b.toList) = false := by
  rw [ByteArray.toList_eq, ByteArray.toList_eq]
  simp only [beq_eq_false_iff_ne]
  intro e
  exact h (ByteArray.ext (Array.toList_inj.1 e))

/-- A slice that reads as texts. -/
abbrev ReadsS (w : World) (v : Value) (zs : List ByteArray) : Prop := ReadsV w v (zs.map Value.string)
theorem ReadsV.len {w : World} {v : Value} {zs : List ByteArray} (h : ReadsS w v zs) : ∃ a c, v = .slice a zs.length c ∧ zs.length ≤ maxLen ∧ ∀ i x, zs[i]? = some x → ∃ b off, a = some ⟨b, off, none⟩ ∧ w.cell? ⟨b, off + i, none⟩ = some (.string x) := by
  obtain ⟨a, c, h1, h2, h3⟩ := h
  refine ⟨a, c, by simpa using h1, by simpa using h2, fun i x hx => ?_⟩
  obtain ⟨b, off, e1, e2⟩ := h3 i (.string x) (by simp [hx])
  exact ⟨b, off, e1, e2⟩
theorem ReadsV.below {w w' : World} {v : Value} {zs : List Value} (h : ReadsV w v zs) (hw : ∀ b o, v.ownBlock = some b → w'.cell? ⟨b, o, none⟩ = w.cell? ⟨b, o, none⟩) : ReadsV w' v zs := by
  obtain ⟨a, c, h1, h2, h3⟩ := h
  refine ⟨a, c, h1, h2, fun i x hx => ?_⟩
  obtain ⟨b, off, e1, e2⟩ := h3 i x hx
  refine ⟨b, off, e1, ?_⟩
  rw [hw b _ (by rw [h1, e1]; rfl), e2]

set_option maxRecDepth 100000 in
set_option maxHeartbeats 1000000 in
theorem times_any (w : World) (v : Value) (zs : List ByteArray) (s : ByteArray) (hr : ReadsS w v zs) :
    Calls Try.prog 27 #[v, .string s] w fun e w' => e = .returned (.int .i64 (timesL zs s : Nat)) ∧ w = w' := by
  obtain ⟨a, c, rfl, hl, hc⟩ := hr.len
  have HC := Lib.hid hc
  unfold maxLen at hl
  clear hc hr
  go_enter Try.func27, Try.ntmps27
  go_wp2
  go_loop [5, 6] (fun n i => ∃ k : Nat, k ≤ zs.length ∧ i = .int .i64 k ∧ n = .int .i64 (timesL (zs.take k) s : Nat)) (fun _ i => zs.length - (intOf i).toNat)
  case atStart => exact ⟨0, by omega, rfl, rfl⟩
  case round =>
    obtain ⟨k, hk, rfl, rfl⟩ := hrel
    have ht := times_le (zs.take k) s
    rw [List.length_take] at ht
    by_cases hlt : k < zs.length
    · obtain ⟨q, hq⟩ : ∃ q, zs[k]? = some q := ⟨zs[k], List.getElem?_eq_getElem hlt⟩
      have HS : Hid (timesL (zs.take (k + 1)) s = timesL (zs.take k) s + if q = s then 1 else 0) := by
        unfold Hid; rw [List.take_add_one, hq]; exact times_snoc _ _ _
      obtain ⟨b, off, hab, hcell⟩ := HC.out k q hq
      subst hab
      clear hq
      by_cases ce : q = s
      · subst ce
        go_wp2
        go_round
        case rel => exact ⟨k + 1, by omega, by go_num, by rw [HS.out, if_pos rfl]; go_num⟩
        case measure => simp [intOf]; omega
      · have HE := str_ne ce
        go_wp2
        go_round
        case rel => exact ⟨k + 1, by omega, by go_num, by rw [HS.out, if_neg ce]; rfl⟩
        case measure => simp [intOf]; omega
    · obtain rfl : k = zs.length := by omega
      rw [List.take_length]
      go_wp2
      go_ret
      exact ⟨rfl, rfl⟩

theorem q_sameK {P : Program} {f : FuncId} {args : Array Value} {w : World} {n : Nat} {v : Value}
    (h : Calls P f args (w.drewN n) fun e w' => e = .returned v ∧ w.drewN n = w') : Calls P f args (w.drewN n) fun e w'' => e = .returned v ∧ ∃ m, w'' = w.drewN m :=
  h.mono fun _ _ ⟨he, hm⟩ => ⟨he, n, hm.symm⟩

set_option maxRecDepth 100000 in
set_option maxHeartbeats 1000000 in
theorem bag_yes (w : World) (v u : Value) (zs ys : List ByteArray) (hv : ReadsS w v zs) (hu : ReadsS w u ys) (hp : zs.Perm ys) :
    Calls Try.prog 25 #[v, u] w fun e w' => e = .returned (.bool true) ∧ IsDrew w w' := by
  obtain ⟨a, c, rfl, hl, hc⟩ := hv.len
  obtain ⟨a2, c2, rfl, _, _⟩ := hu.len
  have hlen := hp.length_eq
  rw [← hlen] at hu ⊢
  have HC := Lib.hid fun (W : World) (hd : IsDrew w W) i x (hx : zs[i]? = some x) => (by obtain ⟨n, rfl⟩ := hd; exact hc i x hx : ∃ b off, a = some ⟨b, off, none⟩ ∧ W.cell? ⟨b, off + i, none⟩ = some (.string x))
  have HV := Lib.hid fun (W : World) (hd : IsDrew w W) => (by obtain ⟨n, rfl⟩ := hd; exact hv : ReadsS W (.slice a zs.length c) zs)
  have HU := Lib.hid fun (W : World) (hd : IsDrew w W) => (by obtain ⟨n, rfl⟩ := hd; exact hu : ReadsV W (.slice a2 zs.length c2) (ys.map Value.string))
  have HP := Lib.hid fun s => times_perm hp s
  unfold maxLen at hl
  clear hc hv hu hp hlen
  go_enter Try.func25, Try.ntmps25
  go_wp2
  go_loopw [5] (fun i wr => ∃ k : Nat, k ≤ zs.length ∧ i = .int .i64 k ∧ IsDrew w wr) (fun i _ => zs.length - (intOf i).toNat)
  case atStart => exact ⟨0, by omega, rfl, IsDrew.refl _⟩
  case round =>
    obtain ⟨k, hk, rfl, hd⟩ := hrel
    by_cases hlt : k < zs.length
    · obtain ⟨q, hq⟩ : ∃ q, zs[k]? = some q := ⟨zs[k], List.getElem?_eq_getElem hlt⟩
      obtain ⟨b, off, hab, hcell⟩ := HC.out wr hd k q hq
      subst hab
      clear hq
      have HA := Lib.hid fun m : Nat => times_any (wr.drewN m) _ zs q (HV.out _ (hd.trans (IsDrew.one _ _)))
      have HB := Lib.hid fun m : Nat => times_any (wr.drewN m) _ ys q (HU.out _ (hd.trans (IsDrew.one _ _)))
      rw [← HP.out q] at HB
      go_wp2
      go_quiet ((first | (go_at_call 27; (with_reducible exact q_sameK (HA.out _))) | (go_at_call 27; with_reducible exact q_sameK (HB.out _))))
      go_wp2
      go_roundw
      case rel => exact ⟨k + 1, by omega, by go_num, hd.trans (IsDrew.one _ _)⟩
      case measure => simp [intOf]; omega
    · obtain rfl : k = zs.length := by omega
      go_wp2
      go_ret
      exact ⟨rfl, hd⟩
end Go.Proofs.Ytkkijcnipjojoaa
