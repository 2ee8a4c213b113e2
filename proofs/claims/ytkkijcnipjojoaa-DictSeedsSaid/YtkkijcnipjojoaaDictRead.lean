/- Contracts of package dict: a hash's node; a node's table that has a key, that has room; a node's keys. -/
import Derived.Test.YtkkijcnipjojoaaDictOk
namespace Go.Proofs.Ytkkijcnipjojoaa
open Go.RowKit

section
variable {w : World} {db : Nat} {seed : Int} {D n dr dc : Nat} {nds : List Nd} {F : Nat → Prop}
set_option maxRecDepth 100000 in
set_option maxHeartbeats 1000000 in
theorem place_d (h : DMem w db seed D n dr dc nds F) (hD : D ≤ 16) (x : Int) (x0 : 0 ≤ x) (x1 : x < 18446744073709551616) :
    Calls Try.prog 65 #[.pointer (some ⟨db, 0, none⟩), .int .u64 x] w fun e w' => e = .returned (.pointer (some ⟨nodeOf nds (x.toNat % 2 ^ D), 0, none⟩)) ∧ ∃ m, w' = w.drewN m := by
  obtain ⟨_, c1, c2, _⟩ := h.cells
  have hj := Nat.mod_lt x.toNat (Nat.two_pow_pos D)
  have hd := h.dir _ hj
  have hlow : lowI x D = ((x.toNat % 2 ^ D : Nat) : Int) := by have := (low_toNat x D x0 (by omega) (by omega)).2; simpa using this
  have hp := pow16 hD
  generalize x.toNat % 2 ^ D = j at *
  generalize 2 ^ D = N at *
  have HL := Lib.hid hlow
  have HC := Lib.hid fun (W : World) => hlow ▸ low_any x D W x0 x1
  clear hlow h
  go_enter Try.func65, Try.ntmps65
  go_wp2
  go_quiet ((go_at_call 94; exact q_same (HC.out _)))
  go_wp2
  go_ret
  exact ⟨rfl, _, rfl⟩
end

theorem place_n {w : World} {db : Nat} {seed : Int} {D n dr dc : Nat} {nds : List Nd} {F : Nat → Prop} {M : ByteArray → Option Int} {L : Nat} (h : DMem w db seed D n dr dc nds F) (ho : DOk seed D nds M L) (key : ByteArray) :
    Calls Try.prog 65 #[.pointer (some ⟨db, 0, none⟩), .int .u64 (hk seed key)] w fun e w' => (∃ x, nds[pix (prts nds) (hN seed key)]? = some x ∧ e = .returned (.pointer (some ⟨x.b, 0, none⟩))) ∧ Below w.heap.size w w' := by
  have hb := hk_bd seed key
  refine (place_d h ho.ok.dmax (hk seed key) hb.1 hb.2).mono ?_
  rintro e w' ⟨rfl, m, rfl⟩
  obtain ⟨x, h1, h2, h3, h4⟩ := ho.node (hN seed key)
  refine ⟨⟨x, h1, ?_⟩, (IsDrew.one _ m).below _⟩
  have hd := ho.ok.dep x.p (ho.part h3)
  have hs : pix (prts nds) ((hk seed key).toNat % 2 ^ D) = pix (prts nds) (hN seed key) :=
    ho.ok.pix_same (y := hN seed key) (prts_get h1) (mod_le_pow hd)
  have he : nodeOf nds ((hk seed key).toNat % 2 ^ D) = nodeOf nds (hN seed key) := by unfold nodeOf; rw [hs]
  rw [he, h4]

section
variable {w : World} {seed : Int} {x : Nd}
theorem NdAt.tabs_at (h : NdAt w seed x) (j : Nat) (t : Tb) (ht : x.ts[j]? = some t) : w.cell? ⟨x.r, j, none⟩ = some (.pointer (some ⟨t.t, 0, none⟩)) := by
  have hj := (List.getElem?_eq_some_iff.1 ht).1
  rw [World.ownsRow.cellAt (cap := x.c) (n := x.ts.length) h.row j (by omega), List.getElem?_map, ht]; rfl
theorem mid_of {α : Type} {l : List α} {j : Nat} {t : α} (h : l[j]? = some t) : l = l.take j ++ t :: l.drop (j + 1) := by
  have hj := (List.getElem?_eq_some_iff.1 h).1
  have e : l[j] = t := (List.getElem?_eq_some_iff.1 h).2
  rw [← e, List.getElem_cons_drop, List.take_append_drop]
/-- The first of a node's tables of which something holds. -/
def FirstT (x : Nd) (p : Tb → Prop) (e : Ending) : Prop := (∃ a t b, x.ts = a ++ t :: b ∧ p t ∧ e = .returned (.pointer (some ⟨t.t, 0, none⟩))) ∨ ((∀ t ∈ x.ts, ¬ p t) ∧ e = .returned (.pointer none))

set_option maxRecDepth 100000 in
set_option maxHeartbeats 1000000 in
theorem find_d (h : NdAt w seed x) (key : ByteArray) (hk : key.size ≤ maxLen) :
    Calls Try.prog 66 #[.pointer (some ⟨x.b, 0, none⟩), .string key] w fun e w' => FirstT x (fun t => t.m key ≠ none) e ∧ Below w.heap.size w w' := by
  have HN := Lib.hid fun (W : World) (hb : Below w.heap.size w W) => h.later hb
  have hlen : x.ts.length ≤ maxLen := owns_maxLen h.row
  unfold maxLen at hlen
  obtain ⟨c0, c1⟩ := h.cells
  unfold Nd.lv at c1
  have HL : Hid (∀ t, x.ts[x.ts.length]? = some t → False) := fun t ht => by simp at ht
  clear h
  generalize hn : x.ts.length = n at *
  have HE := Lib.hid hn
  clear hn
  go_enter Try.func66, Try.ntmps66
  go_wp2
  go_loopw [14] (fun i wr => ∃ j : Nat, j ≤ n ∧ i = .int .i64 j ∧ (∀ t ∈ x.ts.take j, t.m key = none) ∧ Below w.heap.size w wr) (fun i _ => n - (intOf i).toNat)
  case atStart => exact ⟨0, by omega, rfl, by simp, Below.refl _ _⟩
  case round =>
    obtain ⟨j, hj, rfl, hno, hb⟩ := hrel
    have HO := Lib.hid hno
    have hbs := hb.size
    clear hno
    by_cases hlt : j < n
    · obtain ⟨t, ht⟩ : ∃ t, x.ts[j]? = some t := ⟨_, List.getElem?_eq_getElem (by rw [HE.out]; exact hlt)⟩
      have hN := HN.out wr hb
      have hc := hN.tabs_at j t ht
      have htm := List.mem_of_getElem? ht
      have HT := Lib.hid ht
      have HT2 : Hid (x.ts.take (j + 1) = x.ts.take j ++ [t]) := by unfold Hid; rw [List.take_add_one, ht]; rfl
      by_cases c : t.m key = none
      · have HG := Lib.hid (c ▸ get_tb wr (hN.tab t htm) key hk)
        have HC := Lib.hid c
        clear c hN ht htm
        go_wp2_with (go_at_call 22; refine HG.out.mono ?_; rintro e w3 ⟨rfl, hb3⟩)
        go_roundw
        case rel =>
          refine ⟨j + 1, by omega, by go_num, ?_, hb.trans (hb3.mono hbs)⟩
          rw [HT2.out]
          intro s hs
          rw [List.mem_append, List.mem_singleton] at hs
          rcases hs with hs | rfl
          · exact HO.out s hs
          · exact HC.out
        case measure => simp [intOf]; omega
      · obtain ⟨v, hv⟩ := ne_some c
        have HG := Lib.hid (hv ▸ get_tb wr (hN.tab t htm) key hk)
        have HC := Lib.hid c
        clear c hv hN ht htm
        go_wp2_with (go_at_call 22; refine HG.out.mono ?_; rintro e w3 ⟨rfl, hb3⟩)
        go_ret
        exact ⟨.inl ⟨_, t, _, mid_of HT.out, HC.out, rfl⟩, hb.trans (hb3.mono hbs)⟩
    · obtain rfl : j = n := by omega
      go_wp2
      go_ret
      refine ⟨.inr ⟨fun t ht c => c (HO.out t ?_), rfl⟩, hb⟩
      rw [List.take_of_length_le (by rw [HE.out]; omega)]; exact ht

set_option maxRecDepth 100000 in
set_option maxHeartbeats 1000000 in
theorem room_d (h : NdAt w seed x) (hC : ∀ t ∈ x.ts, Card t.m t.ks) (hf : ∀ t ∈ x.ts, t.ks.length ≤ 112) :
    Calls Try.prog 67 #[.pointer (some ⟨x.b, 0, none⟩)] w fun e w' => FirstT x (fun t => t.ks.length < 112) e ∧ w = w' := by
  have HN := Lib.hid h
  have hlen : x.ts.length ≤ maxLen := owns_maxLen h.row
  unfold maxLen at hlen
  obtain ⟨c0, c1⟩ := h.cells
  unfold Nd.lv at c1
  clear h
  have HA := Lib.hid hC
  have HF := Lib.hid hf
  clear hC hf
  generalize hn : x.ts.length = n at *
  have HE := Lib.hid hn
  clear hn
  go_enter Try.func67, Try.ntmps67
  go_wp2
  go_loop [10] (fun i => ∃ j : Nat, j ≤ n ∧ i = .int .i64 j ∧ (∀ t ∈ x.ts.take j, ¬ t.ks.length < 112)) (fun i => n - (intOf i).toNat)
  case atStart => exact ⟨0, by omega, rfl, by simp⟩
  case round =>
    obtain ⟨j, hj, rfl, hno⟩ := hrel
    have HO := Lib.hid hno
    clear hno
    by_cases hlt : j < n
    · obtain ⟨t, ht⟩ : ∃ t, x.ts[j]? = some t := ⟨_, List.getElem?_eq_getElem (by rw [HE.out]; exact hlt)⟩
      have hc := HN.out.tabs_at j t ht
      have htm := List.mem_of_getElem? ht
      have HT := Lib.hid ht
      have HT2 : Hid (x.ts.take (j + 1) = x.ts.take j ++ [t]) := by unfold Hid; rw [List.take_add_one, ht]; rfl
      have HG := Lib.hid (len_tb w (HN.out.tab t htm) (HA.out t htm))
      have hfl := HF.out t htm
      clear ht htm
      by_cases c : t.ks.length < 112
      · go_wp2_with (go_at_call 19; refine HG.out.mono ?_; rintro e w3 ⟨rfl, rfl⟩)
        go_ret
        exact ⟨.inl ⟨_, t, _, mid_of HT.out, c, rfl⟩, rfl⟩
      · go_wp2_with (go_at_call 19; refine HG.out.mono ?_; rintro e w3 ⟨rfl, rfl⟩)
        go_round
        case rel =>
          refine ⟨j + 1, by omega, by go_num, ?_⟩
          rw [HT2.out]
          intro s hs
          rw [List.mem_append, List.mem_singleton] at hs
          rcases hs with hs | rfl
          · exact HO.out s hs
          · exact c
        case measure => simp [intOf]; omega
    · obtain rfl : j = n := by omega
      go_wp2
      go_ret
      refine ⟨.inr ⟨fun t ht => HO.out t ?_, rfl⟩, rfl⟩
      rw [List.take_of_length_le (by rw [HE.out]; omega)]; exact ht
end
end Go.Proofs.Ytkkijcnipjojoaa
