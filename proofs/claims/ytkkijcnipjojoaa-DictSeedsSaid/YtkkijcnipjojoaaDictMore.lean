/- A dict in memory: a table more in a node. -/
import Derived.Test.YtkkijcnipjojoaaDictHalf
namespace Go.Proofs.Ytkkijcnipjojoaa
open Go.RowKit

section
variable {w : World} {db : Nat} {seed : Int} {D n dr dc : Nat} {nds : List Nd} {F F' : Nat → Prop} {M : ByteArray → Option Int} {L : Nat}
theorem DMem.more {w2 w3 : World} {i tb gb g cap len : Nat} {x : Nd} (h : DMem w db seed D n dr dc nds F) (hi : nds[i]? = some x) (hb : Below w.heap.size w w2) (hT : TB w2 tb gb seed (fun _ => none)) (ht : w.heap.size ≤ tb) (hg : w.heap.size ≤ gb) (hlen : x.ts.length = len)
    (h2 : w3.ownsRow 0 23 1 (.slice (some ⟨g, 0, none⟩) (len + 1) cap) (len + 1) (x.ts.map tabV ++ [.pointer (some ⟨tb, 0, none⟩)])) (h3 : w2.grownBy w3 (some x.r)) (h4 : some x.r = some g ∨ g = w2.heap.size) (h5 : g < w3.heap.size) :
    ∃ F', DMem (w3.setCell ⟨x.b, 1, none⟩ (.slice (some ⟨g, 0, none⟩) (len + 1) cap)) db seed D n dr dc (nds.set i ⟨x.b, g, cap, x.p, x.ts ++ [⟨tb, gb, fun _ => none, []⟩]⟩) F' ∧ Fr w (w3.setCell ⟨x.b, 1, none⟩ (.slice (some ⟨g, 0, none⟩) (len + 1) cap)) F F' := by
  subst hlen
  have hxm := List.mem_of_getElem? hi
  have hW := h.step hb
  have hN := hW.nd x hxm
  have hlt : ∀ k, x.has k → k < w.heap.size := fun k hk => h.flt k (h.nf x hxm k hk)
  have hxb := hlt x.b (.inl rfl)
  have hxr := hlt x.r (.inr (.inl rfl))
  have hs2 := hb.size
  have hs3 := h3.size
  obtain ⟨cl, fl, hl⟩ := row_block hN.row
  have hbr : x.b ≠ x.r := type_ne hN.blk hl (by decide)
  have hgb : g ≠ x.b := by
    rcases h4 with e | e
    · simp only [Option.some.injEq] at e; omega
    · omega
  have e1 : w3.heap[x.b]? = some (.cells #[.int .i64 (x.p.dep : Nat), x.lv] 96 (0, 0)) := (h3.block _ (by omega) (by simp only [ne_eq, Option.some.injEq]; exact hbr)).trans hN.blk
  have eo : ∀ k, k ≠ x.b → (w3.setCell ⟨x.b, 1, none⟩ (.slice (some ⟨g, 0, none⟩) (x.ts.length + 1) cap)).heap[k]? = w3.heap[k]? := fun k hk => heap_setCell_other _ _ _ _ (by exact hk)
  have hsz : (w3.setCell ⟨x.b, 1, none⟩ (.slice (some ⟨g, 0, none⟩) (x.ts.length + 1) cap)).heap.size = w3.heap.size := by simp [World.setCell]
  have keep : ∀ k, k < w2.heap.size → k ≠ x.b → k ≠ x.r → (w3.setCell ⟨x.b, 1, none⟩ (.slice (some ⟨g, 0, none⟩) (x.ts.length + 1) cap)).heap[k]? = w2.heap[k]? := fun k hk h1 h2 => by
    rw [eo k h1]; exact h3.block k hk (by simp only [ne_eq, Option.some.injEq]; exact h2)
  have lT := hT.lt
  obtain ⟨⟨_, _, tyt⟩, ⟨_, _, tyg⟩⟩ := hT.types
  have hX : NdAt (w3.setCell ⟨x.b, 1, none⟩ (.slice (some ⟨g, 0, none⟩) (x.ts.length + 1) cap)) seed ⟨x.b, g, cap, x.p, x.ts ++ [⟨tb, gb, fun _ => none, []⟩]⟩ := by
    have hl' : (x.ts ++ [(⟨tb, gb, fun _ => none, []⟩ : Tb)]).length = x.ts.length + 1 := by simp
    refine ⟨?_, ?_, ?_⟩
    · unfold Nd.lv; simp only; rw [hl', heap_setCell_same _ _ _ _ _ _ e1]; rfl
    · unfold Nd.lv; simp only; rw [hl', List.map_append]
      exact row_kept h2 (eo g hgb)
    · intro s hs
      rw [List.mem_append, List.mem_singleton] at hs
      rcases hs with hs | rfl
      · have q := hN.tab s hs
        have l1 := hlt s.t (.inr (.inr ⟨s, hs, .inl rfl⟩))
        have l2 := hlt s.g (.inr (.inr ⟨s, hs, .inr rfl⟩))
        obtain ⟨⟨_, _, qt⟩, ⟨_, _, qg⟩⟩ := q.types
        exact q.kept (keep _ (by omega) (type_ne qt hN.blk (by decide)) (type_ne qt hl (by decide))) (keep _ (by omega) (type_ne qg hN.blk (by decide)) (type_ne qg hl (by decide)))
      · exact hT.kept (keep _ lT.1 (by omega) (by omega)) (keep _ lT.2.1 (by omega) (by omega))
  have hgF : F g ∨ w.heap.size ≤ g := by
    rcases h4 with e | e
    · simp only [Option.some.injEq] at e; rw [← e]; exact .inl (h.nf x hxm _ (.inr (.inl rfl)))
    · exact .inr (by omega)
  refine ⟨fun k => F k ∨ (w.heap.size ≤ k ∧ k < w3.heap.size), hW.renode hi rfl rfl rfl hX (fun k hk hn => keep k hk (fun e => hn (.inl e)) (fun e => hn (.inr (.inl e)))) ?_ ?_ (fun k hk => .inl hk) ?_, ?_⟩
  · intro j y hj hne
    have hym := List.mem_of_getElem? hj
    obtain ⟨a1, a2, a3⟩ := h.ap i j x y hi hj (fun e => hne e.symm)
    have yr := h.flt _ (h.nf y hym y.r (.inr (.inl rfl)))
    have gr : g ≠ y.r := by
      rcases h4 with e | e
      · simp only [Option.some.injEq] at e; rw [← e]; exact a2
      · omega
    have key : ∀ s ∈ x.ts ++ [(⟨tb, gb, fun _ => none, []⟩ : Tb)], ∀ u ∈ y.ts, s.t ≠ u.t ∧ s.g ≠ u.g := by
      intro s hs u hu
      rw [List.mem_append, List.mem_singleton] at hs
      rcases hs with hs | rfl
      · exact a3 s hs u hu
      · have l1 := h.flt _ (h.nf y hym u.t (.inr (.inr ⟨u, hu, .inl rfl⟩)))
        have l2 := h.flt _ (h.nf y hym u.g (.inr (.inr ⟨u, hu, .inr rfl⟩)))
        simp only; omega
    exact ⟨⟨a1, gr, key⟩, ⟨fun e => a1 e.symm, fun e => gr e.symm, fun u hu s hs => ⟨fun e => (key s hs u hu).1 e.symm, fun e => (key s hs u hu).2 e.symm⟩⟩⟩
  · rintro k (e | e | ⟨s, hs, e⟩)
    · exact .inl (h.nf x hxm k (.inl e))
    · simp only at e; subst e
      rcases hgF with q | q
      · exact .inl q
      · exact .inr ⟨q, h5⟩
    · simp only at hs
      rw [List.mem_append, List.mem_singleton] at hs
      rcases hs with hs | rfl
      · exact .inl (h.nf x hxm k (.inr (.inr ⟨s, hs, e⟩)))
      · simp only at e
        rcases e with e | e <;> exact .inr (by omega)
  · intro k hk
    rw [hsz]
    rcases hk with e | e
    · have := h.flt k e; omega
    · exact e.2
  · refine ⟨h3.os.trans hb.os, h3.tape.trans hb.tape, h3.output.trans hb.output, by rw [hsz]; omega, fun k hk hf => ?_, fun k hk => by rcases hk with e | e; exact .inl e; exact .inr e.1⟩
    rw [keep k (by omega) (fun e => hf (h.nf x hxm _ (.inl e))) (fun e => hf (h.nf x hxm _ (.inr (.inl e))))]
    exact hb.block k hk

theorem GrowI.len {x : Nat} {S T : Nat × List PartR} (h : GrowI seed x S T) (hS : SOk seed S.1 S.2) : (allK T.2).length = (allK S.2).length :=
  ((List.perm_ext_iff_of_nodup h.ok.allK_nodup hS.allK_nodup).2 h.all).length_eq
theorem NdOk.one_len {x : Nd} (h : NdOk M x) (hd : x.p.dep < 16) : ∃ t, x.ts = [t] ∧ x.p.keys.length = t.ks.length := by
  obtain ⟨t, ht⟩ := List.length_eq_one_iff.1 (h.one hd)
  refine ⟨t, ht, ?_⟩
  have := h.perm.length_eq
  rw [ht] at this
  simp [flatT] at this
  omega
theorem room_yes {x : Nd} (h : NdAt w seed x) (hC : ∀ t ∈ x.ts, Card t.m t.ks) (hf : ∀ t ∈ x.ts, t.ks.length ≤ 112) (hyes : ∃ t ∈ x.ts, t.ks.length < 112) :
    Calls Try.prog 67 #[.pointer (some ⟨x.b, 0, none⟩)] w fun e w' => (∃ a t b, x.ts = a ++ t :: b ∧ t.ks.length < 112 ∧ e = .returned (.pointer (some ⟨t.t, 0, none⟩))) ∧ w = w' := by
  refine (room_d h hC hf).mono ?_
  rintro e w' ⟨h1 | ⟨h1, _⟩, hb⟩
  · exact ⟨h1, hb⟩
  · obtain ⟨t, ht, hc⟩ := hyes
    exact absurd hc (h1 t ht)
theorem room_no {x : Nd} (h : NdAt w seed x) (hC : ∀ t ∈ x.ts, Card t.m t.ks) (hf : ∀ t ∈ x.ts, t.ks.length ≤ 112) (hno : ∀ t ∈ x.ts, ¬ t.ks.length < 112) :
    Calls Try.prog 67 #[.pointer (some ⟨x.b, 0, none⟩)] w fun e w' => e = .returned (.pointer none) ∧ w = w' := by
  refine (room_d h hC hf).mono ?_
  rintro e w' ⟨⟨a, t, b, hx, hk, _⟩ | ⟨_, rfl⟩, hb⟩
  · exact absurd hk (hno t (by rw [hx]; simp))
  · exact ⟨rfl, hb⟩
end
end Go.Proofs.Ytkkijcnipjojoaa
