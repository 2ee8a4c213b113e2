/- The document's dict: contract of its split. -/
import Derived.Test.YtkkijcnipjojoaaRefM
import Derived.Test.YtkkijcnipjojoaaDictD
import Derived.BigQuiet
import Derived.BigRegion
import Derived.Deep.CutRange
import Derived.Deep.LoopGhost
namespace Go.Proofs.Ytkkijcnipjojoaa
open Go.RowKit

/-- What stands while a part is split: the part and its two halves in blocks of the call's own. -/
structure CutI (w W : World) (H rb rr rc : Nat) (seed : Int) (D : Nat) (qs : List (PartR × Value)) (G : Nat → Prop) (p : PartR) (v va vb : Value) (la lb : List ByteArray) : Prop where
  hH : w.heap.size = H
  mem : RMem W rb rr rc seed D qs G
  fr : Fr w W G G
  glt : ∀ k, G k → k < H
  sz : H + 3 ≤ W.heap.size
  bp : W.heap[H]? = some (.cells #[.int .i64 (p.dep : Nat), .int .u64 (p.bits : Nat), v] 107 (0, 0))
  ba : W.heap[H + 1]? = some (.cells #[.int .i64 ((p.dep + 1 : Nat) : Int), .int .u64 (p.bits : Nat), va] 107 (0, 0))
  bb : W.heap[H + 2]? = some (.cells #[.int .i64 ((p.dep + 1 : Nat) : Int), .int .u64 ((p.bits + 2 ^ p.dep : Nat) : Int), vb] 107 (0, 0))
  oa : W.ownsRow (H + 3) 9 1 va la.length (la.map Value.string)
  ob : W.ownsRow (H + 3) 9 1 vb lb.length (lb.map Value.string)
  ap : ∀ q, va.ownBlock = some q → vb.ownBlock ≠ some q
section
variable {w W W' : World} {H rb rr rc : Nat} {seed : Int} {D : Nat} {qs : List (PartR × Value)} {G : Nat → Prop} {p : PartR} {v va vb : Value} {la lb : List ByteArray}
theorem CutI.step (h : CutI w W H rb rr rc seed D qs G p v va vb la lb) (hb : Below W.heap.size W W') : CutI w W' H rb rr rc seed D qs G p v va vb la lb := by
  have hs := hb.size
  have s := h.sz
  exact ⟨h.hH, h.mem.step hb, h.fr.trans (Fr.of_below hb G), h.glt, by omega, (hb.block _ (by omega)).trans h.bp, (hb.block _ (by omega)).trans h.ba, (hb.block _ (by omega)).trans h.bb, owns_later h.oa hb, owns_later h.ob hb, h.ap⟩
theorem CutI.growA {g n cap : Nat} {key : ByteArray} (h : CutI w W H rb rr rc seed D qs G p v va vb la lb) (hn : la.length = n) (h2 : W'.ownsRow (H + 3) 9 1 (.slice (some ⟨g, 0, none⟩) (n + 1) cap) (n + 1) (la.map Value.string ++ [.string key])) (h3 : W.grownBy W' va.ownBlock) (h4 : va.ownBlock = some g ∨ g = W.heap.size) :
    CutI w (W'.setCell ⟨H + 1, 2, none⟩ (.slice (some ⟨g, 0, none⟩) (n + 1) cap)) H rb rr rc seed D qs G p v (.slice (some ⟨g, 0, none⟩) (n + 1) cap) vb (la ++ [key]) lb := by
  subst hn
  have hs := h3.size
  have s := h.sz
  have hH := h.hH
  have hlt := h2.lt g rfl
  have hva : ∀ k, k < H + 3 → some k ≠ va.ownBlock := fun k hk e => by have := (h.oa.lt k e.symm).1; omega
  have hk : ∀ k, k ≠ H + 1 → (W'.setCell ⟨H + 1, 2, none⟩ (.slice (some ⟨g, 0, none⟩) (la.length + 1) cap)).heap[k]? = W'.heap[k]? := fun k hk => heap_setCell_other _ _ _ _ (by exact hk)
  have e1 := (h3.block (H + 1) (by omega) (hva _ (by omega))).trans h.ba
  refine ⟨h.hH, h.mem.stay (by simpa [World.setCell] using hs) fun k hG => ?_, ⟨h3.os.trans h.fr.os, h3.tape.trans h.fr.tape, h3.output.trans h.fr.output, ?_, fun k hk1 hG => ?_, fun k hk => .inl hk⟩, h.glt, ?_, ?_, ?_, ?_, ?_, ?_, ?_⟩
  · have := h.glt k hG
    rw [hk k (by omega)]
    exact h3.block k (by omega) (hva k (by omega))
  · have := h.fr.size
    simp [World.setCell]; omega
  · have := h.fr.size
    rw [hk k (by omega), h3.block k (by omega) (hva k (by omega))]
    exact h.fr.block k hk1 hG
  · simp [World.setCell]; omega
  · rw [hk _ (by omega)]; exact (h3.block H (by omega) (hva _ (by omega))).trans h.bp
  · rw [heap_setCell_same _ _ _ _ _ _ e1]; rfl
  · rw [hk _ (by omega)]; exact (h3.block (H + 2) (by omega) (hva _ (by omega))).trans h.bb
  · rw [List.length_append, List.length_singleton, List.map_append]
    exact row_kept h2 (hk g (by omega))
  · refine owns_block h.ob fun q hq => ?_
    have hql := h.ob.lt q hq
    rw [hk q (by omega)]
    exact h3.block q hql.2 (fun e => h.ap q e.symm hq)
  · intro q hq hb
    simp only [Value.ownBlock, Option.some.injEq] at hq
    subst hq
    rcases h4 with e | e
    · exact h.ap _ e hb
    · have := (h.ob.lt _ hb).2; omega
theorem CutI.growB {g n cap : Nat} {key : ByteArray} (h : CutI w W H rb rr rc seed D qs G p v va vb la lb) (hn : lb.length = n) (h2 : W'.ownsRow (H + 3) 9 1 (.slice (some ⟨g, 0, none⟩) (n + 1) cap) (n + 1) (lb.map Value.string ++ [.string key])) (h3 : W.grownBy W' vb.ownBlock) (h4 : vb.ownBlock = some g ∨ g = W.heap.size) :
    CutI w (W'.setCell ⟨H + 2, 2, none⟩ (.slice (some ⟨g, 0, none⟩) (n + 1) cap)) H rb rr rc seed D qs G p v va (.slice (some ⟨g, 0, none⟩) (n + 1) cap) la (lb ++ [key]) := by
  subst hn
  have hs := h3.size
  have s := h.sz
  have hH := h.hH
  have hlt := h2.lt g rfl
  have hva : ∀ k, k < H + 3 → some k ≠ vb.ownBlock := fun k hk e => by have := (h.ob.lt k e.symm).1; omega
  have hk : ∀ k, k ≠ H + 2 → (W'.setCell ⟨H + 2, 2, none⟩ (.slice (some ⟨g, 0, none⟩) (lb.length + 1) cap)).heap[k]? = W'.heap[k]? := fun k hk => heap_setCell_other _ _ _ _ (by exact hk)
  have e1 := (h3.block (H + 2) (by omega) (hva _ (by omega))).trans h.bb
  refine ⟨h.hH, h.mem.stay (by simpa [World.setCell] using hs) fun k hG => ?_, ⟨h3.os.trans h.fr.os, h3.tape.trans h.fr.tape, h3.output.trans h.fr.output, ?_, fun k hk1 hG => ?_, fun k hk => .inl hk⟩, h.glt, ?_, ?_, ?_, ?_, ?_, ?_, ?_⟩
  · have := h.glt k hG
    rw [hk k (by omega)]
    exact h3.block k (by omega) (hva k (by omega))
  · have := h.fr.size
    simp [World.setCell]; omega
  · have := h.fr.size
    rw [hk k (by omega), h3.block k (by omega) (hva k (by omega))]
    exact h.fr.block k hk1 hG
  · simp [World.setCell]; omega
  · rw [hk _ (by omega)]; exact (h3.block H (by omega) (hva _ (by omega))).trans h.bp
  · rw [hk _ (by omega)]; exact (h3.block (H + 1) (by omega) (hva _ (by omega))).trans h.ba
  · rw [heap_setCell_same _ _ _ _ _ _ e1]; rfl
  · refine owns_block h.oa fun q hq => ?_
    have hql := h.oa.lt q hq
    rw [hk q (by omega)]
    exact h3.block q hql.2 (fun e => h.ap q hq e.symm)
  · rw [List.length_append, List.length_singleton, List.map_append]
    exact row_kept h2 (hk g (by omega))
  · intro q hq hb
    simp only [Value.ownBlock, Option.some.injEq] at hb
    subst hb
    rcases h4 with e | e
    · exact h.ap _ hq e
    · have := (h.oa.lt _ hq).2; omega
theorem CutI.setD (h : CutI w W H rb rr rc seed D qs G p v va vb la lb) (D' : Nat) : CutI w (W.setCell ⟨rb, 1, none⟩ (.int .i64 (D' : Nat))) H rb rr rc seed D' qs G p v va vb la lb := by
  have hrb := h.glt _ h.mem.grb
  have hk : ∀ k, k ≠ rb → (W.setCell ⟨rb, 1, none⟩ (.int .i64 (D' : Nat))).heap[k]? = W.heap[k]? := fun k hk => heap_setCell_other _ _ _ _ (by exact hk)
  refine ⟨h.hH, h.mem.setD D', Fr.store2 h.fr _ _ h.mem.grb fun k hk => .inl hk, h.glt, by simpa [World.setCell] using h.sz, (hk _ (by omega)).trans h.bp, (hk _ (by omega)).trans h.ba, (hk _ (by omega)).trans h.bb, owns_block h.oa fun q hq => hk q ?_, owns_block h.ob fun q hq => hk q ?_, h.ap⟩
  · have := (h.oa.lt q hq).1; omega
  · have := (h.ob.lt q hq).1; omega
theorem CutI.cells (h : CutI w W H rb rr rc seed D qs G p v va vb la lb) : (W.cell? ⟨H, 0, none⟩ = some (.int .i64 (p.dep : Nat)) ∧ W.cell? ⟨H, 1, none⟩ = some (.int .u64 (p.bits : Nat)) ∧ W.cell? ⟨H, 2, none⟩ = some v) ∧ (W.cell? ⟨H + 1, 0, none⟩ = some (.int .i64 ((p.dep + 1 : Nat) : Int)) ∧ W.cell? ⟨H + 1, 1, none⟩ = some (.int .u64 (p.bits : Nat)) ∧ W.cell? ⟨H + 1, 2, none⟩ = some va) ∧
    (W.cell? ⟨H + 2, 0, none⟩ = some (.int .i64 ((p.dep + 1 : Nat) : Int)) ∧ W.cell? ⟨H + 2, 1, none⟩ = some (.int .u64 ((p.bits + 2 ^ p.dep : Nat) : Int)) ∧ W.cell? ⟨H + 2, 2, none⟩ = some vb) ∧ W.frozen? ⟨H + 1, 2, none⟩ = false ∧ W.frozen? ⟨H + 2, 2, none⟩ = false := by
  refine ⟨⟨?_, ?_, ?_⟩, ⟨?_, ?_, ?_⟩, ⟨?_, ?_, ?_⟩, ?_, ?_⟩
  iterate 3 (focus (rw [cell_of_row _ _ _ _ _ _ h.bp]; rfl))
  iterate 3 (focus (rw [cell_of_row _ _ _ _ _ _ h.ba]; rfl))
  iterate 3 (focus (rw [cell_of_row _ _ _ _ _ _ h.bb]; rfl))
  · unfold World.frozen?; rw [h.ba]; rfl
  · unfold World.frozen?; rw [h.bb]; rfl
end

theorem or_bit {b d : Nat} (hb : b < 2 ^ d) (hd : d < 16) : bits .or .u64 (b : Int) (IntKind.u64.wrap (2 ^ d)) = ((b + 2 ^ d : Nat) : Int) := by
  have hp : 2 ^ d ≤ 65536 := pow16 (by omega)
  have h2 : ((2 : Int) ^ d) = ((2 ^ d : Nat) : Int) := by simp
  rw [h2]
  have hw : IntKind.u64.wrap ((2 ^ d : Nat) : Int) = ((2 ^ d : Nat) : Int) := IntWalk.u64_in _ (by omega)
  rw [hw]
  have e : b + 2 ^ d = b ||| 2 ^ d := by
    have := Nat.two_pow_add_eq_or_of_lt hb 1
    rw [Nat.mul_one] at this
    rw [Nat.add_comm, this, Nat.or_comm]
  have n1 : (BitVec.ofInt 64 (b : Int)).toNat = b := by rw [BitVec.ofInt_natCast, BitVec.toNat_ofNat]; exact Nat.mod_eq_of_lt (by omega)
  have n2 : (BitVec.ofInt 64 ((2 ^ d : Nat) : Int)).toNat = 2 ^ d := by rw [BitVec.ofInt_natCast, BitVec.toNat_ofNat]; exact Nat.mod_eq_of_lt (by omega)
  show IntKind.u64.wrap ((BitVec.ofInt 64 (b : Int) ||| BitVec.ofInt 64 ((2 ^ d : Nat) : Int)).toNat : Int) = _
  rw [BitVec.toNat_or, n1, n2, ← e]
  exact IntWalk.u64_in _ (by omega)
theorem bit_u64 (j d : Nat) (h : j < 18446744073709551616) : bits .and .u64 ((j : Int) / 2 ^ d) 1 = ((j / 2 ^ d % 2 : Nat) : Int) := by
  have e : ((j : Int) / 2 ^ d) = ((j / 2 ^ d : Nat) : Int) := by rw [Int.natCast_ediv]; simp
  have hle : j / 2 ^ d ≤ j := Nat.div_le_self _ _
  rw [e]
  generalize j / 2 ^ d = b at *
  have h1 : (BitVec.ofInt 64 (b : Int)).toNat = b := by
    rw [BitVec.ofInt_natCast, BitVec.toNat_ofNat]; exact Nat.mod_eq_of_lt (by omega)
  show IntKind.u64.wrap ((BitVec.ofInt 64 (b : Int) &&& BitVec.ofInt 64 ((1 : Nat) : Int)).toNat : Int) = _
  have h2 : (BitVec.ofInt 64 ((1 : Nat) : Int)).toNat = 1 := by decide
  rw [BitVec.toNat_and, h1, h2, show (1 : Nat) = 2 ^ 1 - 1 from rfl, Nat.and_two_pow_sub_one_eq_mod]
  exact IntWalk.u64_in _ (by omega)
theorem CutI.start {w : World} {rb rr rc : Nat} {seed : Int} {D : Nat} {qs : List (PartR × Value)} {G : Nat → Prop} {p : PartR} {v : Value} (h : RMem w rb rr rc seed D qs G) (x : Int) (hx : x = ((p.bits + 2 ^ p.dep : Nat) : Int)) :
    CutI w (((w.alloc (.cells #[.int .i64 (p.dep : Nat), .int .u64 (p.bits : Nat), v] 107)).alloc (.cells #[.int .i64 ((p.dep : Nat) + 1), .int .u64 (p.bits : Nat), .slice none 0 0] 107)).alloc (.cells #[.int .i64 ((p.dep : Nat) + 1), .int .u64 x, .slice none 0 0] 107))
      w.heap.size rb rr rc seed D qs G p v (.slice none 0 0) (.slice none 0 0) [] [] := by
  subst hx
  have hb : Below w.heap.size w (((w.alloc (.cells #[.int .i64 (p.dep : Nat), .int .u64 (p.bits : Nat), v] 107)).alloc (.cells #[.int .i64 ((p.dep : Nat) + 1), .int .u64 (p.bits : Nat), .slice none 0 0] 107)).alloc (.cells #[.int .i64 ((p.dep : Nat) + 1), .int .u64 ((p.bits + 2 ^ p.dep : Nat) : Int), .slice none 0 0] 107)) :=
    (((Below.refl _ _).alloc (Nat.le_refl _) _).alloc (by simp) _).alloc (by simp; omega) _
  refine ⟨rfl, h.step hb, Fr.of_below hb G, h.glt, by simp, ?_, ?_, ?_, World.ownsRow_nil _ _ _ _, World.ownsRow_nil _ _ _ _, fun q hq => by simp [Value.ownBlock] at hq⟩
  · rw [heap_alloc_old _ _ (by simp; omega), heap_alloc_old _ _ (by simp)]; exact heap_alloc_new _ _
  · rw [heap_alloc_old _ _ (by simp)]
    have := heap_alloc_new (w.alloc (.cells #[.int .i64 (p.dep : Nat), .int .u64 (p.bits : Nat), v] 107)) (.cells #[.int .i64 ((p.dep : Nat) + 1), .int .u64 (p.bits : Nat), .slice none 0 0] 107)
    rw [World.size_alloc] at this
    exact this
  · have := heap_alloc_new ((w.alloc (.cells #[.int .i64 (p.dep : Nat), .int .u64 (p.bits : Nat), v] 107)).alloc (.cells #[.int .i64 ((p.dep : Nat) + 1), .int .u64 (p.bits : Nat), .slice none 0 0] 107)) (.cells #[.int .i64 ((p.dep : Nat) + 1), .int .u64 ((p.bits + 2 ^ p.dep : Nat) : Int), .slice none 0 0] 107)
    rw [World.size_alloc, World.size_alloc] at this
    exact this

theorem owns_here {w : World} {p : PartR} {v : Value} (h : w.ownsRow 0 9 1 (p, v).2 (p, v).1.keys.length ((p, v).1.keys.map Value.string)) : w.ownsRow 0 9 1 v p.keys.length (p.keys.map Value.string) := h
theorem b_dl (w : World) (m : Nat) (O : Obj) : Below w.heap.size w ((w.drewN m).alloc O) := ((IsDrew.one w m).below _).alloc (Nat.le_refl _) _
section
variable {w W W' : World} {H rb rr rc : Nat} {seed : Int} {D : Nat} {qs : List (PartR × Value)} {G : Nat → Prop} {p : PartR} {v va vb : Value} {la lb : List ByteArray}
theorem CutI.farA (h : CutI w W H rb rr rc seed D qs G p v va vb la lb) (h3 : W.grownBy W' va.ownBlock) : W'.cell? ⟨H + 1, 2, none⟩ = some va ∧ W'.frozen? ⟨H + 1, 2, none⟩ = false := by
  have s := h.sz
  have hne : some (H + 1) ≠ va.ownBlock := fun e => by have := (h.oa.lt _ e.symm).1; omega
  have e1 := (h3.block (H + 1) (by omega) hne).trans h.ba
  exact ⟨by rw [cell_of_row _ _ _ _ _ _ e1]; rfl, by unfold World.frozen?; rw [e1]; rfl⟩
theorem CutI.farB (h : CutI w W H rb rr rc seed D qs G p v va vb la lb) (h3 : W.grownBy W' vb.ownBlock) : W'.cell? ⟨H + 1 + 1, 2, none⟩ = some vb ∧ W'.frozen? ⟨H + 1 + 1, 2, none⟩ = false := by
  have s := h.sz
  have hne : some (H + 2) ≠ vb.ownBlock := fun e => by have := (h.ob.lt _ e.symm).1; omega
  have e1 := (h3.block (H + 2) (by omega) hne).trans h.bb
  exact ⟨by rw [cell_of_row _ _ _ _ _ _ e1]; rfl, by unfold World.frozen?; rw [e1]; rfl⟩
end
theorem CutI.parted {w W : World} {H rb rr rc i ca : Nat} {seed : Int} {D : Nat} {qs : List (PartR × Value)} {G : Nat → Prop} {p : PartR} {v vb : Value} {aa : Option Addr} {la lb : List ByteArray} (h : CutI w W H rb rr rc seed D qs G p v (.slice aa la.length ca) vb la lb) :
    ∃ G1, RMem (((W.setCell ⟨rr, i * 3, none⟩ (.int .i64 ((p.dep : Int) + 1))).setCell ⟨rr, i * 3 + 1, none⟩ (.int .u64 (p.bits : Nat))).setCell ⟨rr, i * 3 + 2, none⟩ (.slice aa la.length ca)) rb rr rc seed D (qs.set i (⟨p.dep + 1, p.bits, la⟩, .slice aa la.length ca)) G1 ∧
      Fr w (((W.setCell ⟨rr, i * 3, none⟩ (.int .i64 ((p.dep : Int) + 1))).setCell ⟨rr, i * 3 + 1, none⟩ (.int .u64 (p.bits : Nat))).setCell ⟨rr, i * 3 + 2, none⟩ (.slice aa la.length ca)) G G1 ∧
      (((W.setCell ⟨rr, i * 3, none⟩ (.int .i64 ((p.dep : Int) + 1))).setCell ⟨rr, i * 3 + 1, none⟩ (.int .u64 (p.bits : Nat))).setCell ⟨rr, i * 3 + 2, none⟩ (.slice aa la.length ca)).heap[H + 2]? = some (.cells #[.int .i64 ((p.dep + 1 : Nat) : Int), .int .u64 ((p.bits + 2 ^ p.dep : Nat) : Int), vb] 107 (0, 0)) ∧
      (((W.setCell ⟨rr, i * 3, none⟩ (.int .i64 ((p.dep : Int) + 1))).setCell ⟨rr, i * 3 + 1, none⟩ (.int .u64 (p.bits : Nat))).setCell ⟨rr, i * 3 + 2, none⟩ (.slice aa la.length ca)).ownsRow (H + 3) 9 1 vb lb.length (lb.map Value.string) ∧
      H + 3 ≤ (((W.setCell ⟨rr, i * 3, none⟩ (.int .i64 ((p.dep : Int) + 1))).setCell ⟨rr, i * 3 + 1, none⟩ (.int .u64 (p.bits : Nat))).setCell ⟨rr, i * 3 + 2, none⟩ (.slice aa la.length ca)).heap.size := by
  have hrr := h.glt _ h.mem.grr
  have hH := h.hH
  have hk : ∀ k, k ≠ rr → (((W.setCell ⟨rr, i * 3, none⟩ (.int .i64 ((p.dep : Int) + 1))).setCell ⟨rr, i * 3 + 1, none⟩ (.int .u64 (p.bits : Nat))).setCell ⟨rr, i * 3 + 2, none⟩ (.slice aa la.length ca)).heap[k]? = W.heap[k]? := fun k hk => by
    rw [heap_setCell_other _ _ _ _ (by exact hk), heap_setCell_other _ _ _ _ (by exact hk), heap_setCell_other _ _ _ _ (by exact hk)]
  have hm := h.mem.repart (i := i) (q' := (⟨p.dep + 1, p.bits, la⟩, .slice aa la.length ca)) (G' := fun k => G k ∨ (Value.slice aa la.length ca).ownBlock = some k) (owns_base h.oa (Nat.zero_le _)) (fun k hk => .inl hk) (fun b hb => .inr hb) (fun k hk => by
    rcases hk with e | e
    · exact h.mem.glt k e
    · exact (h.oa.lt k e).2)
  have hsz : (((W.setCell ⟨rr, i * 3, none⟩ (.int .i64 ((p.dep : Int) + 1))).setCell ⟨rr, i * 3 + 1, none⟩ (.int .u64 (p.bits : Nat))).setCell ⟨rr, i * 3 + 2, none⟩ (.slice aa la.length ca)).heap.size = W.heap.size := by simp [World.setCell]
  refine ⟨_, hm, ⟨h.fr.os, h.fr.tape, h.fr.output, by rw [hsz]; exact h.fr.size, fun k hk1 hG => ?_, fun k hk => ?_⟩, ?_, owns_block h.ob fun q hq => hk q ?_, by rw [hsz]; exact h.sz⟩
  · rw [hk k (by rintro rfl; exact hG h.mem.grr)]
    exact h.fr.block k hk1 hG
  · rcases hk with e | e
    · exact .inl e
    · have := (h.oa.lt k e).1; exact .inr (by omega)
  · rw [hk _ (by omega)]; exact h.bb
  · have := (h.ob.lt q hq).1; omega
theorem add_end {w wc W w' : World} {rb rr rc g cap N B n dp bt : Nat} {seed : Int} {D : Nat} {qs1 : List (PartR × Value)} {G G1 : Nat → Prop} {vb : Value} {ks : List ByteArray} (hm : RMem wc rb rr rc seed D qs1 G1) (hf : Fr w wc G G1) (hG : G rb ∧ G rr) (hb : Below wc.heap.size wc W) (hN : qs1.length = N)
    (ho : wc.ownsRow B 9 1 vb n (ks.map Value.string)) (hn : ks.length = n) (hB : w.heap.size ≤ B) (h2 : w'.ownsRow 0 107 3 (.slice (some ⟨g, 0, none⟩) (N + 1) cap) (N + 1) (flatR qs1 ++ [.int .i64 (dp : Nat), .int .u64 (bt : Nat), vb])) (h3 : W.grownBy w' (some rr))
    (h4 : some rr = some g ∨ g = W.heap.size) (h5 : g < w'.heap.size) :
    ∃ G', RMem (w'.setCell ⟨rb, 2, none⟩ (.slice (some ⟨g, 0, none⟩) (N + 1) cap)) rb g cap seed D (qs1 ++ [(⟨dp, bt, ks⟩, vb)]) G' ∧ Fr w (w'.setCell ⟨rb, 2, none⟩ (.slice (some ⟨g, 0, none⟩) (N + 1) cap)) G G' := by
  subst hn
  have s1 := hf.size
  have s2 := hb.size
  have s3 := h3.size
  refine ⟨fun k => G1 k ∨ vb.ownBlock = some k ∨ k = g, (hm.step hb).addpart (q' := (⟨dp, bt, ks⟩, vb)) hN h2 h3 h4 (owns_base (owns_later ho hb) (Nat.zero_le _)) (fun k hk => .inl hk) (.inr (.inr rfl)) (fun b hb => .inr (.inl hb)) (fun k hk => ?_), ⟨h3.os.trans (hb.os.trans hf.os), h3.tape.trans (hb.tape.trans hf.tape), h3.output.trans (hb.output.trans hf.output), ?_, fun k hk1 hk2 => ?_, fun k hk => ?_⟩⟩
  · rcases hk with e | e | e
    · have := hm.glt k e; omega
    · have := (ho.lt k e).2; omega
    · omega
  · simp [World.setCell]; omega
  · rw [heap_setCell_other _ _ _ _ (by rintro rfl; exact hk2 hG.1), h3.block k (by omega) (by simp only [ne_eq, Option.some.injEq]; rintro rfl; exact hk2 hG.2), hb.block k (by omega)]
    exact hf.block k hk1 hk2
  · rcases hk with e | e | e
    · exact hf.new k e
    · have := (ho.lt k e).1; exact .inr (by omega)
    · rcases h4 with q | q
      · simp only [Option.some.injEq] at q
        exact .inl (by rw [e, ← q]; exact hG.2)
      · exact .inr (by omega)
theorem b_one8 (w : World) (O : Obj) : Below w.heap.size w (w.alloc O).drew := ((Below.refl _ _).alloc (Nat.le_refl _) _).drew
theorem b_dr8 (w : World) (O : Obj) : Below w.heap.size w (w.drew.alloc O) := ((Below.refl _ _).drew).alloc (Nat.le_refl _) _
theorem info_part : (Try.prog.info? 107).map (fun i => (i.zero, i.size, i.bytes)) = some (some (.agg #[.int .i64 0, .int .u64 0, .slice none 0 0]), 3, 40) := by kernel_rfl
theorem part_cells {a b : Int} {ab : Option Addr} {n c : Nat} : ∀ u ∈ [Value.int .i64 a, .int .u64 b, .slice ab n c], u.oneCell' = true := by
  intro u hu
  simp only [List.mem_cons, List.not_mem_nil, or_false] at hu
  rcases hu with rfl | rfl | rfl <;> rfl
theorem half_pos {seed : Int} {d s : Nat} {l : List ByteArray} {j : Nat} {y : ByteArray} (hy : l[j]? = some y) (h : hN seed y / 2 ^ d % 2 = s) : halfK seed d s (l.take (j + 1)) = halfK seed d s (l.take j) ++ [y] := filter_snoc_pos hy (by simpa using h)
theorem half_neg {seed : Int} {d s : Nat} {l : List ByteArray} {j : Nat} {y : ByteArray} (hy : l[j]? = some y) (h : ¬ hN seed y / 2 ^ d % 2 = s) : halfK seed d s (l.take (j + 1)) = halfK seed d s (l.take j) := filter_snoc_neg hy (by simpa using h)
theorem half_len (seed : Int) (d s : Nat) (l : List ByteArray) (j : Nat) : (halfK seed d s (l.take j)).length ≤ l.length := by
  have h1 := List.length_filter_le (fun k => decide (hN seed k / 2 ^ d % 2 = s)) (l.take j)
  rw [List.length_take] at h1
  unfold halfK
  omega
set_option maxRecDepth 100000 in
set_option maxHeartbeats 4000000 in
theorem split_r {w : World} {rb rr rc i : Nat} {seed : Int} {D : Nat} {qs : List (PartR × Value)} {G : Nat → Prop} {p : PartR} {v : Value} (h : RMem w rb rr rc seed D qs G) (hS : SOk seed D (qs.map (·.1))) (hi : qs[i]? = some (p, v)) (hd : p.dep < 16) (hks : p.keys.length ≤ 1000000) :
    Calls Try.prog 78 #[.pointer (some ⟨rb, 0, none⟩), .int .i64 (i : Nat)] w fun e w' => e = .returned (.tuple #[]) ∧
      ∃ qs' rr' rc' G', qs'.map (·.1) = spS seed (qs.map (·.1)) i p ∧ RMem w' rb rr' rc' seed (max D (p.dep + 1)) qs' G' ∧ Fr w w' G G' := by
  have hov : w.ownsRow 0 9 1 v p.keys.length (p.keys.map Value.string) := h.keys _ (List.mem_of_getElem? hi)
  obtain ⟨av, cv, rfl⟩ := owns_slice hov
  obtain ⟨c0, c1, c2⟩ := h.cells
  obtain ⟨k0, k1, k2⟩ := h.part hi
  simp only at k0 k1 k2
  have hil := (List.getElem?_eq_some_iff.1 hi).1
  have hmx : qs.length ≤ maxLen := owns_maxLen h.row
  unfold maxLen at hmx
  have hpm : p ∈ qs.map (·.1) := List.mem_map.2 ⟨_, List.mem_of_getElem? hi, rfl⟩
  have hbits := hS.bits p hpm
  have HM := Lib.hid h
  have hl1 := h.glt _ h.grb
  have hl2 := h.glt _ h.grr
  have hpw : 2 ^ p.dep ≤ 65536 := pow16 (by omega)
  have HQ16 : Hid (qs.length ≤ 65536) := by
    have h1 := hS.len_le
    have h2 := pow16 hS.dmax
    rw [List.length_map] at h1
    exact Nat.le_trans h1 h2
  have HGG : Hid (G rb ∧ G rr) := ⟨h.grb, h.grr⟩
  have HST := Lib.hid (CutI.start (p := p) (v := .slice av p.keys.length cv) h _ (or_bit hbits hd))
  generalize hn : p.keys.length = n at *
  have HNL := Lib.hid hn
  clear hn
  have HH := Lib.hid fun (W : World) (y : ByteArray) (hy : y.size ≤ maxLen) => hN_int seed y ▸ rhash_hk seed y W hy
  have HSZ : Hid (∀ y ∈ p.keys, y.size ≤ maxLen) := fun y hy => by have := hS.size p hpm y hy; unfold maxLen; omega
  obtain ⟨iS, hiS, zS0, zS1, zS2⟩ := info_parts info_str
  clear h hS hpm hov
  go_enter Try.func78, Try.ntmps78
  go_wp2
  go_loopg [7] n (fun g i wr => ∃ (j : Nat) (va vb : Value), j + g = n ∧ i = .int .i64 j ∧ CutI w wr w.heap.size rb rr rc seed D qs G p (.slice av n cv) va vb (halfK seed p.dep 0 (p.keys.take j)) (halfK seed p.dep 1 (p.keys.take j)))
  case atStart => exact ⟨0, _, _, by omega, rfl, HST.out⟩
  case round =>
    clear HST
    obtain ⟨j, va, vb, hj, rfl, hC⟩ := hrel
    have HJ := Lib.hid hj
    have hjn : j ≤ n := by omega
    clear hj
    have hcc := hC.mem.cells.1
    obtain ⟨⟨p0, p1, p2⟩, ⟨a0, a1, a2⟩, ⟨b0, b1, b2⟩, f1, f2⟩ := hC.cells
    have hsz := hC.sz
    have hz0 : w.heap.size < wr.heap.size := by omega
    have hz1 : w.heap.size + 1 < wr.heap.size := by omega
    have hz2 : w.heap.size + 1 + 1 < wr.heap.size := by omega
    have hov := owns_here (hC.mem.keys _ (List.mem_of_getElem? hi))
    have HV := Lib.hid hov
    clear hov
    have HC := Lib.hid hC
    clear hC
    by_cases hlt : j < n
    · obtain ⟨y, hy⟩ : ∃ y, p.keys[j]? = some y := ⟨_, List.getElem?_eq_getElem (by rw [HNL.out]; exact hlt)⟩
      obtain ⟨a', c', e1, _, hcell⟩ := (ReadsV.owns HV.out).len
      simp only [Value.slice.injEq] at e1
      obtain ⟨rfl, hh, rfl⟩ := e1
      clear hh
      obtain ⟨g, off, rfl, hcy⟩ := hcell j y hy
      have HY := Lib.hid hy
      have HHY := Lib.hid fun (W : World) => HH.out W y (HSZ.out y (List.mem_of_getElem? hy))
      have hbit := bit_u64 (hN seed y) p.dep (hN_lt seed y)
      clear hcell hy
      rcases Nat.mod_two_eq_zero_or_one (hN seed y / 2 ^ p.dep) with hz | hz
      · rw [hz] at hbit
        have HZ := Lib.hid hz
        clear hz
        go_wp2
        go_quiet ((go_at_call 29; exact q_same (HHY.out _)))
        go_upto_region 7 with (fail)
        have hll := half_len seed p.dep 0 p.keys j
        rw [HNL.out] at hll
        have hx : ∀ (m : Nat) (O : Obj), ((wr.drewN m).alloc O).cell? ⟨w.heap.size + 1, 2, none⟩ = some va := fun m O => (HC.out.step (b_dl wr m O)).cells.2.1.2.2
        have HAP := Lib.hid (half_pos (seed := seed) (d := p.dep) (s := 0) HY.out HZ.out)
        have HBN := Lib.hid (half_neg (seed := seed) (d := p.dep) (s := 1) HY.out (by rw [HZ.out]; omega))
        go_region_law (refine step_append_lies _ rfl (.tmp 56) (.tmp 62) 39 rfl (w.heap.size + 3) 9 iS (.string ByteArray.empty) 1 16 Try.underlying39 hiS zS0 zS1 zS2 rfl (by decide) va (halfK seed p.dep 0 (p.keys.take j)).length ((halfK seed p.dep 0 (p.keys.take j)).map Value.string) ?_ ?_ ⟨wr.heap.size, 0, none⟩ 1 1 [.string y] ?_ rfl ?_ str_cell ?_ ?_ ?_ ?_ _ rfl ?_; (first | rfl | (simp [Act.eval]; done)); exact owns_later HC.out.oa (b_dl _ _ _); (first | rfl | (simp [Act.eval]; done)); exact cell1 _ _ _; omega; (unfold maxLen; omega); omega; (simp; omega); intro g1 cap1 w1 h2 h3 h4 h5; obtain ⟨q1, q2⟩ := (HC.out.step (b_dl wr _ _)).farA h3; have HN8 := Lib.hid ((HC.out.step (b_dl wr _ _)).growA rfl h2 h3 h4); clear h2 h3 h4)
        all_goals
          go_wp2
          go_roundg (gk - 1)
          case measure => have := HJ.out; omega
          case rel => exact ⟨j + 1, _, vb, by have := HJ.out; omega, by go_num, by rw [HAP.out, HBN.out]; exact HN8.out⟩
      · rw [hz] at hbit
        have HZ := Lib.hid hz
        clear hz
        go_wp2
        go_quiet ((go_at_call 29; exact q_same (HHY.out _)))
        go_wp2
        go_upto_region 8 with (fail)
        have hll := half_len seed p.dep 1 p.keys j
        rw [HNL.out] at hll
        have HAP := Lib.hid (half_pos (seed := seed) (d := p.dep) (s := 1) HY.out HZ.out)
        have HBN := Lib.hid (half_neg (seed := seed) (d := p.dep) (s := 0) HY.out (by rw [HZ.out]; omega))
        have hx : ∀ (m : Nat) (O : Obj), ((wr.drewN m).alloc O).cell? ⟨w.heap.size + 1 + 1, 2, none⟩ = some vb := fun m O => (HC.out.step (b_dl wr m O)).cells.2.2.1.2.2
        have b2' : wr.cell? ⟨w.heap.size + 1 + 1, 2, none⟩ = some vb := b2
        go_region_law (refine step_append_lies _ rfl (.tmp 66) (.tmp 72) 39 rfl (w.heap.size + 3) 9 iS (.string ByteArray.empty) 1 16 Try.underlying39 hiS zS0 zS1 zS2 rfl (by decide) vb (halfK seed p.dep 1 (p.keys.take j)).length ((halfK seed p.dep 1 (p.keys.take j)).map Value.string) ?_ ?_ ⟨wr.heap.size, 0, none⟩ 1 1 [.string y] ?_ rfl ?_ str_cell ?_ ?_ ?_ ?_ _ rfl ?_; (first | rfl | (simp [Act.eval]; done)); exact owns_later HC.out.ob (b_dl _ _ _); (first | rfl | (simp [Act.eval]; done)); exact cell1 _ _ _; omega; (unfold maxLen; omega); omega; (simp; omega); intro g1 cap1 w1 h2 h3 h4 h5; obtain ⟨q1, q2⟩ := (HC.out.step (b_dl wr _ _)).farB h3; have HN8 := Lib.hid ((HC.out.step (b_dl wr _ _)).growB rfl h2 h3 h4); clear h2 h3 h4)
        all_goals
          go_wp2
          go_roundg (gk - 1)
          case measure => have := HJ.out; omega
          case rel => exact ⟨j + 1, va, _, by have := HJ.out; omega, by go_num, by rw [HAP.out, HBN.out]; exact HN8.out⟩
    · obtain rfl : j = n := by omega
      have hC2 : CutI w wr w.heap.size rb rr rc seed D qs G p (.slice av j cv) va vb (halfK seed p.dep 0 p.keys) (halfK seed p.dep 1 p.keys) := by
        have := HC.out
        rw [List.take_of_length_le (by rw [HNL.out]; omega)] at this
        exact this
      have HC2 := Lib.hid hC2
      have hcd := hC2.mem.cells.2.1
      have hfz : wr.frozen? ⟨rb, 1, none⟩ = false := by unfold World.frozen?; rw [hC2.mem.blk]; rfl
      clear hC2 HC HH
      have hdep1 : ((p.dep + 1 : Nat) : Int) = (p.dep : Int) + 1 := by omega
      rw [hdep1] at a0
      go_wp2
      go_quiet (fail)
      go_upto_if 81 with (fail)
      go_cut [] from 75 to 86 (fun W => ∃ D', D' = max D (p.dep + 1) ∧ CutI w W w.heap.size rb rr rc seed D' qs G p (.slice av j cv) va vb (halfK seed p.dep 0 p.keys) (halfK seed p.dep 1 p.keys))
      case first =>
        by_cases c : (D : Int) < (p.dep : Int) + 1
        · go_wp2
          go_meet
          case rel => exact ⟨p.dep + 1, by omega, hdep1 ▸ (HC2.out.step ((IsDrew.one wr _).below _)).setD (p.dep + 1)⟩
        · go_wp2
          go_meet
          case rel => exact ⟨D, by omega, HC2.out.step ((IsDrew.one wr _).below _)⟩
      case rest =>
        clear HC2 hcd hfz p0 p1 p2 a0 a1 a2 b0 b1 b2 f1 f2 hcc hsz hz0 hz1 hz2
        obtain ⟨D', hD', hC⟩ := hcut
        obtain ⟨_, ⟨a0, a1, a2⟩, ⟨b0, b1, b2⟩, _, _⟩ := hC.cells
        have d2 := hC.mem.cells.2.2
        obtain ⟨r0, r1, r2⟩ := hC.mem.part hi
        obtain ⟨aa, ca, rfl⟩ := owns_slice hC.oa
        obtain ⟨ab, cb, rfl⟩ := owns_slice hC.ob
        have fr0 := hC.mem.row.frozenAt (i * 3)
        have fr1 := hC.mem.row.frozenAt (i * 3 + 1)
        have fr2 := hC.mem.row.frozenAt (i * 3 + 2)
        have HC := Lib.hid hC
        clear hC
        go_upto_region 11 with (fail)
        go_cut [] from 87 to 93 (fun W => ∃ qs1 G1, qs1.map (·.1) = (qs.map (·.1)).set i (spA seed p) ∧ qs1.length = qs.length ∧ RMem W rb rr rc seed D' qs1 G1 ∧ Fr w W G G1 ∧ W.heap[w.heap.size + 2]? = some (.cells #[.int .i64 ((p.dep + 1 : Nat) : Int), .int .u64 ((p.bits + 2 ^ p.dep : Nat) : Int), .slice ab (halfK seed p.dep 1 p.keys).length cb] 107 (0, 0)) ∧
            W.ownsRow (w.heap.size + 3) 9 1 (.slice ab (halfK seed p.dep 1 p.keys).length cb) (halfK seed p.dep 1 p.keys).length ((halfK seed p.dep 1 p.keys).map Value.string) ∧ w.heap.size + 3 ≤ W.heap.size)
        case first =>
          go_region
          all_goals
            go_wp2
            go_meet
            case rel =>
              obtain ⟨G1, m1, m2, m3, m4, m5⟩ := HC.out.parted (i := i)
              exact ⟨_, G1, List.map_set, List.length_set, m1.step ((Below.refl _ _).drew), m2.trans (Fr.of_below ((Below.refl _ _).drew) G1), m3, m4, m5⟩
        case rest =>
          obtain ⟨qs1, G1, e1, e2, hm1, hf1, hb1, ho1, hs1⟩ := hcut
          have d3 := hm1.cells.2.2
          rw [e2] at d3
          have g0 : wc.cell? ⟨w.heap.size + 1 + 1, 0, none⟩ = some (.int .i64 ((p.dep + 1 : Nat) : Int)) := by
            have : wc.cell? ⟨w.heap.size + 2, 0, none⟩ = some (.int .i64 ((p.dep + 1 : Nat) : Int)) := by rw [cell_of_row _ _ _ _ _ _ hb1]; rfl
            exact this
          have g1 : wc.cell? ⟨w.heap.size + 1 + 1, 1, none⟩ = some (.int .u64 ((p.bits + 2 ^ p.dep : Nat) : Int)) := by
            have : wc.cell? ⟨w.heap.size + 2, 1, none⟩ = some (.int .u64 ((p.bits + 2 ^ p.dep : Nat) : Int)) := by rw [cell_of_row _ _ _ _ _ _ hb1]; rfl
            exact this
          have g2 : wc.cell? ⟨w.heap.size + 1 + 1, 2, none⟩ = some (.slice ab (halfK seed p.dep 1 p.keys).length cb) := by
            have : wc.cell? ⟨w.heap.size + 2, 2, none⟩ = some (.slice ab (halfK seed p.dep 1 p.keys).length cb) := by rw [cell_of_row _ _ _ _ _ _ hb1]; rfl
            exact this
          obtain ⟨iP, hiP, zP0, zP1, zP2⟩ := info_parts info_part
          have HM1 := Lib.hid hm1
          have HF1 := Lib.hid hf1
          have HO1 := Lib.hid ho1
          have HE1 := Lib.hid e1
          have HE2 := Lib.hid e2
          have HDD := Lib.hid hD'
          clear hm1 hf1 ho1 e1 e2 hb1 hD' a0 a1 a2 b0 b1 b2 d2 r0 r1 r2 fr0 fr1 fr2
          have hq16 := HQ16.out
          have HROW : Hid (∀ W, Below wc.heap.size wc W → W.ownsRow 0 107 3 (.slice (some ⟨rr, 0, none⟩) qs.length rc) qs.length (flatR qs1)) := fun W hW => by
            have := (HM1.out.step hW).row
            rw [HE2.out] at this
            exact this
          have HST : Hid (∀ W, Below wc.heap.size wc W → ∀ W', W.grownBy W' (some rr) → W'.cell? ⟨rb, 2, none⟩ = some (.slice (some ⟨rr, 0, none⟩) qs.length rc) ∧ W'.frozen? ⟨rb, 2, none⟩ = false) := fun W hW W' h3 => by
            have hm := HM1.out.step hW
            have e := (h3.block rb (hm.glt _ hm.grb) (by simp only [ne_eq, Option.some.injEq]; exact hm.ne)).trans hm.blk
            rw [HE2.out] at e
            exact ⟨by rw [cell_of_row _ _ _ _ _ _ e]; rfl, by unfold World.frozen?; rw [e]; rfl⟩
          have hrl : rb < wc.heap.size := HM1.out.glt _ HM1.out.grb
          have hwl1 : w.heap.size + 1 + 1 < wc.heap.size := by omega
          generalize hdp1 : p.dep + 1 = dp1 at *
          generalize hbt1 : p.bits + 2 ^ p.dep = bt1 at *
          generalize hlb1 : (halfK seed p.dep 1 p.keys).length = lb1 at *
          have HDP := Lib.hid hdp1
          have HBT := Lib.hid hbt1
          have HLB := Lib.hid hlb1
          clear hdp1 hbt1 hlb1 hdep1
          go_upto_region 12 with (fail)
          go_region_law (refine step_append_lies _ rfl (.tmp 98) (.tmp 100) 108 rfl 0 107 iP (.agg #[.int .i64 0, .int .u64 0, .slice none 0 0]) 3 40 Try.underlying108 hiP zP0 zP1 zP2 rfl (by decide) (.slice (some ⟨rr, 0, none⟩) qs.length rc) qs.length (flatR qs1) ?_ ?_ ⟨wc.heap.size, 0, none⟩ 1 1 [.int .i64 (dp1 : Nat), .int .u64 (bt1 : Nat), .slice ab lb1 cb] ?_ rfl ?_ part_cells ?_ ?_ ?_ ?_ _ rfl ?_; (first | rfl | (simp [Act.eval]; done)); (first | exact HROW.out _ (b_al8 _ _) | exact HROW.out _ (b_one8 _ _) | exact HROW.out _ (b_dr8 _ _) | exact HROW.out _ (b_dl _ _ _)); (first | rfl | (simp [Act.eval]; done)); (exact World.news_of_block (heap_alloc_new _ _)); omega; (unfold maxLen; omega); omega; exact Nat.zero_le _; intro g cap w1 h2 h3 h4 h5; first | (obtain ⟨z1, z2⟩ := HST.out _ (b_al8 _ _) w1 h3; have HN := Lib.hid (add_end HM1.out HF1.out HGG.out (b_al8 _ _) HE2.out HO1.out HLB.out (by omega) h2 h3 (h4.imp (fun e => e) (fun e => e)) h5); clear h2 h3 h4 h5) | (obtain ⟨z1, z2⟩ := HST.out _ (b_one8 _ _) w1 h3; have HN := Lib.hid (add_end HM1.out HF1.out HGG.out (b_one8 _ _) HE2.out HO1.out HLB.out (by omega) h2 h3 h4 h5); clear h2 h3 h4 h5) | (obtain ⟨z1, z2⟩ := HST.out _ (b_dr8 _ _) w1 h3; have HN := Lib.hid (add_end HM1.out HF1.out HGG.out (b_dr8 _ _) HE2.out HO1.out HLB.out (by omega) h2 h3 h4 h5); clear h2 h3 h4 h5))
          all_goals
            refine bodyPost_end (results_none rfl _ _ _) rfl ?_
            obtain ⟨G', n1, n2⟩ := HN.out
            rw [HDD.out, ← HDP.out] at n1
            refine ⟨rfl, _, g, cap, G', ?_, n1, n2⟩
            rw [List.map_append, HE1.out, List.map_singleton, ← HBT.out]
            rfl
end Go.Proofs.Ytkkijcnipjojoaa
