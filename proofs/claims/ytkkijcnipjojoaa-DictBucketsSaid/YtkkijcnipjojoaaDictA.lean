/- A dict in memory: nodes, their tables, a directory; what holds of it; contracts of place, find, room, Get, Delete, Len, Depth. -/
import Derived.Test.YtkkijcnipjojoaaPlainD2
import Derived.Test.YtkkijcnipjojoaaPlayD8
import Derived.Test.YtkkijcnipjojoaaSplits8
namespace Go.Proofs.Ytkkijcnipjojoaa
open Go.RowKit

/-- A table, and what it has. -/
structure Tb where
  t : Nat
  g : Nat
  m : ByteArray → Option Int
  ks : List ByteArray
/-- A node: its block, its row of tables, its part, its tables. -/
structure Nd where
  b : Nat
  r : Nat
  c : Nat
  p : PartR
  ts : List Tb
def tabV (t : Tb) : Value := .pointer (some ⟨t.t, 0, none⟩)
def Nd.lv (x : Nd) : Value := .slice (some ⟨x.r, 0, none⟩) x.ts.length x.c
def Nd.has (x : Nd) (k : Nat) : Prop := k = x.b ∨ k = x.r ∨ ∃ t ∈ x.ts, k = t.t ∨ k = t.g
abbrev prts (nds : List Nd) : List PartR := nds.map (·.p)
def nodeOf (nds : List Nd) (h : Nat) : Nat := match nds[pix (prts nds) h]? with | some x => x.b | none => 0
def dirV (D : Nat) (nds : List Nd) : List Value := (List.range (2 ^ D)).map fun j => Value.pointer (some ⟨nodeOf nds j, 0, none⟩)

theorem type_ne {w : World} {a b : Nat} {c1 c2 : Array Value} {e1 e2 : TypeId} {f1 f2 : Nat × Nat} (h1 : w.heap[a]? = some (.cells c1 e1 f1)) (h2 : w.heap[b]? = some (.cells c2 e2 f2)) (hne : e1 ≠ e2) : a ≠ b := by
  rintro rfl
  rw [h1] at h2
  simp only [Option.some.injEq, Obj.cells.injEq] at h2
  exact hne h2.2.1
theorem row_block {w : World} {B : Nat} {e : TypeId} {s g n c : Nat} {xs : List Value} (h : w.ownsRow B e s (.slice (some ⟨g, 0, none⟩) n c) n xs) : ∃ cur f, w.heap[g]? = some (.cells cur e f) := by
  rcases h.2 with ⟨h1, _⟩ | ⟨g', cap, cur, h1, _, h2, _⟩
  · simp at h1
  · simp only [Value.slice.injEq, Option.some.injEq, Addr.mk.injEq] at h1
    obtain ⟨⟨rfl, _⟩, _⟩ := h1
    exact ⟨cur, _, h2⟩
theorem row_kept {w w' : World} {B : Nat} {e : TypeId} {s g n c : Nat} {xs : List Value} (h : w.ownsRow B e s (.slice (some ⟨g, 0, none⟩) n c) n xs) (hk : w'.heap[g]? = w.heap[g]?) : w'.ownsRow B e s (.slice (some ⟨g, 0, none⟩) n c) n xs := by
  refine ⟨h.1, ?_⟩
  rcases h.2 with ⟨h1, _⟩ | ⟨g', cap, cur, h1, h0, h2, h3⟩
  · simp at h1
  · have h1' := h1
    simp only [Value.slice.injEq, Option.some.injEq, Addr.mk.injEq] at h1
    obtain ⟨⟨rfl, _⟩, _, _⟩ := h1
    exact .inr ⟨g, cap, cur, h1', h0, hk.trans h2, h3⟩
theorem TB.types {w : World} {tb gb : Nat} {seed : Int} {m : ByteArray → Option Int} (h : TB w tb gb seed m) : (∃ c f, w.heap[tb]? = some (.cells c 75 f)) ∧ ∃ c f, w.heap[gb]? = some (.cells c 84 f) := by
  obtain ⟨S, h1, _⟩ := h
  exact ⟨⟨_, _, h1.at'.ht⟩, ⟨_, _, h1.at'.hg⟩⟩

/-- A node in memory. -/
structure NdAt (w : World) (seed : Int) (x : Nd) : Prop where
  blk : w.heap[x.b]? = some (.cells #[.int .i64 (x.p.dep : Nat), x.lv] 96 (0, 0))
  row : w.ownsRow 0 23 1 x.lv x.ts.length (x.ts.map tabV)
  tab : ∀ t ∈ x.ts, TB w t.t t.g seed t.m
section
variable {w w' : World} {seed : Int} {x : Nd}
theorem NdAt.lt (h : NdAt w seed x) {k : Nat} (hk : x.has k) : k < w.heap.size := by
  rcases hk with rfl | rfl | ⟨t, ht, rfl | rfl⟩
  · exact heap_lt' h.blk
  · obtain ⟨_, _, hr⟩ := row_block h.row
    exact heap_lt' hr
  · exact (h.tab t ht).lt.1
  · exact (h.tab t ht).lt.2.1
theorem NdAt.kept (h : NdAt w seed x) (hk : ∀ k, x.has k → w'.heap[k]? = w.heap[k]?) : NdAt w' seed x :=
  ⟨(hk _ (.inl rfl)).trans h.blk, row_kept h.row (hk _ (.inr (.inl rfl))), fun t ht => (h.tab t ht).kept (hk _ (.inr (.inr ⟨t, ht, .inl rfl⟩))) (hk _ (.inr (.inr ⟨t, ht, .inr rfl⟩)))⟩
theorem NdAt.later (h : NdAt w seed x) (hb : Below w.heap.size w w') : NdAt w' seed x := h.kept fun _ hk => hb.block _ (h.lt hk)
theorem NdAt.cells (h : NdAt w seed x) : w.cell? ⟨x.b, 0, none⟩ = some (.int .i64 (x.p.dep : Nat)) ∧ w.cell? ⟨x.b, 1, none⟩ = some x.lv :=
  ⟨by rw [cell_of_row _ _ _ _ _ _ h.blk]; rfl, by rw [cell_of_row _ _ _ _ _ _ h.blk]; rfl⟩
end

/-- Two nodes lie apart. -/
def NdAp (x y : Nd) : Prop := x.b ≠ y.b ∧ x.r ≠ y.r ∧ ∀ t ∈ x.ts, ∀ s ∈ y.ts, t.t ≠ s.t ∧ t.g ≠ s.g

/-- What is of a dict stands in some blocks; all others stand as they stood. -/
structure Fr (w w' : World) (F F' : Nat → Prop) : Prop where
  os : w'.os = w.os
  tape : w'.tape = w.tape
  output : w'.output = w.output
  size : w.heap.size ≤ w'.heap.size
  block : ∀ k, k < w.heap.size → ¬ F k → w'.heap[k]? = w.heap[k]?
  new : ∀ k, F' k → F k ∨ w.heap.size ≤ k
section
variable {w w' w'' : World} {F F' F'' : Nat → Prop}
theorem Fr.refl (w : World) (F : Nat → Prop) : Fr w w F F := ⟨rfl, rfl, rfl, Nat.le_refl _, fun _ _ _ => rfl, fun _ h => .inl h⟩
theorem Fr.of_below (h : Below w.heap.size w w') (F : Nat → Prop) : Fr w w' F F := ⟨h.os, h.tape, h.output, h.size, fun k hk _ => h.block k hk, fun _ h => .inl h⟩
theorem Fr.trans (h : Fr w w' F F') (k : Fr w' w'' F' F'') : Fr w w'' F F'' :=
  ⟨k.os.trans h.os, k.tape.trans h.tape, k.output.trans h.output, Nat.le_trans h.size k.size, fun q h1 h2 => (k.block q (by have := h.size; omega) (fun e => by rcases h.new q e with e | e; exact h2 e; omega)).trans (h.block q h1 h2),
    fun q hq => by rcases k.new q hq with e | e; exact h.new q e; exact .inr (by have := h.size; omega)⟩
theorem Fr.touch {tb gb : Nat} (h : Touch w w' tb gb) (h1 : F tb) (h2 : F gb) (hF : ∀ k, F' k → F k ∨ w.heap.size ≤ k) : Fr w w' F F' :=
  ⟨h.os, h.tape, h.output, h.size, fun k hk hf => h.block k hk (fun e => hf (e ▸ h1)) (fun e => hf (e ▸ h2)), hF⟩
theorem Fr.setCell (w : World) (a : Addr) (v : Value) (ha : F a.block) : Fr w (w.setCell a v) F F :=
  ⟨rfl, rfl, rfl, by simp [World.setCell], fun k _ hf => heap_setCell_other _ _ _ _ (fun e => hf (e ▸ ha)), fun _ h => .inl h⟩
theorem Fr.below (h : Fr w w' F F') {B : Nat} (h0 : B ≤ w.heap.size) (h1 : ∀ k, F k → B ≤ k) : Below B w w' ∧ ∀ k, F' k → B ≤ k :=
  ⟨⟨h.os, h.tape, h.output, h.size, fun k hk => h.block k (by omega) (fun e => by have := h1 k e; omega)⟩, fun k hk => by rcases h.new k hk with e | e; exact h1 k e; omega⟩
end

/-- A dict in memory. -/
structure DMem (w : World) (db : Nat) (seed : Int) (D n dr dc : Nat) (nds : List Nd) (F : Nat → Prop) : Prop where
  blk : w.heap[db]? = some (.cells #[.int .u64 seed, .int .i64 (D : Nat), .slice (some ⟨dr, 0, none⟩) (2 ^ D : Nat) dc, .int .i64 (n : Nat)] 99 (0, 0))
  row : w.ownsRow 0 93 1 (.slice (some ⟨dr, 0, none⟩) (2 ^ D) dc) (2 ^ D) (dirV D nds)
  nd : ∀ x ∈ nds, NdAt w seed x
  nf : ∀ x ∈ nds, ∀ k, x.has k → F k
  ap : Apart NdAp nds
  fdb : F db
  fdr : F dr
  flt : ∀ k, F k → k < w.heap.size
section
variable {w w' : World} {db : Nat} {seed : Int} {D n dr dc : Nat} {nds : List Nd} {F F' : Nat → Prop}
theorem DMem.step (h : DMem w db seed D n dr dc nds F) (hb : Below w.heap.size w w') : DMem w' db seed D n dr dc nds F :=
  ⟨(hb.block _ (h.flt _ h.fdb)).trans h.blk, row_kept h.row (hb.block _ (h.flt _ h.fdr)), fun x hx => (h.nd x hx).later hb, h.nf, h.ap, h.fdb, h.fdr, fun k hk => by have := h.flt k hk; have := hb.size; omega⟩
/-- A step that leaves the dict's blocks as they are. -/
theorem DMem.stay (h : DMem w db seed D n dr dc nds F) (hs : w.heap.size ≤ w'.heap.size) (hb : ∀ k, F k → w'.heap[k]? = w.heap[k]?) : DMem w' db seed D n dr dc nds F :=
  ⟨(hb _ h.fdb).trans h.blk, row_kept h.row (hb _ h.fdr), fun x hx => (h.nd x hx).kept fun k hk => hb k (h.nf x hx k hk), h.nf, h.ap, h.fdb, h.fdr, fun k hk => by have := h.flt k hk; omega⟩
theorem DMem.cells (h : DMem w db seed D n dr dc nds F) : w.cell? ⟨db, 0, none⟩ = some (.int .u64 seed) ∧ w.cell? ⟨db, 1, none⟩ = some (.int .i64 (D : Nat)) ∧ w.cell? ⟨db, 2, none⟩ = some (.slice (some ⟨dr, 0, none⟩) (2 ^ D : Nat) dc) ∧ w.cell? ⟨db, 3, none⟩ = some (.int .i64 (n : Nat)) :=
  ⟨by rw [cell_of_row _ _ _ _ _ _ h.blk]; rfl, by rw [cell_of_row _ _ _ _ _ _ h.blk]; rfl, by rw [cell_of_row _ _ _ _ _ _ h.blk]; rfl, by rw [cell_of_row _ _ _ _ _ _ h.blk]; rfl⟩
theorem DMem.dir (h : DMem w db seed D n dr dc nds F) (j : Nat) (hj : j < 2 ^ D) : w.cell? ⟨dr, j, none⟩ = some (.pointer (some ⟨nodeOf nds j, 0, none⟩)) := by
  rw [h.row.cellAt j (by omega)]
  unfold dirV
  rw [List.getElem?_map, List.getElem?_range hj]
  rfl
/-- The dict's block, its row and a node's blocks are of types of their own. -/
theorem DMem.apart (h : DMem w db seed D n dr dc nds F) {x : Nd} (hx : x ∈ nds) : (∀ k, x.has k → k ≠ db ∧ k ≠ dr) ∧ db ≠ dr := by
  obtain ⟨_, _, hr⟩ := row_block h.row
  have hN := h.nd x hx
  obtain ⟨_, _, hl⟩ := row_block hN.row
  refine ⟨fun k hk => ?_, type_ne h.blk hr (by decide)⟩
  rcases hk with rfl | rfl | ⟨t, ht, rfl | rfl⟩
  · exact ⟨type_ne hN.blk h.blk (by decide), type_ne hN.blk hr (by decide)⟩
  · exact ⟨type_ne hl h.blk (by decide), type_ne hl hr (by decide)⟩
  · obtain ⟨⟨_, _, e⟩, _⟩ := (hN.tab t ht).types
    exact ⟨type_ne e h.blk (by decide), type_ne e hr (by decide)⟩
  · obtain ⟨_, _, _, e⟩ := (hN.tab t ht).types
    exact ⟨type_ne e h.blk (by decide), type_ne e hr (by decide)⟩
theorem DMem.dbr (h : DMem w db seed D n dr dc nds F) : db ≠ dr := by
  obtain ⟨_, _, hr⟩ := row_block h.row
  exact type_ne h.blk hr (by decide)
theorem has_other {x y : Nd} (hx : NdAt w seed x) (hy : NdAt w seed y) (ha : NdAp x y) {k : Nat} (hk : x.has k) : ¬ y.has k := by
  obtain ⟨_, _, hl⟩ := row_block hx.row
  obtain ⟨_, _, hl'⟩ := row_block hy.row
  obtain ⟨a1, a2, a3⟩ := ha
  rintro (e | e | ⟨s, hs, e | e⟩)
  all_goals rcases hk with rfl | rfl | ⟨t, ht, rfl | rfl⟩
  · exact a1 e
  · exact type_ne hl hy.blk (by decide) e
  · obtain ⟨⟨_, _, q⟩, _⟩ := (hx.tab t ht).types; exact type_ne q hy.blk (by decide) e
  · obtain ⟨_, _, _, q⟩ := (hx.tab t ht).types; exact type_ne q hy.blk (by decide) e
  · exact type_ne hx.blk hl' (by decide) e
  · exact a2 e
  · obtain ⟨⟨_, _, q⟩, _⟩ := (hx.tab t ht).types; exact type_ne q hl' (by decide) e
  · obtain ⟨_, _, _, q⟩ := (hx.tab t ht).types; exact type_ne q hl' (by decide) e
  · obtain ⟨⟨_, _, q⟩, _⟩ := (hy.tab s hs).types; exact type_ne hx.blk q (by decide) e
  · obtain ⟨⟨_, _, q⟩, _⟩ := (hy.tab s hs).types; exact type_ne hl q (by decide) e
  · exact (a3 t ht s hs).1 e
  · obtain ⟨⟨_, _, q⟩, _⟩ := (hy.tab s hs).types; obtain ⟨_, _, _, q'⟩ := (hx.tab t ht).types; exact type_ne q' q (by decide) e
  · obtain ⟨_, _, _, q⟩ := (hy.tab s hs).types; exact type_ne hx.blk q (by decide) e
  · obtain ⟨_, _, _, q⟩ := (hy.tab s hs).types; exact type_ne hl q (by decide) e
  · obtain ⟨_, _, _, q⟩ := (hy.tab s hs).types; obtain ⟨⟨_, _, q'⟩, _⟩ := (hx.tab t ht).types; exact type_ne q' q (by decide) e
  · exact (a3 t ht s hs).2 e

theorem pix_set (ps : List PartR) (i : Nat) (p' : PartR) (x : Nat) (h : ∀ q, ps[i]? = some q → fitsB x q = fitsB x p') : pix (ps.set i p') x = pix ps x := by
  unfold pix
  induction ps generalizing i with
  | nil => rfl
  | cons a l ih =>
    cases i with
    | zero =>
      have := h a rfl
      simp only [List.set_cons_zero, List.findIdx_cons, this]
    | succ i =>
      simp only [List.set_cons_succ, List.findIdx_cons]
      rw [ih i (fun q hq => h q (by simpa using hq))]
theorem prts_set (i : Nat) (x' : Nd) : prts (nds.set i x') = (prts nds).set i x'.p := by unfold prts; rw [List.map_set]
theorem prts_get {i : Nat} {x : Nd} (h : nds[i]? = some x) : (prts nds)[i]? = some x.p := by unfold prts; rw [List.getElem?_map, h]; rfl
theorem node_set {i : Nat} {x x' : Nd} (hi : nds[i]? = some x) (hb : x'.b = x.b) (hd : x'.p.dep = x.p.dep) (hp : x'.p.bits = x.p.bits) (h : Nat) : nodeOf (nds.set i x') h = nodeOf nds h := by
  have hl := (List.getElem?_eq_some_iff.1 hi).1
  unfold nodeOf
  rw [prts_set, pix_set _ _ _ _ (fun q hq => by rw [prts_get hi] at hq; simp only [Option.some.injEq] at hq; subst hq; unfold fitsB; rw [hd, hp])]
  rw [List.getElem?_set]
  by_cases c : i = pix (prts nds) h
  · rw [if_pos c, if_pos hl, ← c, hi]
    exact hb
  · rw [if_neg c]
theorem dir_set {i : Nat} {x x' : Nd} (hi : nds[i]? = some x) (hb : x'.b = x.b) (hd : x'.p.dep = x.p.dep) (hp : x'.p.bits = x.p.bits) : dirV D (nds.set i x') = dirV D nds := by
  unfold dirV
  exact List.map_congr_left fun j _ => by rw [node_set hi hb hd hp]

/-- One node is changed, all others stand. -/
theorem DMem.renode (h : DMem w db seed D n dr dc nds F) {i : Nat} {x x' : Nd} (hi : nds[i]? = some x) (hb : x'.b = x.b) (hd : x'.p.dep = x.p.dep) (hp : x'.p.bits = x.p.bits) (hx' : NdAt w' seed x')
    (hk : ∀ k, k < w.heap.size → ¬ x.has k → w'.heap[k]? = w.heap[k]?)
    (ha : ∀ j y, nds[j]? = some y → j ≠ i → NdAp x' y ∧ NdAp y x') (hf : ∀ k, x'.has k → F' k) (hF : ∀ k, F k → F' k) (hl : ∀ k, F' k → k < w'.heap.size) : DMem w' db seed D n dr dc (nds.set i x') F' := by
  have hx := List.mem_of_getElem? hi
  obtain ⟨h1, h2⟩ := h.apart hx
  refine ⟨(hk _ (h.flt _ h.fdb) (fun e => (h1 _ e).1 rfl)).trans h.blk, by rw [dir_set hi hb hd hp]; exact row_kept h.row (hk _ (h.flt _ h.fdr) (fun e => (h1 _ e).2 rfl)), ?_, ?_, h.ap.set i x' ha, hF _ h.fdb, hF _ h.fdr, hl⟩
  · intro y hy
    obtain ⟨j, hj⟩ := List.mem_iff_getElem?.1 hy
    rcases set_get hj with ⟨_, rfl, _⟩ | ⟨c, hj⟩
    · exact hx'
    · have hym := List.mem_of_getElem? hj
      exact (h.nd y hym).kept fun k hyk => hk k ((h.nd y hym).lt hyk) (has_other (h.nd y hym) (h.nd x hx) (h.ap j i y x hj hi c) hyk)
  · intro y hy k hyk
    obtain ⟨j, hj⟩ := List.mem_iff_getElem?.1 hy
    rcases set_get hj with ⟨_, rfl, _⟩ | ⟨c, hj⟩
    · exact hf k hyk
    · exact hF k (h.nf y (List.mem_of_getElem? hj) k hyk)

/-- A table of a node is changed. -/
theorem DMem.put (h : DMem w db seed D n dr dc nds F) {i : Nat} {x : Nd} {a b : List Tb} {t t' : Tb} {p' : PartR} (hi : nds[i]? = some x) (hx : x.ts = a ++ t :: b) (hap : x.ts.Pairwise fun t s => t.t ≠ s.t ∧ t.g ≠ s.g) (ht : t'.t = t.t) (hT : TB w' t.t t'.g seed t'.m)
    (hp : Puts w w' t.t t.g t'.g) (hd : p'.dep = x.p.dep) (hpb : p'.bits = x.p.bits) : ∃ F', DMem w' db seed D n dr dc (nds.set i ⟨x.b, x.r, x.c, p', a ++ t' :: b⟩) F' ∧ Fr w w' F F' := by
  have hxm := List.mem_of_getElem? hi
  have hN := h.nd x hxm
  have htm : t ∈ x.ts := by rw [hx]; simp
  have hlen : (a ++ t' :: b).length = x.ts.length := by rw [hx]; simp
  have hlv : (⟨x.b, x.r, x.c, p', a ++ t' :: b⟩ : Nd).lv = x.lv := by unfold Nd.lv; simp only; rw [hlen]
  have hmap : (a ++ t' :: b).map tabV = x.ts.map tabV := by
    rw [hx]; simp only [List.map_append, List.map_cons]; unfold tabV; rw [ht]
  obtain ⟨⟨_, _, et⟩, ⟨_, _, eg⟩⟩ := (hN.tab t htm).types
  obtain ⟨_, _, hl⟩ := row_block hN.row
  have hs := hp.2.size
  have hkeep : ∀ k, k < w.heap.size → ¬ x.has k → w'.heap[k]? = w.heap[k]? := fun k hk hn => hp.2.block k hk (fun e => hn (.inr (.inr ⟨t, htm, .inl e⟩))) (fun e => hn (.inr (.inr ⟨t, htm, .inr e⟩)))
  have htg : TB w' t'.t t'.g seed t'.m := by rw [ht]; exact hT
  have lt' := htg.lt
  have hothers : ∀ s ∈ a ++ b, s.t ≠ t.t ∧ s.g ≠ t.g := by
    intro s hs
    rw [hx, List.pairwise_append, List.pairwise_cons] at hap
    rw [List.mem_append] at hs
    rcases hs with hs | hs
    · exact hap.2.2 s hs t (by simp)
    · have := hap.2.1.1 s hs; exact ⟨fun e => this.1 e.symm, fun e => this.2 e.symm⟩
  have hin : ∀ s, s ∈ a ++ b → s ∈ x.ts := by
    intro s hs; rw [hx]; rw [List.mem_append] at hs ⊢; rcases hs with hs | hs
    · exact .inl hs
    · exact .inr (List.mem_cons_of_mem _ hs)
  have hmem : ∀ s, s ∈ a ++ t' :: b → s = t' ∨ s ∈ a ++ b := by
    intro s hs; rw [List.mem_append, List.mem_cons] at hs; rw [List.mem_append]; rcases hs with hs | hs | hs
    · exact .inr (.inl hs)
    · exact .inl hs
    · exact .inr (.inr hs)
  have hX : NdAt w' seed ⟨x.b, x.r, x.c, p', a ++ t' :: b⟩ := by
    refine ⟨?_, ?_, ?_⟩
    · rw [hlv]; simp only; rw [hd]
      exact (hp.2.block _ (heap_lt' hN.blk) (type_ne hN.blk et (by decide)) (type_ne hN.blk eg (by decide))).trans hN.blk
    · rw [hlv]; simp only; rw [hmap, hlen]
      exact row_kept hN.row (hp.2.block _ (heap_lt' hl) (type_ne hl et (by decide)) (type_ne hl eg (by decide)))
    · intro s hsm
      rcases hmem s hsm with rfl | hsm
      · exact htg
      · have hq := hothers s hsm
        obtain ⟨⟨_, _, qt⟩, ⟨_, _, qg⟩⟩ := (hN.tab s (hin s hsm)).types
        exact (hN.tab s (hin s hsm)).touch hp.2 hq.1 (type_ne qt eg (by decide)) (type_ne qg et (by decide)) hq.2
  refine ⟨fun k => F k ∨ (w.heap.size ≤ k ∧ k < w'.heap.size), h.renode hi rfl hd hpb hX hkeep ?_ ?_ (fun k hk => .inl hk) ?_, ?_⟩
  · intro j y hj hne
    have hy := h.nd y (List.mem_of_getElem? hj)
    obtain ⟨a1, a2, a3⟩ := h.ap i j x y hi hj (fun e => hne e.symm)
    have key : ∀ s ∈ a ++ t' :: b, ∀ u ∈ y.ts, s.t ≠ u.t ∧ s.g ≠ u.g := by
      intro s hsm u hu
      rcases hmem s hsm with rfl | hsm
      · refine ⟨by rw [ht]; exact (a3 t htm u hu).1, ?_⟩
        have lu := (hy.tab u hu).lt
        rcases hp.1 with e | e
        · rw [e]; exact (a3 t htm u hu).2
        · omega
      · exact a3 s (hin s hsm) u hu
    exact ⟨⟨a1, a2, key⟩, ⟨fun e => a1 e.symm, fun e => a2 e.symm, fun u hu s hsm => ⟨fun e => (key s hsm u hu).1 e.symm, fun e => (key s hsm u hu).2 e.symm⟩⟩⟩
  · rintro k (e | e | ⟨s, hsm, e⟩)
    · exact .inl (h.nf x hxm k (.inl e))
    · exact .inl (h.nf x hxm k (.inr (.inl e)))
    · rcases hmem s hsm with rfl | hsm
      · rcases e with e | e
        · exact .inl (h.nf x hxm k (.inr (.inr ⟨t, htm, .inl (e.trans ht)⟩)))
        · rcases hp.1 with q | q
          · exact .inl (h.nf x hxm k (.inr (.inr ⟨t, htm, .inr (e.trans q)⟩)))
          · exact .inr (by omega)
      · exact .inl (h.nf x hxm k (.inr (.inr ⟨s, hin s hsm, e⟩)))
  · rintro k (e | e)
    · have := h.flt k e; omega
    · exact e.2
  · exact Fr.touch hp.2 (h.nf x hxm _ (.inr (.inr ⟨t, htm, .inl rfl⟩))) (h.nf x hxm _ (.inr (.inr ⟨t, htm, .inr rfl⟩))) (fun k hk => by rcases hk with e | e; exact .inl e; exact .inr e.1)

/-- The count is changed. -/
theorem DMem.setN (h : DMem w db seed D n dr dc nds F) (n' : Nat) : DMem (w.setCell ⟨db, 3, none⟩ (.int .i64 (n' : Nat))) db seed D n' dr dc nds F := by
  have hk : ∀ k, k ≠ db → (w.setCell ⟨db, 3, none⟩ (.int .i64 (n' : Nat))).heap[k]? = w.heap[k]? := fun k hk => heap_setCell_other _ _ _ _ (by exact hk)
  refine ⟨by rw [heap_setCell_same _ _ _ _ _ _ h.blk]; rfl, row_kept h.row (hk _ (fun e => h.dbr e.symm)), fun x hx => (h.nd x hx).kept fun k hxk => hk k ((h.apart hx).1 k hxk).1, h.nf, h.ap, h.fdb, h.fdr, fun k hk' => ?_⟩
  have := h.flt k hk'
  simpa [World.setCell] using this
end

abbrev flatT (ts : List Tb) : List ByteArray := ts.flatMap (·.ks)
/-- What holds of one node. -/
structure NdOk (M : ByteArray → Option Int) (x : Nd) : Prop where
  card : ∀ t ∈ x.ts, Card t.m t.ks
  few : ∀ t ∈ x.ts, t.ks.length ≤ 112
  sub : ∀ t ∈ x.ts, ∀ k v, t.m k = some v → M k = some v
  perm : (flatT x.ts).Perm x.p.keys
  one : x.p.dep < 16 → x.ts.length = 1
  pos : 0 < x.ts.length
  ap : x.ts.Pairwise fun t s => t.t ≠ s.t ∧ t.g ≠ s.g
/-- What holds of all nodes. -/
structure DOk (seed : Int) (D : Nat) (nds : List Nd) (M : ByteArray → Option Int) (L : Nat) : Prop where
  ok : SOk seed D (prts nds)
  nd : ∀ x ∈ nds, NdOk M x
  dom : ∀ k, M k ≠ none ↔ k ∈ allK (prts nds)
  few : (allK (prts nds)).length ≤ L
  tabs : ∀ x ∈ nds, x.ts.length ≤ L + 1
theorem flat_mid (a b : List Tb) (t : Tb) : flatT (a ++ t :: b) = flatT a ++ (t.ks ++ flatT b) := by simp [flatT]
theorem ne_some {α : Type} {o : Option α} (h : o ≠ none) : ∃ v, o = some v := by cases o with | none => exact absurd rfl h | some v => exact ⟨v, rfl⟩

section
variable {M : ByteArray → Option Int} {x : Nd} {a b : List Tb} {t : Tb} {key : ByteArray}
theorem NdOk.only (h : NdOk M x) (hn : x.p.keys.Nodup) (hx : x.ts = a ++ t :: b) (hk : t.m key ≠ none) : ∀ s ∈ a ++ b, s.m key = none := by
  intro s hs
  have hd := h.perm.nodup_iff.2 hn
  rw [hx, flat_mid, List.nodup_append, List.nodup_append] at hd
  have htk : key ∈ t.ks := ((h.card t (by rw [hx]; simp)).2 key).2 hk
  have hsx : s ∈ x.ts := by rw [hx]; rw [List.mem_append] at hs ⊢; rcases hs with hs | hs; exact .inl hs; exact .inr (List.mem_cons_of_mem _ hs)
  cases hc : s.m key with
  | none => rfl
  | some v =>
    have hsk : key ∈ s.ks := ((h.card s hsx).2 key).2 (by rw [hc]; simp)
    rw [List.mem_append] at hs
    rcases hs with hs | hs
    · exact absurd rfl (hd.2.2 key (List.mem_flatMap.2 ⟨s, hs, hsk⟩) key (List.mem_append.2 (.inl htk)))
    · exact absurd rfl (hd.2.1.2.2 key htk key (List.mem_flatMap.2 ⟨s, hs, hsk⟩))
theorem NdOk.in_iff (h : NdOk M x) : key ∈ x.p.keys ↔ ∃ t ∈ x.ts, t.m key ≠ none := by
  rw [← h.perm.mem_iff, List.mem_flatMap]
  constructor
  · rintro ⟨t, ht, hk⟩; exact ⟨t, ht, ((h.card t ht).2 key).1 hk⟩
  · rintro ⟨t, ht, hk⟩; exact ⟨t, ht, ((h.card t ht).2 key).2 hk⟩
/-- A node's tables with one changed. -/
theorem NdOk.retab {M' : ByteArray → Option Int} {t' : Tb} {r c : Nat} {p' : PartR} (h : NdOk M x) (hx : x.ts = a ++ t :: b) (hd : p'.dep = x.p.dep) (ht : t'.t = t.t) (hg : ∀ s ∈ a ++ b, s.g ≠ t'.g) (hC : Card t'.m t'.ks) (hf : t'.ks.length ≤ 112)
    (hs : ∀ k v, t'.m k = some v → M' k = some v) (ho : ∀ s ∈ a ++ b, ∀ k v, s.m k = some v → M k = some v → M' k = some v) (hp : (flatT (a ++ t' :: b)).Perm p'.keys) : NdOk M' ⟨x.b, r, c, p', a ++ t' :: b⟩ := by
  have hin : ∀ s, s ∈ a ++ b → s ∈ x.ts := by
    intro s hs; rw [hx]; rw [List.mem_append] at hs ⊢; rcases hs with hs | hs
    · exact .inl hs
    · exact .inr (List.mem_cons_of_mem _ hs)
  have hmem : ∀ s, s ∈ a ++ t' :: b → s = t' ∨ s ∈ a ++ b := by
    intro s hs; rw [List.mem_append, List.mem_cons] at hs; rw [List.mem_append]; rcases hs with hs | hs | hs
    · exact .inr (.inl hs)
    · exact .inl hs
    · exact .inr (.inr hs)
  have hlen : (a ++ t' :: b).length = x.ts.length := by rw [hx]; simp
  refine ⟨?_, ?_, ?_, hp, fun e => hlen.trans (h.one (by simp only at e; omega)), by simp only; rw [hlen]; exact h.pos, ?_⟩
  · intro s hsm; rcases hmem s hsm with rfl | q
    · exact hC
    · exact h.card s (hin s q)
  · intro s hsm; rcases hmem s hsm with rfl | q
    · exact hf
    · exact h.few s (hin s q)
  · intro s hsm; rcases hmem s hsm with rfl | q
    · exact hs
    · exact fun k v hk => ho s q k v hk (h.sub s (hin s q) k v hk)
  · have hap := h.ap
    rw [hx] at hap
    simp only [List.pairwise_append, List.pairwise_cons, List.mem_cons, forall_eq_or_imp] at hap ⊢
    obtain ⟨h1, ⟨h2, h3⟩, h4⟩ := hap
    refine ⟨h1, ⟨fun s hs => ?_, h3⟩, fun s hs => ⟨?_, (h4 s hs).2⟩⟩
    · rw [ht]; exact ⟨(h2 s hs).1, fun e => hg s (List.mem_append.2 (.inr hs)) e.symm⟩
    · rw [ht]; exact ⟨(h4 s hs).1.1, hg s (List.mem_append.2 (.inl hs))⟩
end

section
variable {seed : Int} {D : Nat} {nds : List Nd} {M : ByteArray → Option Int} {L : Nat} {key : ByteArray} {x : Nd} {a b : List Tb} {t t' : Tb}
theorem prts_at {i : Nat} {p : PartR} (h : (prts nds)[i]? = some p) : ∃ x, nds[i]? = some x ∧ x.p = p ∧ x ∈ nds := by
  unfold prts at h
  rw [List.getElem?_map] at h
  cases hx : nds[i]? with
  | none => rw [hx] at h; cases h
  | some x => rw [hx] at h; simp only [Option.map_some, Option.some.injEq] at h; exact ⟨x, rfl, h, List.mem_of_getElem? hx⟩
/-- A hash's node. -/
theorem DOk.node (h : DOk seed D nds M L) (n : Nat) : ∃ x, nds[pix (prts nds) n]? = some x ∧ n % 2 ^ x.p.dep = x.p.bits ∧ x ∈ nds ∧ nodeOf nds n = x.b := by
  obtain ⟨p, hp, hx, _⟩ := h.ok.pix_at n
  obtain ⟨x, h1, rfl, h2⟩ := prts_at hp
  refine ⟨x, h1, hx, h2, ?_⟩
  unfold nodeOf; rw [h1]
theorem DOk.part (_ : DOk seed D nds M L) (hx : x ∈ nds) : x.p ∈ prts nds := List.mem_map.2 ⟨x, hx, rfl⟩
theorem DOk.none_of (h : DOk seed D nds M L) (hi : nds[pix (prts nds) (hN seed key)]? = some x) (hf : ∀ t ∈ x.ts, t.m key = none) : M key = none := by
  cases hc : M key with
  | none => rfl
  | some v =>
    have h1 := (h.dom key).1 (by rw [hc]; simp)
    rw [h.ok.key_at (prts_get hi), (h.nd x (List.mem_of_getElem? hi)).in_iff] at h1
    obtain ⟨t, ht, hk⟩ := h1
    exact absurd (hf t ht) hk
theorem DOk.some_of (h : DOk seed D nds M L) (hxm : x ∈ nds) (ht : t ∈ x.ts) (hk : t.m key ≠ none) : M key = t.m key := by
  obtain ⟨v, hv⟩ := ne_some hk
  rw [hv]; exact (h.nd x hxm).sub t ht key v hv
theorem DOk.elsewhere (h : DOk seed D nds M L) {j : Nat} {y : Nd} (hj : nds[j]? = some y) (hne : j ≠ pix (prts nds) (hN seed key)) {s : Tb} (hs : s ∈ y.ts) : s.m key = none := by
  cases hc : s.m key with
  | none => rfl
  | some v =>
    have hy := List.mem_of_getElem? hj
    have hk : key ∈ y.p.keys := (h.nd y hy).in_iff.2 ⟨s, hs, by rw [hc]; simp⟩
    exact absurd (h.ok.pix_eq (prts_get hj) (h.ok.keys _ (h.part hy) key hk)) hne
theorem upd_old {m : ByteArray → Option Int} {k key : ByteArray} {u : Int} {o : Option Int} (h : m k = some u) (hne : k ≠ key) : updM m key o k = some u := by unfold updM; rw [if_neg hne]; exact h
theorem upd_sub {m M : ByteArray → Option Int} {key : ByteArray} {o : Option Int} (h : ∀ k v, m k = some v → M k = some v) : ∀ k v, updM m key o k = some v → updM M key o k = some v := by
  intro k v; unfold updM
  by_cases c : k = key
  · rw [if_pos c, if_pos c]; exact id
  · rw [if_neg c, if_neg c]; exact h k v

/-- A node's tables are changed: all that is asked of the whole. -/
theorem DOk.renode {i L' : Nat} {M' : ByteArray → Option Int} {x' : Nd} (h : DOk seed D nds M L) (hok : SOk seed D ((prts nds).set i x'.p)) (hx' : NdOk M' x') (ho : ∀ j y, nds[j]? = some y → j ≠ i → ∀ s ∈ y.ts, ∀ k v, s.m k = some v → M k = some v → M' k = some v)
    (hdom : ∀ k, M' k ≠ none ↔ k ∈ allK ((prts nds).set i x'.p)) (hf : (allK ((prts nds).set i x'.p)).length ≤ L') (hL : L ≤ L') (ht : x'.ts.length ≤ L' + 1) : DOk seed D (nds.set i x') M' L' := by
  have hp := prts_set (nds := nds) i x'
  refine ⟨by rw [hp]; exact hok, ?_, by rw [hp]; exact hdom, by rw [hp]; exact hf, ?_⟩
  · intro y hy
    obtain ⟨j, hj⟩ := List.mem_iff_getElem?.1 hy
    rcases set_get hj with ⟨_, rfl, _⟩ | ⟨c, hj⟩
    · exact hx'
    · have q := h.nd y (List.mem_of_getElem? hj)
      exact ⟨q.card, q.few, fun s hs k v hk => ho j y hj c s hs k v hk (q.sub s hs k v hk), q.perm, q.one, q.pos, q.ap⟩
  · intro y hy
    obtain ⟨j, hj⟩ := List.mem_iff_getElem?.1 hy
    rcases set_get hj with ⟨_, rfl, _⟩ | ⟨c, hj⟩
    · exact ht
    · have := h.tabs y (List.mem_of_getElem? hj); omega
theorem set_self {α : Type} {l : List α} {i : Nat} {x : α} (h : l[i]? = some x) : l.set i x = l := by
  apply List.ext_getElem?
  intro j
  by_cases c : j = i
  · subst c; rw [set_here (List.getElem?_eq_some_iff.1 h).1, h]
  · rw [set_else c]

/-- A key that is there has something else. -/
theorem DOk.set (h : DOk seed D nds M L) (hi : nds[pix (prts nds) (hN seed key)]? = some x) (hx : x.ts = a ++ t :: b) (hk : t.m key ≠ none) (v : Int) (ht : t'.t = t.t) (hm : t'.m = updM t.m key (some v)) (hks : t'.ks = t.ks) (hg : ∀ s ∈ a ++ b, s.g ≠ t'.g) :
    DOk seed D (nds.set (pix (prts nds) (hN seed key)) ⟨x.b, x.r, x.c, x.p, a ++ t' :: b⟩) (updM M key (some v)) L := by
  have hxm := List.mem_of_getElem? hi
  have hN := h.nd x hxm
  have htm : t ∈ x.ts := by rw [hx]; simp
  have hset := set_self (prts_get hi)
  have hMk : M key ≠ none := by rw [h.some_of hxm htm hk]; exact hk
  refine h.renode (by rw [hset]; exact h.ok) (hN.retab hx rfl ht hg (by rw [hm, hks]; exact (hN.card t htm).same hk v) (by rw [hks]; exact hN.few t htm) (by rw [hm]; exact upd_sub (hN.sub t htm)) ?_ ?_) ?_ ?_ (by rw [hset]; exact h.few) (Nat.le_refl _) ?_
  · intro s hs k u hsk hMk
    exact upd_old hMk (by rintro rfl; rw [hN.only (h.ok.nodup _ (h.part hxm)) hx hk s hs] at hsk; cases hsk)
  · rw [flat_mid, hks, ← flat_mid, ← hx]; exact hN.perm
  · intro j y hj hne s hs k u hsk hMk
    exact upd_old hMk (by rintro rfl; rw [h.elsewhere hj hne hs] at hsk; cases hsk)
  · intro k
    rw [hset, ← h.dom k]
    unfold updM
    by_cases c : k = key
    · subst c; simp [hMk]
    · rw [if_neg c]
  · have := h.tabs x hxm; rw [hx] at this; simpa using this

/-- A key is added. -/
theorem DOk.add (h : DOk seed D nds M L) (hi : nds[pix (prts nds) (hN seed key)]? = some x) (hx : x.ts = a ++ t :: b) (hk : M key = none) (hr : t.ks.length < 112) (hsz : key.size ≤ 20) (v : Int) (ht : t'.t = t.t) (hm : t'.m = updM t.m key (some v)) (hks : t'.ks = t.ks ++ [key])
    (hg : ∀ s ∈ a ++ b, s.g ≠ t'.g) : DOk seed D (nds.set (pix (prts nds) (hN seed key)) ⟨x.b, x.r, x.c, ⟨x.p.dep, x.p.bits, x.p.keys ++ [key]⟩, a ++ t' :: b⟩) (updM M key (some v)) (L + 1) := by
  have hxm := List.mem_of_getElem? hi
  have hNd := h.nd x hxm
  have htm : t ∈ x.ts := by rw [hx]; simp
  have hnone : ∀ s ∈ x.ts, s.m key = none := by
    intro s hs
    cases hc : s.m key with
    | none => rfl
    | some u => rw [hNd.sub s hs key u hc] at hk; cases hk
  have hnk : key ∉ x.p.keys := fun e => by obtain ⟨s, hs, q⟩ := hNd.in_iff.1 e; exact q (hnone s hs)
  have hfull : x.p.keys.length < 112 ∨ 16 ≤ x.p.dep := by
    by_cases c : x.p.dep < 16
    · left
      have h1 := hNd.one c
      have h2 := hNd.perm.length_eq
      rw [hx] at h1
      simp only [List.length_append, List.length_cons] at h1
      obtain rfl : a = [] := List.length_eq_zero_iff.1 (by omega)
      obtain rfl : b = [] := List.length_eq_zero_iff.1 (by omega)
      rw [hx] at h2
      simp [flatT] at h2
      omega
    · exact .inr (by omega)
  obtain ⟨hS, hmem⟩ := h.ok.add (prts_get hi) hfull hnk hsz
  have hin : ∀ s, s ∈ a ++ b → s ∈ x.ts := by
    intro s hs; rw [hx]; rw [List.mem_append] at hs ⊢; rcases hs with hs | hs
    · exact .inl hs
    · exact .inr (List.mem_cons_of_mem _ hs)
  have hold : ∀ k u, M k = some u → updM M key (some v) k = some u := fun k u hu => upd_old hu (by rintro rfl; rw [hk] at hu; cases hu)
  refine h.renode hS (hNd.retab hx rfl ht hg (by rw [hm, hks]; exact (hNd.card t htm).snoc (hnone t htm) v) (by rw [hks]; simp; omega) (by rw [hm]; exact upd_sub (hNd.sub t htm)) (fun s hs k u _ => hold k u) ?_) (fun j y hj hne s hs k u _ => hold k u) ?_ ?_ (by omega) ?_
  · rw [flat_mid, hks]
    have hp := hNd.perm
    rw [hx, flat_mid] at hp
    refine List.Perm.trans ?_ (hp.append_right [key])
    rw [List.append_assoc, List.append_assoc]
    refine List.Perm.append_left _ ?_
    rw [List.append_assoc]
    exact List.Perm.append_left _ List.perm_append_comm
  · intro k
    rw [hmem k, ← h.dom k]
    unfold updM
    by_cases c : k = key
    · subst c; simp
    · rw [if_neg c]; simp [c]
  · have hn := hS.allK_nodup
    have : (allK ((prts nds).set (pix (prts nds) (hN seed key)) ⟨x.p.dep, x.p.bits, x.p.keys ++ [key]⟩)).length ≤ (allK (prts nds) ++ [key]).length :=
      hn.length_le_of_subset fun k hk' => by rw [hmem k] at hk'; rw [List.mem_append, List.mem_singleton]; exact hk'
    simp only [List.length_append, List.length_singleton] at this
    have := h.few
    simp only
    omega
  · have := h.tabs x hxm; rw [hx] at this; simp at this ⊢; omega

/-- .. and there is one key more. -/
theorem SOk.add_len {ps : List PartR} (h : SOk seed D ps) {p : PartR} (hp : ps[pix ps (hN seed key)]? = some p) (hf : p.keys.length < 112 ∨ 16 ≤ p.dep) (hk : key ∉ allK ps) (hs : key.size ≤ 20) :
    (allK (ps.set (pix ps (hN seed key)) ⟨p.dep, p.bits, p.keys ++ [key]⟩)).length = (allK ps).length + 1 := by
  have hk' : key ∉ p.keys := fun e => hk ((h.key_at hp).2 e)
  obtain ⟨hS, hmem⟩ := h.add hp hf hk' hs
  have hp' : (allK (ps.set (pix ps (hN seed key)) ⟨p.dep, p.bits, p.keys ++ [key]⟩)).Perm (allK ps ++ [key]) := by
    rw [List.perm_ext_iff_of_nodup hS.allK_nodup]
    · intro k; rw [hmem k, List.mem_append, List.mem_singleton]
    · exact List.nodup_append.2 ⟨h.allK_nodup, by simp, fun a ha b hb => by rw [List.mem_singleton] at hb; subst hb; rintro rfl; exact hk ha⟩
  rw [hp'.length_eq]; simp
theorem SOk.del_len {ps : List PartR} (h : SOk seed D ps) (hk : key ∈ allK ps) : (allK (delS seed ps key)).length + 1 = (allK ps).length := by
  obtain ⟨hS, hmem⟩ := h.del key
  have hp' : (key :: allK (delS seed ps key)).Perm (allK ps) := by
    rw [List.perm_ext_iff_of_nodup _ h.allK_nodup]
    · intro k; rw [List.mem_cons, hmem k]
      constructor
      · rintro (rfl | e)
        · exact hk
        · exact e.1
      · intro e
        by_cases c : k = key
        · exact .inl c
        · exact .inr ⟨e, c⟩
    · exact List.nodup_cons.2 ⟨fun e => ((hmem key).1 e).2 rfl, hS.allK_nodup⟩
  rw [← hp'.length_eq]; simp
theorem del_none {ps : List PartR} (h : SOk seed D ps) (hk : key ∉ allK ps) : delS seed ps key = ps := by
  obtain ⟨p, hp, _⟩ := h.pix_at (hN seed key)
  rw [delS_eq hp, dropK_none (fun e => hk ((h.key_at hp).2 e))]
  exact set_self hp

/-- A key is taken away. -/
theorem DOk.del (h : DOk seed D nds M L) (hi : nds[pix (prts nds) (hN seed key)]? = some x) (hx : x.ts = a ++ t :: b) (hk : t.m key ≠ none) (ht : t'.t = t.t) (hm : t'.m = updM t.m key none) (hks : t'.ks = dropK t.ks key) (hg : ∀ s ∈ a ++ b, s.g ≠ t'.g) :
    DOk seed D (nds.set (pix (prts nds) (hN seed key)) ⟨x.b, x.r, x.c, ⟨x.p.dep, x.p.bits, dropK x.p.keys key⟩, a ++ t' :: b⟩) (updM M key none) L ∧ (prts nds).set (pix (prts nds) (hN seed key)) ⟨x.p.dep, x.p.bits, dropK x.p.keys key⟩ = delS seed (prts nds) key := by
  have hxm := List.mem_of_getElem? hi
  have hNd := h.nd x hxm
  have htm : t ∈ x.ts := by rw [hx]; simp
  have he := (delS_eq (prts_get hi)).symm
  obtain ⟨hS, hmem⟩ := h.ok.del key
  have honly := hNd.only (h.ok.nodup _ (h.part hxm)) hx hk
  refine ⟨h.renode (by rw [he]; exact hS) (hNd.retab hx rfl ht hg (by rw [hm, hks]; exact filter_card (hNd.card t htm) key) (by rw [hks]; exact Nat.le_trans (List.length_filter_le _ _) (hNd.few t htm)) (by rw [hm]; exact upd_sub (hNd.sub t htm)) ?_ ?_) ?_ ?_ ?_ (Nat.le_refl _) ?_, he⟩
  · intro s hs k u hsk hMk
    exact upd_old hMk (by rintro rfl; rw [honly s hs] at hsk; cases hsk)
  · rw [flat_mid, hks]
    have hp := hNd.perm.filter (fun k => decide (k ≠ key))
    rw [hx, flat_mid, List.filter_append, List.filter_append] at hp
    have nk : ∀ s ∈ a ++ b, ∀ k ∈ s.ks, k ≠ key := by
      rintro s hs k hq rfl
      have hsx : s ∈ x.ts := by rw [hx]; rw [List.mem_append] at hs ⊢; rcases hs with hs | hs; exact .inl hs; exact .inr (List.mem_cons_of_mem _ hs)
      exact ((hNd.card s hsx).2 k).1 hq (honly s hs)
    have ea : (flatT a).filter (fun k => decide (k ≠ key)) = flatT a := by
      rw [List.filter_eq_self]; intro k hk'
      obtain ⟨s, hs, hks'⟩ := List.mem_flatMap.1 hk'
      simpa using nk s (List.mem_append.2 (.inl hs)) k hks'
    have eb : (flatT b).filter (fun k => decide (k ≠ key)) = flatT b := by
      rw [List.filter_eq_self]; intro k hk'
      obtain ⟨s, hs, hks'⟩ := List.mem_flatMap.1 hk'
      simpa using nk s (List.mem_append.2 (.inr hs)) k hks'
    rw [ea, eb] at hp
    exact hp
  · intro j y hj hne s hs k u hsk hMk
    exact upd_old hMk (by rintro rfl; rw [h.elsewhere hj hne hs] at hsk; cases hsk)
  · intro k
    simp only
    rw [he, hmem k, ← h.dom k]
    unfold updM
    by_cases c : k = key
    · subst c; simp
    · rw [if_neg c]; simp [c]
  · simp only
    rw [he]
    have := h.ok.del_len ((h.dom key).1 (by rw [h.some_of hxm htm hk]; exact hk))
    have := h.few
    omega
  · have := h.tabs x hxm; rw [hx] at this; simpa using this

/-- A table more in a node of the greatest depth. -/
theorem DOk.more (h : DOk seed D nds M L) {i r c : Nat} (hi : nds[i]? = some x) (hd : 16 ≤ x.p.dep) (hm : t.m = fun _ => none) (hks : t.ks = []) (hap : ∀ s ∈ x.ts, s.t ≠ t.t ∧ s.g ≠ t.g) : DOk seed D (nds.set i ⟨x.b, r, c, x.p, x.ts ++ [t]⟩) M (L + 1) := by
  have hxm := List.mem_of_getElem? hi
  have hNd := h.nd x hxm
  have hset := set_self (prts_get hi)
  have hmem : ∀ s, s ∈ x.ts ++ [t] → s ∈ x.ts ∨ s = t := fun s hs => by rw [List.mem_append, List.mem_singleton] at hs; exact hs
  refine h.renode (by rw [hset]; exact h.ok) ⟨?_, ?_, ?_, ?_, fun e => ?_, by simp, ?_⟩ (fun j y hj hne s hs k u _ hu => hu) (by rw [hset]; exact h.dom) (by rw [hset]; have := h.few; omega) (by omega) (by have := h.tabs x hxm; simp; omega)
  · intro s hs; rcases hmem s hs with q | rfl
    · exact hNd.card s q
    · rw [hm, hks]; exact Card.nil
  · intro s hs; rcases hmem s hs with q | rfl
    · exact hNd.few s q
    · rw [hks]; simp
  · intro s hs k u hk; rcases hmem s hs with q | rfl
    · exact hNd.sub s q k u hk
    · rw [hm] at hk; cases hk
  · have : flatT (x.ts ++ [t]) = flatT x.ts := by simp [flatT, hks]
    simp only; rw [this]; exact hNd.perm
  · simp only at e; omega
  · simp only [List.pairwise_append, List.pairwise_cons, List.mem_singleton, forall_eq]
    exact ⟨hNd.ap, ⟨by simp, List.Pairwise.nil⟩, hap⟩

theorem side_hN (seed : Int) (k : ByteArray) (d : Nat) (hd : d < 64) : sideI (hk seed k) d = ((hN seed k / 2 ^ d % 2 : Nat) : Int) := by
  unfold sideI
  rw [if_pos (by omega), hN_int]
  simp
/-- A node of one table is split. -/
theorem DOk.split (h : DOk seed D nds M L) {i ba ra ca bb rb cb : Nat} {ta tc : Tb} (hi : nds[i]? = some x) (hd : x.p.dep < 16) (hx : x.ts = [t]) (hma : ta.m = fun k => if sideI (hk seed k) x.p.dep = 0 then t.m k else none)
    (hmc : tc.m = fun k => if sideI (hk seed k) x.p.dep = 1 then t.m k else none) (hka : ta.ks = t.ks.filter fun k => decide (sideI (hk seed k) x.p.dep = 0)) (hkc : tc.ks = t.ks.filter fun k => decide (sideI (hk seed k) x.p.dep = 1)) :
    DOk seed (max D (x.p.dep + 1)) (nds.set i ⟨ba, ra, ca, spA seed x.p, [ta]⟩ ++ [⟨bb, rb, cb, spB seed x.p, [tc]⟩]) M L ∧
      prts (nds.set i ⟨ba, ra, ca, spA seed x.p, [ta]⟩ ++ [⟨bb, rb, cb, spB seed x.p, [tc]⟩]) = spS seed (prts nds) i x.p := by
  have hxm := List.mem_of_getElem? hi
  have hNd := h.nd x hxm
  have htm : t ∈ x.ts := by rw [hx]; simp
  have hC := hNd.card t htm
  have hsd := fun k => side_hN seed k x.p.dep (by omega)
  have he : prts (nds.set i ⟨ba, ra, ca, spA seed x.p, [ta]⟩ ++ [⟨bb, rb, cb, spB seed x.p, [tc]⟩]) = spS seed (prts nds) i x.p := by
    unfold spS; simp [prts]
  have hp : t.ks.Perm x.p.keys := by have := hNd.perm; rw [hx] at this; simpa [flatT] using this
  have fa : ∀ (s : Nat), (t.ks.filter fun k => decide (sideI (hk seed k) x.p.dep = (s : Int))).Perm (halfK seed x.p.dep s x.p.keys) := by
    intro s
    unfold halfK
    have : (fun k => decide (hN seed k / 2 ^ x.p.dep % 2 = s)) = fun k => decide (sideI (hk seed k) x.p.dep = (s : Int)) := by
      funext k; rw [hsd k]
      exact decide_eq_decide.2 ⟨fun e => by rw [e], fun e => Int.ofNat_inj.1 e⟩
    rw [this]
    exact hp.filter _
  refine ⟨⟨by rw [he]; exact h.ok.split (prts_get hi) hd, ?_, by rw [he]; exact fun k => (h.dom k).trans (h.ok.split_all (prts_get hi) k).symm, ?_, ?_⟩, he⟩
  · intro y hy
    rw [List.mem_append, List.mem_singleton] at hy
    rcases hy with hy | rfl
    · obtain ⟨j, hj⟩ := List.mem_iff_getElem?.1 hy
      rcases set_get hj with ⟨_, rfl, _⟩ | ⟨c, hj⟩
      · refine ⟨?_, ?_, ?_, ?_, fun _ => rfl, by simp, by simp⟩
        · intro s hs; rw [List.mem_singleton] at hs; subst hs; rw [hma, hka]; exact half_card hC seed _ 0
        · intro s hs; rw [List.mem_singleton] at hs; subst hs; rw [hka]; exact Nat.le_trans (List.length_filter_le _ _) (hNd.few t htm)
        · intro s hs k u hk; rw [List.mem_singleton] at hs; subst hs; rw [hma] at hk; simp only at hk; split at hk
          · exact hNd.sub t htm k u hk
          · cases hk
        · have := fa 0
          simp only [flatT, List.flatMap_cons, List.flatMap_nil, List.append_nil]; rw [hka]; exact this
      · exact h.nd y (List.mem_of_getElem? hj)
    · refine ⟨?_, ?_, ?_, ?_, fun _ => rfl, by simp, by simp⟩
      · intro s hs; rw [List.mem_singleton] at hs; subst hs; rw [hmc, hkc]; exact half_card hC seed _ 1
      · intro s hs; rw [List.mem_singleton] at hs; subst hs; rw [hkc]; exact Nat.le_trans (List.length_filter_le _ _) (hNd.few t htm)
      · intro s hs k u hk; rw [List.mem_singleton] at hs; subst hs; rw [hmc] at hk; simp only at hk; split at hk
        · exact hNd.sub t htm k u hk
        · cases hk
      · have := fa 1
        simp only [flatT, List.flatMap_cons, List.flatMap_nil, List.append_nil]; rw [hkc]; exact this
  · rw [he]
    have hs := h.ok.split (prts_get hi) hd
    have := hs.allK_nodup.length_le_of_subset (l₂ := allK (prts nds)) fun k hk => (h.ok.split_all (prts_get hi) k).1 hk
    have := h.few
    omega
  · intro y hy
    rw [List.mem_append, List.mem_singleton] at hy
    rcases hy with hy | rfl
    · obtain ⟨j, hj⟩ := List.mem_iff_getElem?.1 hy
      rcases set_get hj with ⟨_, rfl, _⟩ | ⟨c, hj⟩
      · simp
      · exact h.tabs y (List.mem_of_getElem? hj)
    · simp
theorem SOk.split_len {ps : List PartR} (h : SOk seed D ps) {i : Nat} {p : PartR} (hi : ps[i]? = some p) (hd : p.dep < 16) : (allK (spS seed ps i p)).length = (allK ps).length :=
  ((List.perm_ext_iff_of_nodup (h.split hi hd).allK_nodup h.allK_nodup).2 (h.split_all hi)).length_eq
end

section
variable {w : World} {db : Nat} {seed : Int} {D n dr dc : Nat} {nds : List Nd} {F : Nat → Prop}
set_option maxRecDepth 100000 in
set_option maxHeartbeats 1000000 in
theorem place_d (h : DMem w db seed D n dr dc nds F) (hD : D ≤ 16) (x : Int) (x0 : 0 ≤ x) (x1 : x < 18446744073709551616) :
    Calls Try.prog 65 #[.pointer (some ⟨db, 0, none⟩), .int .u64 x] w fun e w' => e = .returned (.pointer (some ⟨nodeOf nds (x.toNat % 2 ^ D), 0, none⟩)) ∧ ∃ m, w' = w.drewN m := by
  obtain ⟨_, c1, c2, _⟩ := h.cells
  have hj := Nat.mod_lt x.toNat (Nat.two_pow_pos D)
  have hd := h.dir _ hj
  have hlow : lowI x D = ((x.toNat % 2 ^ D : Nat) : Int) := by have := (low_toNat x D x0 (by omega) (by omega)).2; simpa using this
  have hp := pow16 hD
  generalize x.toNat % 2 ^ D = j at *
  generalize 2 ^ D = N at *
  have HL := Lib.hid hlow
  have HC := Lib.hid fun (W : World) => hlow ▸ low_any x D W x0 x1
  clear hlow h
  go_enter Try.func65, Try.ntmps65
  go_wp2
  go_quiet ((go_at_call 94; exact q_same (HC.out _)))
  go_wp2
  go_ret
  exact ⟨rfl, _, rfl⟩
end

theorem place_n {w : World} {db : Nat} {seed : Int} {D n dr dc : Nat} {nds : List Nd} {F : Nat → Prop} {M : ByteArray → Option Int} {L : Nat} (h : DMem w db seed D n dr dc nds F) (ho : DOk seed D nds M L) (key : ByteArray) :
    Calls Try.prog 65 #[.pointer (some ⟨db, 0, none⟩), .int .u64 (hk seed key)] w fun e w' => (∃ x, nds[pix (prts nds) (hN seed key)]? = some x ∧ e = .returned (.pointer (some ⟨x.b, 0, none⟩))) ∧ Below w.heap.size w w' := by
  have hb := hk_bd seed key
  refine (place_d h ho.ok.dmax (hk seed key) hb.1 hb.2).mono ?_
  rintro e w' ⟨rfl, m, rfl⟩
  obtain ⟨x, h1, h2, h3, h4⟩ := ho.node (hN seed key)
  refine ⟨⟨x, h1, ?_⟩, (IsDrew.one _ m).below _⟩
  have hd := ho.ok.dep x.p (ho.part h3)
  have hs : pix (prts nds) ((hk seed key).toNat % 2 ^ D) = pix (prts nds) (hN seed key) :=
    ho.ok.pix_same (y := hN seed key) (prts_get h1) (mod_le_pow hd)
  have he : nodeOf nds ((hk seed key).toNat % 2 ^ D) = nodeOf nds (hN seed key) := by unfold nodeOf; rw [hs]
  rw [he, h4]

section
variable {w : World} {seed : Int} {x : Nd}
theorem NdAt.tabs_at (h : NdAt w seed x) (j : Nat) (t : Tb) (ht : x.ts[j]? = some t) : w.cell? ⟨x.r, j, none⟩ = some (.pointer (some ⟨t.t, 0, none⟩)) := by
  have hj := (List.getElem?_eq_some_iff.1 ht).1
  rw [World.ownsRow.cellAt (cap := x.c) (n := x.ts.length) h.row j (by omega), List.getElem?_map, ht]; rfl
theorem mid_of {α : Type} {l : List α} {j : Nat} {t : α} (h : l[j]? = some t) : l = l.take j ++ t :: l.drop (j + 1) := by
  have hj := (List.getElem?_eq_some_iff.1 h).1
  have e : l[j] = t := (List.getElem?_eq_some_iff.1 h).2
  rw [← e, List.getElem_cons_drop, List.take_append_drop]
/-- The first of a node's tables of which something holds. -/
def FirstT (x : Nd) (p : Tb → Prop) (e : Ending) : Prop := (∃ a t b, x.ts = a ++ t :: b ∧ p t ∧ e = .returned (.pointer (some ⟨t.t, 0, none⟩))) ∨ ((∀ t ∈ x.ts, ¬ p t) ∧ e = .returned (.pointer none))

set_option maxRecDepth 100000 in
set_option maxHeartbeats 1000000 in
theorem find_d (h : NdAt w seed x) (key : ByteArray) (hk : key.size ≤ maxLen) :
    Calls Try.prog 66 #[.pointer (some ⟨x.b, 0, none⟩), .string key] w fun e w' => FirstT x (fun t => t.m key ≠ none) e ∧ Below w.heap.size w w' := by
  have HN := Lib.hid fun (W : World) (hb : Below w.heap.size w W) => h.later hb
  have hlen : x.ts.length ≤ maxLen := owns_maxLen h.row
  unfold maxLen at hlen
  obtain ⟨c0, c1⟩ := h.cells
  unfold Nd.lv at c1
  have HL : Hid (∀ t, x.ts[x.ts.length]? = some t → False) := fun t ht => by simp at ht
  clear h
  generalize hn : x.ts.length = n at *
  have HE := Lib.hid hn
  clear hn
  go_enter Try.func66, Try.ntmps66
  go_wp2
  go_loopw [14] (fun i wr => ∃ j : Nat, j ≤ n ∧ i = .int .i64 j ∧ (∀ t ∈ x.ts.take j, t.m key = none) ∧ Below w.heap.size w wr) (fun i _ => n - (intOf i).toNat)
  case atStart => exact ⟨0, by omega, rfl, by simp, Below.refl _ _⟩
  case round =>
    obtain ⟨j, hj, rfl, hno, hb⟩ := hrel
    have HO := Lib.hid hno
    have hbs := hb.size
    clear hno
    by_cases hlt : j < n
    · obtain ⟨t, ht⟩ : ∃ t, x.ts[j]? = some t := ⟨_, List.getElem?_eq_getElem (by rw [HE.out]; exact hlt)⟩
      have hN := HN.out wr hb
      have hc := hN.tabs_at j t ht
      have htm := List.mem_of_getElem? ht
      have HT := Lib.hid ht
      have HT2 : Hid (x.ts.take (j + 1) = x.ts.take j ++ [t]) := by unfold Hid; rw [List.take_add_one, ht]; rfl
      by_cases c : t.m key = none
      · have HG := Lib.hid (c ▸ get_tb wr (hN.tab t htm) key hk)
        have HC := Lib.hid c
        clear c hN ht htm
        go_wp2_with (go_at_call 22; refine HG.out.mono ?_; rintro e w3 ⟨rfl, hb3⟩)
        go_roundw
        case rel =>
          refine ⟨j + 1, by omega, by go_num, ?_, hb.trans (hb3.mono hbs)⟩
          rw [HT2.out]
          intro s hs
          rw [List.mem_append, List.mem_singleton] at hs
          rcases hs with hs | rfl
          · exact HO.out s hs
          · exact HC.out
        case measure => simp [intOf]; omega
      · obtain ⟨v, hv⟩ := ne_some c
        have HG := Lib.hid (hv ▸ get_tb wr (hN.tab t htm) key hk)
        have HC := Lib.hid c
        clear c hv hN ht htm
        go_wp2_with (go_at_call 22; refine HG.out.mono ?_; rintro e w3 ⟨rfl, hb3⟩)
        go_ret
        exact ⟨.inl ⟨_, t, _, mid_of HT.out, HC.out, rfl⟩, hb.trans (hb3.mono hbs)⟩
    · obtain rfl : j = n := by omega
      go_wp2
      go_ret
      refine ⟨.inr ⟨fun t ht c => c (HO.out t ?_), rfl⟩, hb⟩
      rw [List.take_of_length_le (by rw [HE.out]; omega)]; exact ht

set_option maxRecDepth 100000 in
set_option maxHeartbeats 1000000 in
theorem room_d (h : NdAt w seed x) (hC : ∀ t ∈ x.ts, Card t.m t.ks) (hf : ∀ t ∈ x.ts, t.ks.length ≤ 112) :
    Calls Try.prog 67 #[.pointer (some ⟨x.b, 0, none⟩)] w fun e w' => FirstT x (fun t => t.ks.length < 112) e ∧ w = w' := by
  have HN := Lib.hid h
  have hlen : x.ts.length ≤ maxLen := owns_maxLen h.row
  unfold maxLen at hlen
  obtain ⟨c0, c1⟩ := h.cells
  unfold Nd.lv at c1
  clear h
  have HA := Lib.hid hC
  have HF := Lib.hid hf
  clear hC hf
  generalize hn : x.ts.length = n at *
  have HE := Lib.hid hn
  clear hn
  go_enter Try.func67, Try.ntmps67
  go_wp2
  go_loop [10] (fun i => ∃ j : Nat, j ≤ n ∧ i = .int .i64 j ∧ (∀ t ∈ x.ts.take j, ¬ t.ks.length < 112)) (fun i => n - (intOf i).toNat)
  case atStart => exact ⟨0, by omega, rfl, by simp⟩
  case round =>
    obtain ⟨j, hj, rfl, hno⟩ := hrel
    have HO := Lib.hid hno
    clear hno
    by_cases hlt : j < n
    · obtain ⟨t, ht⟩ : ∃ t, x.ts[j]? = some t := ⟨_, List.getElem?_eq_getElem (by rw [HE.out]; exact hlt)⟩
      have hc := HN.out.tabs_at j t ht
      have htm := List.mem_of_getElem? ht
      have HT := Lib.hid ht
      have HT2 : Hid (x.ts.take (j + 1) = x.ts.take j ++ [t]) := by unfold Hid; rw [List.take_add_one, ht]; rfl
      have HG := Lib.hid (len_tb w (HN.out.tab t htm) (HA.out t htm))
      have hfl := HF.out t htm
      clear ht htm
      by_cases c : t.ks.length < 112
      · go_wp2_with (go_at_call 19; refine HG.out.mono ?_; rintro e w3 ⟨rfl, rfl⟩)
        go_ret
        exact ⟨.inl ⟨_, t, _, mid_of HT.out, c, rfl⟩, rfl⟩
      · go_wp2_with (go_at_call 19; refine HG.out.mono ?_; rintro e w3 ⟨rfl, rfl⟩)
        go_round
        case rel =>
          refine ⟨j + 1, by omega, by go_num, ?_⟩
          rw [HT2.out]
          intro s hs
          rw [List.mem_append, List.mem_singleton] at hs
          rcases hs with hs | rfl
          · exact HO.out s hs
          · exact c
        case measure => simp [intOf]; omega
    · obtain rfl : j = n := by omega
      go_wp2
      go_ret
      refine ⟨.inr ⟨fun t ht => HO.out t ?_, rfl⟩, rfl⟩
      rw [List.take_of_length_le (by rw [HE.out]; omega)]; exact ht
end

section
variable {w : World} {db : Nat} {seed : Int} {D n dr dc : Nat} {nds : List Nd} {F : Nat → Prop} {M : ByteArray → Option Int} {L : Nat} {x : Nd} {key : ByteArray}
theorem place_x (h : DMem w db seed D n dr dc nds F) (ho : DOk seed D nds M L) (hx : nds[pix (prts nds) (hN seed key)]? = some x) :
    Calls Try.prog 65 #[.pointer (some ⟨db, 0, none⟩), .int .u64 (hk seed key)] w fun e w' => e = .returned (.pointer (some ⟨x.b, 0, none⟩)) ∧ Below w.heap.size w w' := by
  refine (place_n h ho key).mono ?_
  rintro e w' ⟨⟨y, hy, rfl⟩, hb⟩
  rw [hx] at hy
  simp only [Option.some.injEq] at hy
  subst hy
  exact ⟨rfl, hb⟩
theorem find_no (h : NdAt w seed x) (key : ByteArray) (hk : key.size ≤ maxLen) (hno : ∀ t ∈ x.ts, t.m key = none) :
    Calls Try.prog 66 #[.pointer (some ⟨x.b, 0, none⟩), .string key] w fun e w' => e = .returned (.pointer none) ∧ Below w.heap.size w w' := by
  refine (find_d h key hk).mono ?_
  rintro e w' ⟨⟨a, t, b, hx, hk, rfl⟩ | ⟨_, rfl⟩, hb⟩
  · exact absurd (hno t (by rw [hx]; simp)) hk
  · exact ⟨rfl, hb⟩
theorem find_yes (h : NdAt w seed x) (key : ByteArray) (hk : key.size ≤ maxLen) (hyes : ∃ t ∈ x.ts, t.m key ≠ none) :
    Calls Try.prog 66 #[.pointer (some ⟨x.b, 0, none⟩), .string key] w fun e w' => (∃ a t b, x.ts = a ++ t :: b ∧ t.m key ≠ none ∧ e = .returned (.pointer (some ⟨t.t, 0, none⟩))) ∧ Below w.heap.size w w' := by
  refine (find_d h key hk).mono ?_
  rintro e w' ⟨h1 | ⟨h1, _⟩, hb⟩
  · exact ⟨h1, hb⟩
  · obtain ⟨t, ht, hc⟩ := hyes
    exact absurd hc (h1 t ht)
theorem DOk.no_of (h : DOk seed D nds M L) (hx : x ∈ nds) (hk : M key = none) : ∀ t ∈ x.ts, t.m key = none := by
  intro t ht
  cases hc : t.m key with
  | none => rfl
  | some v => rw [(h.nd x hx).sub t ht key v hc] at hk; cases hk
theorem DOk.yes_of (h : DOk seed D nds M L) (hx : nds[pix (prts nds) (hN seed key)]? = some x) (hk : M key ≠ none) : ∃ t ∈ x.ts, t.m key ≠ none := by
  have h1 := (h.dom key).1 hk
  rw [h.ok.key_at (prts_get hx), (h.nd x (List.mem_of_getElem? hx)).in_iff] at h1
  exact h1
end

/-- A dict: its state (depth, parts), what its keys have, where it lies, a bound. -/
def Dct (w : World) (db : Nat) (seed : Int) (S : Nat × List PartR) (M : ByteArray → Option Int) (F : Nat → Prop) (L : Nat) : Prop :=
  ∃ nds dr dc, prts nds = S.2 ∧ DMem w db seed S.1 (allK S.2).length dr dc nds F ∧ DOk seed S.1 nds M L
section
variable {w w' : World} {db : Nat} {seed : Int} {S : Nat × List PartR} {F F' : Nat → Prop} {M : ByteArray → Option Int} {L L' : Nat} {key : ByteArray}
theorem Dct.step (h : Dct w db seed S M F L) (hb : Below w.heap.size w w') : Dct w' db seed S M F L := by
  obtain ⟨nds, dr, dc, h1, h2, h3⟩ := h
  exact ⟨nds, dr, dc, h1, h2.step hb, h3⟩
theorem Dct.stay (h : Dct w db seed S M F L) (hs : w.heap.size ≤ w'.heap.size) (hb : ∀ k, F k → w'.heap[k]? = w.heap[k]?) : Dct w' db seed S M F L := by
  obtain ⟨nds, dr, dc, h1, h2, h3⟩ := h
  exact ⟨nds, dr, dc, h1, h2.stay hs hb, h3⟩
theorem Dct.sok (h : Dct w db seed S M F L) : SOk seed S.1 S.2 := by
  obtain ⟨nds, dr, dc, h1, _, h3⟩ := h
  rw [← h1]; exact h3.ok
theorem Dct.dom (h : Dct w db seed S M F L) (k : ByteArray) : M k ≠ none ↔ k ∈ allK S.2 := by
  obtain ⟨nds, dr, dc, h1, _, h3⟩ := h
  rw [← h1]; exact h3.dom k
theorem Dct.few (h : Dct w db seed S M F L) : (allK S.2).length ≤ L := by
  obtain ⟨nds, dr, dc, h1, _, h3⟩ := h
  rw [← h1]; exact h3.few
theorem Dct.le (h : Dct w db seed S M F L) (hL : L ≤ L') : Dct w db seed S M F L' := by
  obtain ⟨nds, dr, dc, h1, h2, h3⟩ := h
  exact ⟨nds, dr, dc, h1, h2, h3.ok, h3.nd, h3.dom, Nat.le_trans h3.few hL, fun x hx => by have := h3.tabs x hx; omega⟩
theorem Dct.lt (h : Dct w db seed S M F L) : (∀ k, F k → k < w.heap.size) ∧ F db := by
  obtain ⟨nds, dr, dc, _, h2, _⟩ := h
  exact ⟨h2.flt, h2.fdb⟩

set_option maxRecDepth 100000 in
set_option maxHeartbeats 1000000 in
theorem get_d (h : Dct w db seed S M F L) (key : ByteArray) (hkey : key.size ≤ maxLen) :
    Calls Try.prog 49 #[.pointer (some ⟨db, 0, none⟩), .string key] w fun e w' => e = .returned (.tuple #[.int .i64 ((M key).getD 0), .bool (M key).isSome]) ∧ Below w.heap.size w w' := by
  obtain ⟨nds, dr, dc, _, hm, ho⟩ := h
  obtain ⟨c0, _⟩ := hm.cells
  obtain ⟨x, hx, _, hxm, _⟩ := ho.node (hN seed key)
  have HP := Lib.hid (place_x hm ho hx)
  have HH := Lib.hid (hash_hk seed key w hkey)
  cases hc : M key with
  | none =>
    have HF := Lib.hid fun (W : World) (hb : Below w.heap.size w W) => find_no ((hm.nd x hxm).later hb) key hkey (ho.no_of hxm hc)
    clear hm ho hx hc
    go_enter Try.func49, Try.ntmps49
    go_wp2_with (first | (go_at_call 63; refine HH.out.mono ?_; rintro e w1 ⟨rfl, rfl⟩) | (go_at_call 65; refine HP.out.mono ?_; rintro e w2 ⟨rfl, hb2⟩) | (go_at_call 66; refine (HF.out _ hb2).mono ?_; rintro e w3 ⟨rfl, hb3⟩))
    go_ret2
    exact ⟨rfl, hb2.trans (hb3.mono hb2.size)⟩
  | some v =>
    have hne : M key ≠ none := by rw [hc]; simp
    have HF := Lib.hid fun (W : World) (hb : Below w.heap.size w W) => find_yes ((hm.nd x hxm).later hb) key hkey (ho.yes_of hx hne)
    have HG := Lib.hid fun (W : World) (hb : Below w.heap.size w W) (t : Tb) (ht : t ∈ x.ts) (hk : t.m key ≠ none) => ((ho.some_of hxm ht hk).symm.trans hc) ▸ get_tb W (((hm.nd x hxm).later hb).tab t ht) key hkey
    clear hm ho hx hc hne
    go_enter Try.func49, Try.ntmps49
    go_wp2_with (first | (go_at_call 63; refine HH.out.mono ?_; rintro e w1 ⟨rfl, rfl⟩) | (go_at_call 65; refine HP.out.mono ?_; rintro e w2 ⟨rfl, hb2⟩) | (go_at_call 66; refine (HF.out _ hb2).mono ?_; rintro e w3 ⟨⟨a, t, b, ht, hk, rfl⟩, hb3⟩; have hb4 := hb2.trans (hb3.mono hb2.size); have HT := Lib.hid ht; have HK := Lib.hid hk; clear ht hk) | (go_at_call 22; refine (HG.out _ hb4 t (by rw [HT.out]; simp) HK.out).mono ?_; rintro e w5 ⟨rfl, hb5⟩))
    go_ret2
    exact ⟨rfl, hb4.trans (hb5.mono hb4.size)⟩

set_option maxRecDepth 100000 in
theorem len_d (h : Dct w db seed S M F L) : Calls Try.prog 50 #[.pointer (some ⟨db, 0, none⟩)] w fun e w' => e = .returned (.int .i64 ((allK S.2).length : Nat)) ∧ w = w' := by
  obtain ⟨nds, dr, dc, _, hm, _⟩ := h
  obtain ⟨_, _, _, c3⟩ := hm.cells
  generalize (allK S.2).length = n at *
  clear hm
  go_enter Try.func50, Try.ntmps50
  go_wp2
  go_ret
  exact ⟨rfl, rfl⟩
set_option maxRecDepth 100000 in
theorem depth_d (h : Dct w db seed S M F L) : Calls Try.prog 35 #[.pointer (some ⟨db, 0, none⟩)] w fun e w' => e = .returned (.int .i64 (S.1 : Nat)) ∧ w = w' := by
  obtain ⟨nds, dr, dc, _, hm, _⟩ := h
  obtain ⟨_, c1, _, _⟩ := hm.cells
  generalize S.1 = n at *
  clear hm
  go_enter Try.func35, Try.ntmps35
  go_wp2
  go_ret
  exact ⟨rfl, rfl⟩

set_option maxRecDepth 100000 in
set_option maxHeartbeats 2000000 in
theorem delete_d (h : Dct w db seed S M F L) (key : ByteArray) (hkey : key.size ≤ maxLen) (hL : L ≤ 1000000) :
    Calls Try.prog 47 #[.pointer (some ⟨db, 0, none⟩), .string key] w fun e w' => e = .returned (.bool (M key).isSome) ∧ ∃ F', Dct w' db seed (S.1, delS seed S.2 key) (updM M key none) F' L ∧ Fr w w' F F' := by
  have hS := h.sok
  have hdom := h.dom key
  have hfew := h.few
  obtain ⟨nds, dr, dc, hp, hm, ho⟩ := h
  obtain ⟨c0, _, _, c3⟩ := hm.cells
  obtain ⟨x, hx, _, hxm, _⟩ := ho.node (hN seed key)
  have HP := Lib.hid (place_x hm ho hx)
  have HH := Lib.hid (hash_hk seed key w hkey)
  cases hc : M key with
  | none =>
    have HF := Lib.hid fun (W : World) (hb : Below w.heap.size w W) => find_no ((hm.nd x hxm).later hb) key hkey (ho.no_of hxm hc)
    have hnot : key ∉ allK S.2 := fun e => (hdom.2 e) hc
    have hM : updM M key none = M := by
      funext k; unfold updM; by_cases e : k = key
      · rw [if_pos e, e, hc]
      · rw [if_neg e]
    have HE : Hid (∀ W, Below w.heap.size w W → ∃ F', Dct W db seed (S.1, delS seed S.2 key) (updM M key none) F' L ∧ Fr w W F F') := fun W hb => by
      rw [hM, del_none hS hnot]
      exact ⟨F, ⟨nds, dr, dc, hp, hm.step hb, ho⟩, Fr.of_below hb F⟩
    clear hm ho hx hc hdom hp hM hS hnot
    generalize (allK S.2).length = q at *
    go_enter Try.func47, Try.ntmps47
    go_wp2_with (first | (go_at_call 63; refine HH.out.mono ?_; rintro e w1 ⟨rfl, rfl⟩) | (go_at_call 65; refine HP.out.mono ?_; rintro e w2 ⟨rfl, hb2⟩) | (go_at_call 66; refine (HF.out _ hb2).mono ?_; rintro e w3 ⟨rfl, hb3⟩))
    go_ret
    exact ⟨rfl, HE.out _ (hb2.trans (hb3.mono hb2.size))⟩
  | some v =>
    have hne : M key ≠ none := by rw [hc]; simp
    have HF := Lib.hid fun (W : World) (hb : Below w.heap.size w W) => find_yes ((hm.nd x hxm).later hb) key hkey (ho.yes_of hx hne)
    have hlen := hS.del_len (hdom.1 hne)
    have HD : Hid (∀ W, Below w.heap.size w W → ∀ a t b, x.ts = a ++ t :: b → t.m key ≠ none → ∀ z : Nat, z + 1 = (allK S.2).length →
        Calls Try.prog 18 #[.pointer (some ⟨t.t, 0, none⟩), .string key] (W.setCell ⟨db, 3, none⟩ (.int .i64 (z : Nat))) fun e w' => e = .returned (.bool true) ∧ ∃ F', Dct w' db seed (S.1, delS seed S.2 key) (updM M key none) F' L ∧ Fr w w' F F') := by
      intro W hb a t b ht hk z hz
      have htm : t ∈ x.ts := by rw [ht]; simp
      have h1 := (hm.step hb).setN z
      obtain ⟨v', hv'⟩ := ne_some hk
      refine (delete_tb _ ((h1.nd x hxm).tab t htm) key hkey).mono ?_
      rintro e w' ⟨rfl, hT, hp'⟩
      have hP : Puts (W.setCell ⟨db, 3, none⟩ (.int .i64 (z : Nat))) w' t.t t.g t.g := ⟨.inl rfl, hp'⟩
      obtain ⟨F', h2, h3⟩ := h1.put (t' := ⟨t.t, t.g, updM t.m key none, dropK t.ks key⟩) (p' := ⟨x.p.dep, x.p.bits, dropK x.p.keys key⟩) hx ht (ho.nd x hxm).ap rfl hT hP rfl rfl
      obtain ⟨h4, h5⟩ := ho.del (t' := ⟨t.t, t.g, updM t.m key none, dropK t.ks key⟩) hx ht hk rfl rfl rfl (by
        have hap := (ho.nd x hxm).ap
        rw [ht, List.pairwise_append, List.pairwise_cons] at hap
        intro s hs
        rw [List.mem_append] at hs
        rcases hs with hs | hs
        · exact (hap.2.2 s hs t (by simp)).2
        · exact fun e => (hap.2.1.1 s hs).2 e.symm)
      refine ⟨by rw [hv']; rfl, F', ⟨_, dr, dc, ?_, ?_, h4⟩, ((Fr.of_below hb F).trans (Fr.setCell W _ _ hm.fdb)).trans h3⟩
      · rw [prts_set, ← hp]; exact h5
      · have e : z = (allK (delS seed S.2 key)).length := by omega
        simp only
        rw [← e]; exact h2
    have HC : Hid (∀ W, Below w.heap.size w W → W.cell? ⟨db, 3, none⟩ = some (.int .i64 ((allK S.2).length : Nat))) := fun W hb => (hm.step hb).cells.2.2.2
    have HZ : Hid (∀ W, Below w.heap.size w W → W.frozen? ⟨db, 3, none⟩ = false) := fun W hb => by have := (hm.step hb).blk; unfold World.frozen?; rw [this]; simp
    have hq0 : 0 < (allK S.2).length := List.length_pos_of_mem (hdom.1 hne)
    clear hm ho hx hc hne hdom hp hS hlen
    generalize (allK S.2).length = q at *
    obtain ⟨z, rfl⟩ : ∃ z, q = z + 1 := ⟨q - 1, by omega⟩
    have HW : Hid ((((z + 1 : Nat) : Int) - 1) = (z : Int)) := by unfold Hid; omega
    go_enter Try.func47, Try.ntmps47
    go_wp2_with (first | (go_at_call 63; refine HH.out.mono ?_; rintro e w1 ⟨rfl, rfl⟩) | (go_at_call 65; refine HP.out.mono ?_; rintro e w2 ⟨rfl, hb2⟩) | (go_at_call 66; refine (HF.out _ hb2).mono ?_; rintro e w3 ⟨⟨a, t, b, ht, hk, rfl⟩, hb3⟩; have hb4 := hb2.trans (hb3.mono hb2.size); have HT := Lib.hid ht; have HK := Lib.hid hk; have c3' := HC.out _ hb4; have z3' := HZ.out _ hb4; clear ht hk) | (go_at_call 18; refine (HD.out _ hb4 a t b HT.out HK.out z rfl).mono ?_; rintro e w5 ⟨rfl, hE⟩))
    go_ret
    exact ⟨rfl, hE⟩
end

end Go.Proofs.Ytkkijcnipjojoaa
