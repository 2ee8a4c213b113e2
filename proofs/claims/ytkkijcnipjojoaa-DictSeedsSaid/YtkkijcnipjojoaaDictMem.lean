/- A dict in memory: nodes, their tables, a directory. -/
import Derived.Test.YtkkijcnipjojoaaPlainD2
import Derived.Test.YtkkijcnipjojoaaPlayD8
namespace Go.Proofs.Ytkkijcnipjojoaa
open Go.RowKit

/-- A table, and what it has. -/
structure Tb where
  t : Nat
  g : Nat
  m : ByteArray → Option Int
  ks : List ByteArray
/-- A node: its block, its row of tables, its part, its tables. -/
structure Nd where
  b : Nat
  r : Nat
  c : Nat
  p : PartR
  ts : List Tb
def tabV (t : Tb) : Value := .pointer (some ⟨t.t, 0, none⟩)
def Nd.lv (x : Nd) : Value := .slice (some ⟨x.r, 0, none⟩) x.ts.length x.c
def Nd.has (x : Nd) (k : Nat) : Prop := k = x.b ∨ k = x.r ∨ ∃ t ∈ x.ts, k = t.t ∨ k = t.g
abbrev prts (nds : List Nd) : List PartR := nds.map (·.p)
def nodeOf (nds : List Nd) (h : Nat) : Nat := match nds[pix (prts nds) h]? with | some x => x.b | none => 0
def dirV (D : Nat) (nds : List Nd) : List Value := (List.range (2 ^ D)).map fun j => Value.pointer (some ⟨nodeOf nds j, 0, none⟩)

theorem type_ne {w : World} {a b : Nat} {c1 c2 : Array Value} {e1 e2 : TypeId} {f1 f2 : Nat × Nat} (h1 : w.heap[a]? = some (.cells c1 e1 f1)) (h2 : w.heap[b]? = some (.cells c2 e2 f2)) (hne : e1 ≠ e2) : a ≠ b := by
  rintro rfl
  rw [h1] at h2
  simp only [Option.some.injEq, Obj.cells.injEq] at h2
  exact hne h2.2.1
theorem row_block {w : World} {B : Nat} {e : TypeId} {s g n c : Nat} {xs : List Value} (h : w.ownsRow B e s (.slice (some ⟨g, 0, none⟩) n c) n xs) : ∃ cur f, w.heap[g]? = some (.cells cur e f) := by
  rcases h.2 with ⟨h1, _⟩ | ⟨g', cap, cur, h1, _, h2, _⟩
  · simp at h1
  · simp only [Value.slice.injEq, Option.some.injEq, Addr.mk.injEq] at h1
    obtain ⟨⟨rfl, _⟩, _⟩ := h1
    exact ⟨cur, _, h2⟩
theorem row_kept {w w' : World} {B : Nat} {e : TypeId} {s g n c : Nat} {xs : List Value} (h : w.ownsRow B e s (.slice (some ⟨g, 0, none⟩) n c) n xs) (hk : w'.heap[g]? = w.heap[g]?) : w'.ownsRow B e s (.slice (some ⟨g, 0, none⟩) n c) n xs := by
  refine ⟨h.1, ?_⟩
  rcases h.2 with ⟨h1, _⟩ | ⟨g', cap, cur, h1, h0, h2, h3⟩
  · simp at h1
  · have h1' := h1
    simp only [Value.slice.injEq, Option.some.injEq, Addr.mk.injEq] at h1
    obtain ⟨⟨rfl, _⟩, _, _⟩ := h1
    exact .inr ⟨g, cap, cur, h1', h0, hk.trans h2, h3⟩
theorem TB.types {w : World} {tb gb : Nat} {seed : Int} {m : ByteArray → Option Int} (h : TB w tb gb seed m) : (∃ c f, w.heap[tb]? = some (.cells c 75 f)) ∧ ∃ c f, w.heap[gb]? = some (.cells c 84 f) := by
  obtain ⟨S, h1, _⟩ := h
  exact ⟨⟨_, _, h1.at'.ht⟩, ⟨_, _, h1.at'.hg⟩⟩

/-- A node in memory. -/
structure NdAt (w : World) (seed : Int) (x : Nd) : Prop where
  blk : w.heap[x.b]? = some (.cells #[.int .i64 (x.p.dep : Nat), x.lv] 96 (0, 0))
  row : w.ownsRow 0 23 1 x.lv x.ts.length (x.ts.map tabV)
  tab : ∀ t ∈ x.ts, TB w t.t t.g seed t.m
section
variable {w w' : World} {seed : Int} {x : Nd}
theorem NdAt.lt (h : NdAt w seed x) {k : Nat} (hk : x.has k) : k < w.heap.size := by
  rcases hk with rfl | rfl | ⟨t, ht, rfl | rfl⟩
  · exact heap_lt' h.blk
  · obtain ⟨_, _, hr⟩ := row_block h.row
    exact heap_lt' hr
  · exact (h.tab t ht).lt.1
  · exact (h.tab t ht).lt.2.1
theorem NdAt.kept (h : NdAt w seed x) (hk : ∀ k, x.has k → w'.heap[k]? = w.heap[k]?) : NdAt w' seed x :=
  ⟨(hk _ (.inl rfl)).trans h.blk, row_kept h.row (hk _ (.inr (.inl rfl))), fun t ht => (h.tab t ht).kept (hk _ (.inr (.inr ⟨t, ht, .inl rfl⟩))) (hk _ (.inr (.inr ⟨t, ht, .inr rfl⟩)))⟩
theorem NdAt.later (h : NdAt w seed x) (hb : Below w.heap.size w w') : NdAt w' seed x := h.kept fun _ hk => hb.block _ (h.lt hk)
theorem NdAt.cells (h : NdAt w seed x) : w.cell? ⟨x.b, 0, none⟩ = some (.int .i64 (x.p.dep : Nat)) ∧ w.cell? ⟨x.b, 1, none⟩ = some x.lv :=
  ⟨by rw [cell_of_row _ _ _ _ _ _ h.blk]; rfl, by rw [cell_of_row _ _ _ _ _ _ h.blk]; rfl⟩
end

/-- Two nodes lie apart. -/
def NdAp (x y : Nd) : Prop := x.b ≠ y.b ∧ x.r ≠ y.r ∧ ∀ t ∈ x.ts, ∀ s ∈ y.ts, t.t ≠ s.t ∧ t.g ≠ s.g

/-- What is of a dict stands in some blocks; all others stand as they stood. -/
structure Fr (w w' : World) (F F' : Nat → Prop) : Prop where
  os : w'.os = w.os
  tape : w'.tape = w.tape
  output : w'.output = w.output
  size : w.heap.size ≤ w'.heap.size
  block : ∀ k, k < w.heap.size → ¬ F k → w'.heap[k]? = w.heap[k]?
  new : ∀ k, F' k → F k ∨ w.heap.size ≤ k
section
variable {w w' w'' : World} {F F' F'' : Nat → Prop}
theorem Fr.refl (w : World) (F : Nat → Prop) : Fr w w F F := ⟨rfl, rfl, rfl, Nat.le_refl _, fun _ _ _ => rfl, fun _ h => .inl h⟩
theorem Fr.of_below (h : Below w.heap.size w w') (F : Nat → Prop) : Fr w w' F F := ⟨h.os, h.tape, h.output, h.size, fun k hk _ => h.block k hk, fun _ h => .inl h⟩
theorem Fr.trans (h : Fr w w' F F') (k : Fr w' w'' F' F'') : Fr w w'' F F'' :=
  ⟨k.os.trans h.os, k.tape.trans h.tape, k.output.trans h.output, Nat.le_trans h.size k.size, fun q h1 h2 => (k.block q (by have := h.size; omega) (fun e => by rcases h.new q e with e | e; exact h2 e; omega)).trans (h.block q h1 h2),
    fun q hq => by rcases k.new q hq with e | e; exact h.new q e; exact .inr (by have := h.size; omega)⟩
theorem Fr.touch {tb gb : Nat} (h : Touch w w' tb gb) (h1 : F tb) (h2 : F gb) (hF : ∀ k, F' k → F k ∨ w.heap.size ≤ k) : Fr w w' F F' :=
  ⟨h.os, h.tape, h.output, h.size, fun k hk hf => h.block k hk (fun e => hf (e ▸ h1)) (fun e => hf (e ▸ h2)), hF⟩
theorem Fr.setCell (w : World) (a : Addr) (v : Value) (ha : F a.block) : Fr w (w.setCell a v) F F :=
  ⟨rfl, rfl, rfl, by simp [World.setCell], fun k _ hf => heap_setCell_other _ _ _ _ (fun e => hf (e ▸ ha)), fun _ h => .inl h⟩
theorem Fr.below (h : Fr w w' F F') {B : Nat} (h0 : B ≤ w.heap.size) (h1 : ∀ k, F k → B ≤ k) : Below B w w' ∧ ∀ k, F' k → B ≤ k :=
  ⟨⟨h.os, h.tape, h.output, h.size, fun k hk => h.block k (by omega) (fun e => by have := h1 k e; omega)⟩, fun k hk => by rcases h.new k hk with e | e; exact h1 k e; omega⟩
end

/-- A dict in memory. -/
structure DMem (w : World) (db : Nat) (seed : Int) (D n dr dc : Nat) (nds : List Nd) (F : Nat → Prop) : Prop where
  blk : w.heap[db]? = some (.cells #[.int .u64 seed, .int .i64 (D : Nat), .slice (some ⟨dr, 0, none⟩) (2 ^ D : Nat) dc, .int .i64 (n : Nat)] 99 (0, 0))
  row : w.ownsRow 0 93 1 (.slice (some ⟨dr, 0, none⟩) (2 ^ D) dc) (2 ^ D) (dirV D nds)
  nd : ∀ x ∈ nds, NdAt w seed x
  nf : ∀ x ∈ nds, ∀ k, x.has k → F k
  ap : Apart NdAp nds
  fdb : F db
  fdr : F dr
  flt : ∀ k, F k → k < w.heap.size
section
variable {w w' : World} {db : Nat} {seed : Int} {D n dr dc : Nat} {nds : List Nd} {F F' : Nat → Prop}
theorem DMem.step (h : DMem w db seed D n dr dc nds F) (hb : Below w.heap.size w w') : DMem w' db seed D n dr dc nds F :=
  ⟨(hb.block _ (h.flt _ h.fdb)).trans h.blk, row_kept h.row (hb.block _ (h.flt _ h.fdr)), fun x hx => (h.nd x hx).later hb, h.nf, h.ap, h.fdb, h.fdr, fun k hk => by have := h.flt k hk; have := hb.size; omega⟩
/-- A step that leaves the dict's blocks as they are. -/
theorem DMem.stay (h : DMem w db seed D n dr dc nds F) (hs : w.heap.size ≤ w'.heap.size) (hb : ∀ k, F k → w'.heap[k]? = w.heap[k]?) : DMem w' db seed D n dr dc nds F :=
  ⟨(hb _ h.fdb).trans h.blk, row_kept h.row (hb _ h.fdr), fun x hx => (h.nd x hx).kept fun k hk => hb k (h.nf x hx k hk), h.nf, h.ap, h.fdb, h.fdr, fun k hk => by have := h.flt k hk; omega⟩
theorem DMem.cells (h : DMem w db seed D n dr dc nds F) : w.cell? ⟨db, 0, none⟩ = some (.int .u64 seed) ∧ w.cell? ⟨db, 1, none⟩ = some (.int .i64 (D : Nat)) ∧ w.cell? ⟨db, 2, none⟩ = some (.slice (some ⟨dr, 0, none⟩) (2 ^ D : Nat) dc) ∧ w.cell? ⟨db, 3, none⟩ = some (.int .i64 (n : Nat)) :=
  ⟨by rw [cell_of_row _ _ _ _ _ _ h.blk]; rfl, by rw [cell_of_row _ _ _ _ _ _ h.blk]; rfl, by rw [cell_of_row _ _ _ _ _ _ h.blk]; rfl, by rw [cell_of_row _ _ _ _ _ _ h.blk]; rfl⟩
theorem DMem.dir (h : DMem w db seed D n dr dc nds F) (j : Nat) (hj : j < 2 ^ D) : w.cell? ⟨dr, j, none⟩ = some (.pointer (some ⟨nodeOf nds j, 0, none⟩)) := by
  rw [h.row.cellAt j (by omega)]
  unfold dirV
  rw [List.getElem?_map, List.getElem?_range hj]
  rfl
/-- The dict's block, its row and a node's blocks are of types of their own. -/
theorem DMem.apart (h : DMem w db seed D n dr dc nds F) {x : Nd} (hx : x ∈ nds) : (∀ k, x.has k → k ≠ db ∧ k ≠ dr) ∧ db ≠ dr := by
  obtain ⟨_, _, hr⟩ := row_block h.row
  have hN := h.nd x hx
  obtain ⟨_, _, hl⟩ := row_block hN.row
  refine ⟨fun k hk => ?_, type_ne h.blk hr (by decide)⟩
  rcases hk with rfl | rfl | ⟨t, ht, rfl | rfl⟩
  · exact ⟨type_ne hN.blk h.blk (by decide), type_ne hN.blk hr (by decide)⟩
  · exact ⟨type_ne hl h.blk (by decide), type_ne hl hr (by decide)⟩
  · obtain ⟨⟨_, _, e⟩, _⟩ := (hN.tab t ht).types
    exact ⟨type_ne e h.blk (by decide), type_ne e hr (by decide)⟩
  · obtain ⟨_, _, _, e⟩ := (hN.tab t ht).types
    exact ⟨type_ne e h.blk (by decide), type_ne e hr (by decide)⟩
theorem DMem.dbr (h : DMem w db seed D n dr dc nds F) : db ≠ dr := by
  obtain ⟨_, _, hr⟩ := row_block h.row
  exact type_ne h.blk hr (by decide)
theorem has_other {x y : Nd} (hx : NdAt w seed x) (hy : NdAt w seed y) (ha : NdAp x y) {k : Nat} (hk : x.has k) : ¬ y.has k := by
  obtain ⟨_, _, hl⟩ := row_block hx.row
  obtain ⟨_, _, hl'⟩ := row_block hy.row
  obtain ⟨a1, a2, a3⟩ := ha
  rintro (e | e | ⟨s, hs, e | e⟩)
  all_goals rcases hk with rfl | rfl | ⟨t, ht, rfl | rfl⟩
  · exact a1 e
  · exact type_ne hl hy.blk (by decide) e
  · obtain ⟨⟨_, _, q⟩, _⟩ := (hx.tab t ht).types; exact type_ne q hy.blk (by decide) e
  · obtain ⟨_, _, _, q⟩ := (hx.tab t ht).types; exact type_ne q hy.blk (by decide) e
  · exact type_ne hx.blk hl' (by decide) e
  · exact a2 e
  · obtain ⟨⟨_, _, q⟩, _⟩ := (hx.tab t ht).types; exact type_ne q hl' (by decide) e
  · obtain ⟨_, _, _, q⟩ := (hx.tab t ht).types; exact type_ne q hl' (by decide) e
  · obtain ⟨⟨_, _, q⟩, _⟩ := (hy.tab s hs).types; exact type_ne hx.blk q (by decide) e
  · obtain ⟨⟨_, _, q⟩, _⟩ := (hy.tab s hs).types; exact type_ne hl q (by decide) e
  · exact (a3 t ht s hs).1 e
  · obtain ⟨⟨_, _, q⟩, _⟩ := (hy.tab s hs).types; obtain ⟨_, _, _, q'⟩ := (hx.tab t ht).types; exact type_ne q' q (by decide) e
  · obtain ⟨_, _, _, q⟩ := (hy.tab s hs).types; exact type_ne hx.blk q (by decide) e
  · obtain ⟨_, _, _, q⟩ := (hy.tab s hs).types; exact type_ne hl q (by decide) e
  · obtain ⟨_, _, _, q⟩ := (hy.tab s hs).types; obtain ⟨⟨_, _, q'⟩, _⟩ := (hx.tab t ht).types; exact type_ne q' q (by decide) e
  · exact (a3 t ht s hs).2 e

theorem pix_set (ps : List PartR) (i : Nat) (p' : PartR) (x : Nat) (h : ∀ q, ps[i]? = some q → fitsB x q = fitsB x p') : pix (ps.set i p') x = pix ps x := by
  unfold pix
  induction ps generalizing i with
  | nil => rfl
  | cons a l ih =>
    cases i with
    | zero =>
      have := h a rfl
      simp only [List.set_cons_zero, List.findIdx_cons, this]
    | succ i =>
      simp only [List.set_cons_succ, List.findIdx_cons]
      rw [ih i (fun q hq => h q (by simpa using hq))]
theorem prts_set (i : Nat) (x' : Nd) : prts (nds.set i x') = (prts nds).set i x'.p := by unfold prts; rw [List.map_set]
theorem prts_get {i : Nat} {x : Nd} (h : nds[i]? = some x) : (prts nds)[i]? = some x.p := by unfold prts; rw [List.getElem?_map, h]; rfl
theorem node_set {i : Nat} {x x' : Nd} (hi : nds[i]? = some x) (hb : x'.b = x.b) (hd : x'.p.dep = x.p.dep) (hp : x'.p.bits = x.p.bits) (h : Nat) : nodeOf (nds.set i x') h = nodeOf nds h := by
  have hl := (List.getElem?_eq_some_iff.1 hi).1
  unfold nodeOf
  rw [prts_set, pix_set _ _ _ _ (fun q hq => by rw [prts_get hi] at hq; simp only [Option.some.injEq] at hq; subst hq; unfold fitsB; rw [hd, hp])]
  rw [List.getElem?_set]
  by_cases c : i = pix (prts nds) h
  · rw [if_pos c, if_pos hl, ← c, hi]
    exact hb
  · rw [if_neg c]
theorem dir_set {i : Nat} {x x' : Nd} (hi : nds[i]? = some x) (hb : x'.b = x.b) (hd : x'.p.dep = x.p.dep) (hp : x'.p.bits = x.p.bits) : dirV D (nds.set i x') = dirV D nds := by
  unfold dirV
  exact List.map_congr_left fun j _ => by rw [node_set hi hb hd hp]

/-- One node is changed, all others stand. -/
theorem DMem.renode (h : DMem w db seed D n dr dc nds F) {i : Nat} {x x' : Nd} (hi : nds[i]? = some x) (hb : x'.b = x.b) (hd : x'.p.dep = x.p.dep) (hp : x'.p.bits = x.p.bits) (hx' : NdAt w' seed x')
    (hk : ∀ k, k < w.heap.size → ¬ x.has k → w'.heap[k]? = w.heap[k]?)
    (ha : ∀ j y, nds[j]? = some y → j ≠ i → NdAp x' y ∧ NdAp y x') (hf : ∀ k, x'.has k → F' k) (hF : ∀ k, F k → F' k) (hl : ∀ k, F' k → k < w'.heap.size) : DMem w' db seed D n dr dc (nds.set i x') F' := by
  have hx := List.mem_of_getElem? hi
  obtain ⟨h1, h2⟩ := h.apart hx
  refine ⟨(hk _ (h.flt _ h.fdb) (fun e => (h1 _ e).1 rfl)).trans h.blk, by rw [dir_set hi hb hd hp]; exact row_kept h.row (hk _ (h.flt _ h.fdr) (fun e => (h1 _ e).2 rfl)), ?_, ?_, h.ap.set i x' ha, hF _ h.fdb, hF _ h.fdr, hl⟩
  · intro y hy
    obtain ⟨j, hj⟩ := List.mem_iff_getElem?.1 hy
    rcases set_get hj with ⟨_, rfl, _⟩ | ⟨c, hj⟩
    · exact hx'
    · have hym := List.mem_of_getElem? hj
      exact (h.nd y hym).kept fun k hyk => hk k ((h.nd y hym).lt hyk) (has_other (h.nd y hym) (h.nd x hx) (h.ap j i y x hj hi c) hyk)
  · intro y hy k hyk
    obtain ⟨j, hj⟩ := List.mem_iff_getElem?.1 hy
    rcases set_get hj with ⟨_, rfl, _⟩ | ⟨c, hj⟩
    · exact hf k hyk
    · exact hF k (h.nf y (List.mem_of_getElem? hj) k hyk)

/-- A table of a node is changed. -/
theorem DMem.put (h : DMem w db seed D n dr dc nds F) {i : Nat} {x : Nd} {a b : List Tb} {t t' : Tb} {p' : PartR} (hi : nds[i]? = some x) (hx : x.ts = a ++ t :: b) (hap : x.ts.Pairwise fun t s => t.t ≠ s.t ∧ t.g ≠ s.g) (ht : t'.t = t.t) (hT : TB w' t.t t'.g seed t'.m)
    (hp : Puts w w' t.t t.g t'.g) (hd : p'.dep = x.p.dep) (hpb : p'.bits = x.p.bits) : ∃ F', DMem w' db seed D n dr dc (nds.set i ⟨x.b, x.r, x.c, p', a ++ t' :: b⟩) F' ∧ Fr w w' F F' := by
  have hxm := List.mem_of_getElem? hi
  have hN := h.nd x hxm
  have htm : t ∈ x.ts := by rw [hx]; simp
  have hlen : (a ++ t' :: b).length = x.ts.length := by rw [hx]; simp
  have hlv : (⟨x.b, x.r, x.c, p', a ++ t' :: b⟩ : Nd).lv = x.lv := by unfold Nd.lv; simp only; rw [hlen]
  have hmap : (a ++ t' :: b).map tabV = x.ts.map tabV := by
    rw [hx]; simp only [List.map_append, List.map_cons]; unfold tabV; rw [ht]
  obtain ⟨⟨_, _, et⟩, ⟨_, _, eg⟩⟩ := (hN.tab t htm).types
  obtain ⟨_, _, hl⟩ := row_block hN.row
  have hs := hp.2.size
  have hkeep : ∀ k, k < w.heap.size → ¬ x.has k → w'.heap[k]? = w.heap[k]? := fun k hk hn => hp.2.block k hk (fun e => hn (.inr (.inr ⟨t, htm, .inl e⟩))) (fun e => hn (.inr (.inr ⟨t, htm, .inr e⟩)))
  have htg : TB w' t'.t t'.g seed t'.m := by rw [ht]; exact hT
  have lt' := htg.lt
  have hothers : ∀ s ∈ a ++ b, s.t ≠ t.t ∧ s.g ≠ t.g := by
    intro s hs
    rw [hx, List.pairwise_append, List.pairwise_cons] at hap
    rw [List.mem_append] at hs
    rcases hs with hs | hs
    · exact hap.2.2 s hs t (by simp)
    · have := hap.2.1.1 s hs; exact ⟨fun e => this.1 e.symm, fun e => this.2 e.symm⟩
  have hin : ∀ s, s ∈ a ++ b → s ∈ x.ts := by
    intro s hs; rw [hx]; rw [List.mem_append] at hs ⊢; rcases hs with hs | hs
    · exact .inl hs
    · exact .inr (List.mem_cons_of_mem _ hs)
  have hmem : ∀ s, s ∈ a ++ t' :: b → s = t' ∨ s ∈ a ++ b := by
    intro s hs; rw [List.mem_append, List.mem_cons] at hs; rw [List.mem_append]; rcases hs with hs | hs | hs
    · exact .inr (.inl hs)
    · exact .inl hs
    · exact .inr (.inr hs)
  have hX : NdAt w' seed ⟨x.b, x.r, x.c, p', a ++ t' :: b⟩ := by
    refine ⟨?_, ?_, ?_⟩
    · rw [hlv]; simp only; rw [hd]
      exact (hp.2.block _ (heap_lt' hN.blk) (type_ne hN.blk et (by decide)) (type_ne hN.blk eg (by decide))).trans hN.blk
    · rw [hlv]; simp only; rw [hmap, hlen]
      exact row_kept hN.row (hp.2.block _ (heap_lt' hl) (type_ne hl et (by decide)) (type_ne hl eg (by decide)))
    · intro s hsm
      rcases hmem s hsm with rfl | hsm
      · exact htg
      · have hq := hothers s hsm
        obtain ⟨⟨_, _, qt⟩, ⟨_, _, qg⟩⟩ := (hN.tab s (hin s hsm)).types
        exact (hN.tab s (hin s hsm)).touch hp.2 hq.1 (type_ne qt eg (by decide)) (type_ne qg et (by decide)) hq.2
  refine ⟨fun k => F k ∨ (w.heap.size ≤ k ∧ k < w'.heap.size), h.renode hi rfl hd hpb hX hkeep ?_ ?_ (fun k hk => .inl hk) ?_, ?_⟩
  · intro j y hj hne
    have hy := h.nd y (List.mem_of_getElem? hj)
    obtain ⟨a1, a2, a3⟩ := h.ap i j x y hi hj (fun e => hne e.symm)
    have key : ∀ s ∈ a ++ t' :: b, ∀ u ∈ y.ts, s.t ≠ u.t ∧ s.g ≠ u.g := by
      intro s hsm u hu
      rcases hmem s hsm with rfl | hsm
      · refine ⟨by rw [ht]; exact (a3 t htm u hu).1, ?_⟩
        have lu := (hy.tab u hu).lt
        rcases hp.1 with e | e
        · rw [e]; exact (a3 t htm u hu).2
        · omega
      · exact a3 s (hin s hsm) u hu
    exact ⟨⟨a1, a2, key⟩, ⟨fun e => a1 e.symm, fun e => a2 e.symm, fun u hu s hsm => ⟨fun e => (key s hsm u hu).1 e.symm, fun e => (key s hsm u hu).2 e.symm⟩⟩⟩
  · rintro k (e | e | ⟨s, hsm, e⟩)
    · exact .inl (h.nf x hxm k (.inl e))
    · exact .inl (h.nf x hxm k (.inr (.inl e)))
    · rcases hmem s hsm with rfl | hsm
      · rcases e with e | e
        · exact .inl (h.nf x hxm k (.inr (.inr ⟨t, htm, .inl (e.trans ht)⟩)))
        · rcases hp.1 with q | q
          · exact .inl (h.nf x hxm k (.inr (.inr ⟨t, htm, .inr (e.trans q)⟩)))
          · exact .inr (by omega)
      · exact .inl (h.nf x hxm k (.inr (.inr ⟨s, hin s hsm, e⟩)))
  · rintro k (e | e)
    · have := h.flt k e; omega
    · exact e.2
  · exact Fr.touch hp.2 (h.nf x hxm _ (.inr (.inr ⟨t, htm, .inl rfl⟩))) (h.nf x hxm _ (.inr (.inr ⟨t, htm, .inr rfl⟩))) (fun k hk => by rcases hk with e | e; exact .inl e; exact .inr e.1)

/-- The count is changed. -/
theorem DMem.setN (h : DMem w db seed D n dr dc nds F) (n' : Nat) : DMem (w.setCell ⟨db, 3, none⟩ (.int .i64 (n' : Nat))) db seed D n' dr dc nds F := by
  have hk : ∀ k, k ≠ db → (w.setCell ⟨db, 3, none⟩ (.int .i64 (n' : Nat))).heap[k]? = w.heap[k]? := fun k hk => heap_setCell_other _ _ _ _ (by exact hk)
  refine ⟨by rw [heap_setCell_same _ _ _ _ _ _ h.blk]; rfl, row_kept h.row (hk _ (fun e => h.dbr e.symm)), fun x hx => (h.nd x hx).kept fun k hxk => hk k ((h.apart hx).1 k hxk).1, h.nf, h.ap, h.fdb, h.fdr, fun k hk' => ?_⟩
  have := h.flt k hk'
  simpa [World.setCell] using this
end
end Go.Proofs.Ytkkijcnipjojoaa
