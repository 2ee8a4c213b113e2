/- A dict in memory: the directory is doubled; a node is split. -/
import Derived.Test.YtkkijcnipjojoaaDictKeys
namespace Go.Proofs.Ytkkijcnipjojoaa
open Go.RowKit

theorem SOk.pix_add {seed : Int} {D : Nat} {ps : List PartR} (h : SOk seed D ps) (j : Nat) : pix ps (2 ^ D + j) = pix ps j := by
  obtain ⟨p, hp, _, hm⟩ := h.pix_at j
  refine h.pix_same hp ?_
  have hd := Nat.pow_dvd_pow 2 (h.dep p hm)
  obtain ⟨c, hc⟩ := hd
  rw [hc, Nat.mul_add_mod]
theorem dir_double {seed : Int} {D : Nat} {nds : List Nd} (h : SOk seed D (prts nds)) : dirV (D + 1) nds = dirV D nds ++ dirV D nds := by
  unfold dirV
  rw [Nat.pow_succ, Nat.mul_two, List.range_add, List.map_append, List.map_map]
  congr 1
  refine List.map_congr_left fun j _ => ?_
  simp only [Function.comp]
  unfold nodeOf
  rw [h.pix_add j]

section
variable {w w' : World} {db : Nat} {seed : Int} {D n dr dc : Nat} {nds : List Nd} {F F' : Nat → Prop} {M : ByteArray → Option Int} {L : Nat}
/-- The directory is doubled. -/
theorem DMem.double (h : DMem w db seed D n dr dc nds F) (hS : SOk seed D (prts nds)) {N g cap : Nat} (hN : N = 2 ^ D) (h2 : w'.ownsRow 0 93 1 (.slice (some ⟨g, 0, none⟩) (N + N) cap) (N + N) (dirV D nds ++ dirV D nds)) (h3 : w.grownBy w' (some dr))
    (h4 : some dr = some g ∨ g = w.heap.size) (h5 : g < w'.heap.size) (z : Int) (hz : z = (D : Int) + 1) :
    ∃ F', DMem ((w'.setCell ⟨db, 2, none⟩ (.slice (some ⟨g, 0, none⟩) (N + N) cap)).setCell ⟨db, 1, none⟩ (.int .i64 z)) db seed (D + 1) n g cap nds F' ∧ Fr w ((w'.setCell ⟨db, 2, none⟩ (.slice (some ⟨g, 0, none⟩) (N + N) cap)).setCell ⟨db, 1, none⟩ (.int .i64 z)) F F' := by
  have hdb := h.flt _ h.fdb
  have hdr := h.flt _ h.fdr
  have hne := h.dbr
  have hgd : g ≠ db := by rcases h4 with e | e; exact fun q => hne (by simp only [Option.some.injEq] at e; omega); omega
  have hs := h3.size
  have e1 : w'.heap[db]? = some (.cells #[.int .u64 seed, .int .i64 (D : Nat), .slice (some ⟨dr, 0, none⟩) (2 ^ D : Nat) dc, .int .i64 (n : Nat)] 99 (0, 0)) :=
    (h3.block db hdb (by simp only [ne_eq, Option.some.injEq]; exact hne)).trans h.blk
  have e2 := heap_setCell_same w' db 2 _ _ (.slice (some ⟨g, 0, none⟩) (N + N) cap) e1
  have e3 := heap_setCell_same _ db 1 _ _ (.int .i64 z) e2
  have eo : ∀ k, k ≠ db → ((w'.setCell ⟨db, 2, none⟩ (.slice (some ⟨g, 0, none⟩) (N + N) cap)).setCell ⟨db, 1, none⟩ (.int .i64 z)).heap[k]? = w'.heap[k]? := fun k hk => by
    rw [heap_setCell_other _ _ _ _ (by exact hk), heap_setCell_other _ _ _ _ (by exact hk)]
  have hsz : ((w'.setCell ⟨db, 2, none⟩ (.slice (some ⟨g, 0, none⟩) (N + N) cap)).setCell ⟨db, 1, none⟩ (.int .i64 z)).heap.size = w'.heap.size := by simp [World.setCell]
  have hgF : F g ∨ w.heap.size ≤ g := by rcases h4 with e | e; exact .inl (by simp only [Option.some.injEq] at e; rw [← e]; exact h.fdr); exact .inr (by omega)
  have hNN : N + N = 2 ^ (D + 1) := by rw [Nat.pow_succ, Nat.mul_two, hN]
  refine ⟨fun k => F k ∨ (w.heap.size ≤ k ∧ k < w'.heap.size), ⟨?_, ?_, ?_, fun x hx k hk => .inl (h.nf x hx k hk), h.ap, .inl h.fdb, by rcases hgF with e | e; exact .inl e; exact .inr ⟨e, h5⟩, ?_⟩, ?_⟩
  · rw [e3, hz, ← hNN]; rfl
  · rw [dir_double hS, ← hNN]
    exact row_kept h2 (eo g hgd)
  · intro x hx
    refine (h.nd x hx).kept fun k hk => ?_
    have hkl := h.flt _ (h.nf x hx k hk)
    have := (h.apart hx).1 k hk
    rw [eo k this.1]
    exact h3.block k hkl (by simp only [ne_eq, Option.some.injEq]; exact this.2)
  · intro k hk
    rw [hsz]
    rcases hk with e | e
    · have := h.flt k e; omega
    · exact e.2
  · refine ⟨h3.os, h3.tape, h3.output, by rw [hsz]; exact hs, fun k hk hf => ?_, fun k hk => by rcases hk with e | e; exact .inl e; exact .inr e.1⟩
    rw [eo k (fun e => hf (e ▸ h.fdb))]
    exact h3.block k hk (fun e => hf (by simp only [Option.some.injEq] at e; rw [e]; exact h.fdr))

/-- The nodes of hashes behind a split. -/
theorem DOk.node_split (ho : DOk seed D nds M L) (ha : Apart NdAp nds) {i : Nat} {x : Nd} (hi : nds[i]? = some x) (hd : x.p.dep < 16) (ba ra ca bb rb cb : Nat) (ta tc : List Tb) (j : Nat) :
    nodeOf (nds.set i ⟨ba, ra, ca, spA seed x.p, ta⟩ ++ [⟨bb, rb, cb, spB seed x.p, tc⟩]) j = if nodeOf nds j = x.b then (if j / 2 ^ x.p.dep % 2 = 0 then ba else bb) else nodeOf nds j := by
  have hl := (List.getElem?_eq_some_iff.1 hi).1
  have he : prts (nds.set i ⟨ba, ra, ca, spA seed x.p, ta⟩ ++ [⟨bb, rb, cb, spB seed x.p, tc⟩]) = spS seed (prts nds) i x.p := by
    unfold spS; simp [prts]
  have hS := ho.ok.split (prts_get hi) hd
  rw [← he] at hS
  obtain ⟨y, hy, hyb, hym, hny⟩ := ho.node j
  have hxb := ho.ok.bits x.p (ho.part (List.mem_of_getElem? hi))
  have fs := fit_split (h := j) hxb
  have to : ∀ (q : Nat) (z : Nd), (nds.set i ⟨ba, ra, ca, spA seed x.p, ta⟩ ++ [⟨bb, rb, cb, spB seed x.p, tc⟩])[q]? = some z → j % 2 ^ z.p.dep = z.p.bits → nodeOf (nds.set i ⟨ba, ra, ca, spA seed x.p, ta⟩ ++ [⟨bb, rb, cb, spB seed x.p, tc⟩]) j = z.b := by
    intro q z hq hz
    have := hS.pix_eq (prts_get hq) hz
    unfold nodeOf
    rw [← this, hq]
  by_cases c : pix (prts nds) j = i
  · rw [c, hi] at hy
    simp only [Option.some.injEq] at hy
    subst hy
    rw [hny, if_pos rfl]
    by_cases b : j / 2 ^ x.p.dep % 2 = 0
    · rw [if_pos b]
      exact to i _ (by rw [List.getElem?_append_left (by simpa using hl)]; exact set_here hl) (fs.1.2 ⟨hyb, b⟩)
    · rw [if_neg b]
      exact to nds.length ⟨bb, rb, cb, spB seed x.p, tc⟩ (by rw [List.getElem?_append_right (by simp)]; simp) (fs.2.2 ⟨hyb, by omega⟩)
  · rw [hny, if_neg (ha _ _ _ _ hy hi c).1]
    refine to (pix (prts nds) j) y ?_ hyb
    have hjl := (List.getElem?_eq_some_iff.1 hy).1
    rw [List.getElem?_append_left (by simpa using hjl)]
    rw [set_else c]
    exact hy

/-- Two new nodes, and the array of both. -/
structure Sides (w W : World) (sb dep ta tc : Nat) (ba ra bb rb : Nat) : Prop where
  bel : Below w.heap.size w W
  s : W.heap[sb]? = some (.cells #[.pointer (some ⟨ba, 0, none⟩), .pointer (some ⟨bb, 0, none⟩)] 122 (0, 0))
  a : W.heap[ba]? = some (.cells #[.int .i64 ((dep + 1 : Nat) : Int), .slice (some ⟨ra, 0, none⟩) 1 1] 96 (0, 0))
  la : W.heap[ra]? = some (.cells #[.pointer (some ⟨ta, 0, none⟩)] 23 (0, 0))
  b : W.heap[bb]? = some (.cells #[.int .i64 ((dep + 1 : Nat) : Int), .slice (some ⟨rb, 0, none⟩) 1 1] 96 (0, 0))
  lb : W.heap[rb]? = some (.cells #[.pointer (some ⟨tc, 0, none⟩)] 23 (0, 0))
  lo : w.heap.size ≤ sb ∧ w.heap.size ≤ ba ∧ w.heap.size ≤ ra ∧ w.heap.size ≤ bb ∧ w.heap.size ≤ rb
theorem Sides.ne {W : World} {sb dep ta tc ba ra bb rb : Nat} (h : Sides w W sb dep ta tc ba ra bb rb) (hne : ta ≠ tc) : ra ≠ rb ∧ ba ≠ bb := by
  have h1 : ra ≠ rb := by
    rintro rfl
    have := h.la.symm.trans h.lb
    simp only [Option.some.injEq, Obj.cells.injEq] at this
    have := this.1
    simp at this
  refine ⟨h1, ?_⟩
  rintro rfl
  have := h.a.symm.trans h.b
  simp only [Option.some.injEq, Obj.cells.injEq] at this
  have := this.1
  simp at this

/-- A directory of which the first so many places are turned. -/
def mixV (D : Nat) (nds nds' : List Nd) (j : Nat) : List Value := (dirV D nds').take j ++ (dirV D nds).drop j
theorem dirV_len (D : Nat) (nds : List Nd) : (dirV D nds).length = 2 ^ D := by simp [dirV]
theorem dirV_at {D : Nat} {nds : List Nd} {j : Nat} (hj : j < 2 ^ D) : (dirV D nds)[j]? = some (.pointer (some ⟨nodeOf nds j, 0, none⟩)) := by
  unfold dirV
  rw [List.getElem?_map, List.getElem?_range hj]; rfl
theorem mix_len (D : Nat) (nds nds' : List Nd) (j : Nat) (hj : j ≤ 2 ^ D) : (mixV D nds nds' j).length = 2 ^ D := by
  unfold mixV
  rw [List.length_append, List.length_take, List.length_drop, dirV_len, dirV_len]; omega
theorem mix_at {D : Nat} {nds nds' : List Nd} {j : Nat} (hj : j < 2 ^ D) : (mixV D nds nds' j)[j]? = some (.pointer (some ⟨nodeOf nds j, 0, none⟩)) := by
  unfold mixV
  rw [List.getElem?_append_right (by rw [List.length_take, dirV_len]; omega), List.getElem?_drop, List.length_take, dirV_len]
  rw [show j + (j - min j (2 ^ D)) = j by omega]
  exact dirV_at hj
theorem mix_step {D : Nat} {nds nds' : List Nd} {j : Nat} (hj : j < 2 ^ D) : (mixV D nds nds' j).set j (.pointer (some ⟨nodeOf nds' j, 0, none⟩)) = mixV D nds nds' (j + 1) := by
  apply List.ext_getElem?
  intro q
  by_cases c : q = j
  · subst c
    rw [set_here (by rw [mix_len _ _ _ _ (by omega)]; exact hj)]
    unfold mixV
    rw [List.getElem?_append_left (by rw [List.length_take, dirV_len]; omega), List.getElem?_take, if_pos (by omega)]
    exact (dirV_at hj).symm
  · rw [set_else c]
    unfold mixV
    by_cases d : q < j
    · rw [List.getElem?_append_left (by rw [List.length_take, dirV_len]; omega), List.getElem?_append_left (by rw [List.length_take, dirV_len]; omega), List.getElem?_take, List.getElem?_take, if_pos d, if_pos (by omega)]
    · rw [List.getElem?_append_right (by rw [List.length_take, dirV_len]; omega), List.getElem?_append_right (by rw [List.length_take, dirV_len]; omega), List.getElem?_drop, List.getElem?_drop, List.length_take, List.length_take, dirV_len]
      rw [show j + (q - min j (2 ^ D)) = q by omega, show j + 1 + (q - min (j + 1) (2 ^ D)) = q by omega]
theorem mix_same {D : Nat} {nds nds' : List Nd} {j : Nat} (hj : j < 2 ^ D) (he : nodeOf nds' j = nodeOf nds j) : mixV D nds nds' (j + 1) = mixV D nds nds' j := by
  rw [← mix_step hj, he]
  exact set_self (mix_at hj)

/-- A node is split: the state behind it. -/
theorem DMem.halves {w1 W Z : World} {sb ba ra bb rb i : Nat} {x : Nd} {ta tc : Tb} (h : DMem w db seed D n dr dc nds F) (hb : Below w.heap.size w w1) (hs : Sides w1 W sb x.p.dep ta.t tc.t ba ra bb rb)
    (hZ : Touch W Z dr dr) (hrow : Z.ownsRow 0 93 1 (.slice (some ⟨dr, 0, none⟩) (2 ^ D) dc) (2 ^ D) (dirV D (nds.set i ⟨ba, ra, 1, spA seed x.p, [ta]⟩ ++ [⟨bb, rb, 1, spB seed x.p, [tc]⟩])))
    (hta : TB w1 ta.t ta.g seed ta.m) (htc : TB w1 tc.t tc.g seed tc.m) (hlo : w.heap.size ≤ ta.t ∧ w.heap.size ≤ ta.g ∧ w.heap.size ≤ tc.t ∧ w.heap.size ≤ tc.g ∧ ta.t ≠ tc.t ∧ ta.g ≠ tc.g) :
    ∃ F', DMem Z db seed D n dr dc (nds.set i ⟨ba, ra, 1, spA seed x.p, [ta]⟩ ++ [⟨bb, rb, 1, spB seed x.p, [tc]⟩]) F' ∧ Fr w Z F F' := by
  obtain ⟨hrr, hbb⟩ := hs.ne hlo.2.2.2.2.1
  have hbel : Below w.heap.size w W := hb.trans (hs.bel.mono hb.size)
  have hW := h.step hbel
  obtain ⟨cr, fr, hr⟩ := row_block hW.row
  have hsz1 := hb.size
  have hsz2 := hs.bel.size
  have hszZ := hZ.size
  have hdr := h.flt _ h.fdr
  have keep : ∀ k, k < W.heap.size → k ≠ dr → Z.heap[k]? = W.heap[k]? := fun k hk hne => hZ.block k hk hne hne
  obtain ⟨l1, l2, l3, l4, l5⟩ := hs.lo
  have ta1 := hta.lt
  have tc1 := htc.lt
  have A : NdAt Z seed ⟨ba, ra, 1, spA seed x.p, [ta]⟩ := by
    refine ⟨(keep ba (heap_lt' hs.a) (by omega)).trans hs.a, ?_, ?_⟩
    · have e := (keep ra (heap_lt' hs.la) (by omega)).trans hs.la
      exact ⟨rfl, .inr ⟨ra, 1, _, rfl, Nat.zero_le _, e, Nat.le_refl _, by unfold maxLen; omega, rfl, rfl⟩⟩
    · intro s hs'; rw [List.mem_singleton] at hs'; subst hs'
      exact (hta.later hs.bel).kept (keep _ (by omega) (by omega)) (keep _ (by omega) (by omega))
  have B : NdAt Z seed ⟨bb, rb, 1, spB seed x.p, [tc]⟩ := by
    refine ⟨(keep bb (heap_lt' hs.b) (by omega)).trans hs.b, ?_, ?_⟩
    · have e := (keep rb (heap_lt' hs.lb) (by omega)).trans hs.lb
      exact ⟨rfl, .inr ⟨rb, 1, _, rfl, Nat.zero_le _, e, Nat.le_refl _, by unfold maxLen; omega, rfl, rfl⟩⟩
    · intro s hs'; rw [List.mem_singleton] at hs'; subst hs'
      exact (htc.later hs.bel).kept (keep _ (by omega) (by omega)) (keep _ (by omega) (by omega))
  have old : ∀ y ∈ nds, NdAt Z seed y := fun y hy => (hW.nd y hy).kept fun k hk => keep k ((hW.nd y hy).lt hk) ((hW.apart hy).1 k hk).2
  have lt : ∀ y ∈ nds, ∀ k, y.has k → k < w.heap.size := fun y hy k hk => h.flt k (h.nf y hy k hk)
  have hasN : ∀ (b r : Nat) (p : PartR) (s : Tb) (k : Nat), (⟨b, r, 1, p, [s]⟩ : Nd).has k → k = b ∨ k = r ∨ k = s.t ∨ k = s.g := by
    rintro b r p s k (e | e | ⟨q, hq, e⟩)
    · exact .inl e
    · exact .inr (.inl e)
    · simp only [List.mem_singleton] at hq; subst hq; rcases e with e | e
      · exact .inr (.inr (.inl e))
      · exact .inr (.inr (.inr e))
  have apN : ∀ (b r : Nat) (p : PartR) (s : Tb), w.heap.size ≤ b → w.heap.size ≤ r → w.heap.size ≤ s.t → w.heap.size ≤ s.g → ∀ y ∈ nds, NdAp ⟨b, r, 1, p, [s]⟩ y ∧ NdAp y ⟨b, r, 1, p, [s]⟩ := by
    intro b r p s b0 b1 b2 b3 y hy
    have y1 := lt y hy y.b (.inl rfl)
    have y2 := lt y hy y.r (.inr (.inl rfl))
    have y3 : ∀ u ∈ y.ts, u.t < w.heap.size ∧ u.g < w.heap.size := fun u hu => ⟨lt y hy _ (.inr (.inr ⟨u, hu, .inl rfl⟩)), lt y hy _ (.inr (.inr ⟨u, hu, .inr rfl⟩))⟩
    refine ⟨⟨by simp only; omega, by simp only; omega, fun q hq u hu => ?_⟩, ⟨by simp only; omega, by simp only; omega, fun u hu q hq => ?_⟩⟩
    all_goals
      simp only [List.mem_singleton] at hq
      subst hq
      have := y3 u hu
      constructor <;> omega
  have a0 : w.heap.size ≤ ba ∧ w.heap.size ≤ ra ∧ w.heap.size ≤ bb ∧ w.heap.size ≤ rb := by omega
  have hbZ : Z.heap[db]? = w.heap[db]? := (keep db (by have := h.flt _ h.fdb; omega) h.dbr).trans (hbel.block db (h.flt _ h.fdb))
  refine ⟨fun k => F k ∨ (w.heap.size ≤ k ∧ k < Z.heap.size), ⟨hbZ.trans h.blk, hrow, ?_, ?_, ?_, .inl h.fdb, .inl h.fdr, ?_⟩, ?_⟩
  · intro y hy
    rw [List.mem_append, List.mem_singleton] at hy
    rcases hy with hy | rfl
    · obtain ⟨j, hj⟩ := List.mem_iff_getElem?.1 hy
      rcases set_get hj with ⟨_, rfl, _⟩ | ⟨_, hj⟩
      · exact A
      · exact old y (List.mem_of_getElem? hj)
    · exact B
  · intro y hy k hk
    rw [List.mem_append, List.mem_singleton] at hy
    rcases hy with hy | rfl
    · obtain ⟨j, hj⟩ := List.mem_iff_getElem?.1 hy
      rcases set_get hj with ⟨_, rfl, _⟩ | ⟨_, hj⟩
      · have := A.lt hk
        rcases hasN _ _ _ _ _ hk with e | e | e | e <;> exact .inr (by omega)
      · exact .inl (h.nf y (List.mem_of_getElem? hj) k hk)
    · have := B.lt hk
      rcases hasN _ _ _ _ _ hk with e | e | e | e <;> exact .inr (by omega)
  · refine Apart.snoc (h.ap.set i _ fun j y hj _ => apN _ _ _ _ a0.1 a0.2.1 hlo.1 hlo.2.1 y (List.mem_of_getElem? hj)) _ fun y hy => ?_
    obtain ⟨j, hj⟩ := List.mem_iff_getElem?.1 hy
    rcases set_get hj with ⟨_, rfl, _⟩ | ⟨_, hj⟩
    · refine ⟨⟨fun e => hbb e.symm, fun e => hrr e.symm, ?_⟩, ⟨hbb, hrr, ?_⟩⟩
      · intro q hq u hu
        simp only [List.mem_singleton] at hq hu
        subst hq hu
        exact ⟨fun e => hlo.2.2.2.2.1 e.symm, fun e => hlo.2.2.2.2.2 e.symm⟩
      · intro q hq u hu
        simp only [List.mem_singleton] at hq hu
        subst hq hu
        exact hlo.2.2.2.2
    · exact apN _ _ _ _ a0.2.2.1 a0.2.2.2 hlo.2.2.1 hlo.2.2.2.1 y (List.mem_of_getElem? hj)
  · intro k hk
    rcases hk with e | e
    · have := h.flt k e; omega
    · exact e.2
  · refine ⟨hZ.os.trans hbel.os, hZ.tape.trans hbel.tape, hZ.output.trans hbel.output, by omega, fun k hk hf => ?_, fun k hk => by rcases hk with e | e; exact .inl e; exact .inr e.1⟩
    exact (keep k (by omega) (fun e => hf (e ▸ h.fdr))).trans (hbel.block k hk)
end
end Go.Proofs.Ytkkijcnipjojoaa
