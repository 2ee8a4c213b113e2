/- A dict in memory: a node's keys, all nodes; the directory is doubled, a node is split, has a table more. -/
import Derived.Test.YtkkijcnipjojoaaDictA
import Derived.Laws.AppendOwnNone
namespace Go.Proofs.Ytkkijcnipjojoaa
open Go.RowKit

def ndV (x : Nd) : Value := .pointer (some ⟨x.b, 0, none⟩)
/-- append of one list of the call's own behind another. -/
theorem wpList_append_two {P : Program} (w : World) {ops : Array Oper} {rest : List Oper} {o : Oper} {a : Act} {Q : Exit → Act → World → Prop} (hgd : o.guard = none) (s x : Operand) (t : TypeId)
    (ho : o.op = .call { callee := .builtin .append, args := #[s, x], argTypes := #[t, t] })
    (base : Nat) (e : TypeId) (i : TypeInfo) (z : Value) (bytes : Nat) (ht : P.underlying t = some (.slice e)) (hi : P.info? e = some i) (hz : i.zero = some z)
    (hsize : i.size = 1) (hby : i.bytes = bytes) (hzs : z.cells.size = 1)
    (v : Value) (n : Nat) (xs : List Value) (hs : a.eval s = v) (hown : w.ownsRow base e 1 v n xs) (v2 : Value) (m base2 : Nat) (ys : List Value) (hx : a.eval x = v2) (hown2 : w.ownsRow base2 e 1 v2 m ys)
    (h1 : ∀ u ∈ ys, u.oneCell' = true) (h63 : n + m ≤ maxLen) (hbytes : (n + m) * bytes ≤ 140737488355328) (hbase : base ≤ w.heap.size)
    (h : ∀ v' w', w'.ownsRow base e 1 v' (n + m) (xs ++ ys) → Below base w w' → wpList P ops Q rest (a.put o.dst v') w') : wpList P ops Q (o :: rest) a w := by
  rcases hown2.2 with ⟨rfl, rfl⟩ | ⟨g, cap, cur, rfl, _⟩
  · have hy : ys = [] := List.length_eq_zero_iff.1 (by have := hown2.1; omega)
    subst hy
    refine wpList_append_own_none hgd s x t ho base e i 1 ht hi v n xs hs hown hx ?_
    exact h v w (by simpa using hown) (Below.refl _ _)
  · refine wpList_append_own w hgd s x t ho base e i z 1 bytes ht hi hz hsize hby hzs (by decide) v n xs hs hown ⟨g, 0, none⟩ m cap ys hx (by have := hown2.1; omega) (hown2.cells rfl) h1 h63 hbytes hbase fun v' w' h2 h3 _ => h v' w' h2 (grown_below hown h3 hbase)

theorem keys_tb' {w : World} {tb gb : Nat} {seed : Int} {m : ByteArray → Option Int} {ks : List ByteArray} (hT : TB w tb gb seed m) (hc : Card m ks) :
    ∃ l : List ByteArray, l.Perm ks ∧ ∀ W, Below w.heap.size w W → Calls Try.prog 26 #[.pointer (some ⟨tb, 0, none⟩)] W fun e w' => ∃ v, e = .returned v ∧ w'.ownsRow W.heap.size 9 1 v l.length (l.map Value.string) ∧ Below W.heap.size W w' := by
  obtain ⟨S, h1, _⟩ := hT
  exact ⟨keysL S S.G, (h1.good.count ks hc.1 hc.2).2, fun W hb => keys_any W (h1.later hb)⟩

def upTo {α : Type} (lf : Nat → List α) : Nat → List α
  | 0 => []
  | n + 1 => upTo lf n ++ lf n
theorem upTo_perm {lf : Nat → List ByteArray} {ts : List Tb} (h : ∀ j t, ts[j]? = some t → (lf j).Perm t.ks) (n : Nat) (hn : n ≤ ts.length) : (upTo lf n).Perm (flatT (ts.take n)) := by
  induction n with
  | zero => simp [upTo, flatT]
  | succ n ih =>
    obtain ⟨t, ht⟩ : ∃ t, ts[n]? = some t := ⟨_, List.getElem?_eq_getElem (by omega)⟩
    unfold upTo
    rw [List.take_add_one, ht]
    simp only [Option.toList_some, flatT, List.flatMap_append, List.flatMap_cons, List.flatMap_nil, List.append_nil]
    exact (ih (by omega)).append (h n t ht)
theorem flat_take (ts : List Tb) (n : Nat) : (flatT (ts.take n)).length ≤ (flatT ts).length := by
  conv => rhs; rw [← List.take_append_drop n ts]
  simp only [flatT, List.flatMap_append, List.length_append]
  omega
theorem strs_one (l : List ByteArray) : ∀ u ∈ l.map Value.string, u.oneCell' = true := one_strs l

set_option maxRecDepth 100000 in
set_option maxHeartbeats 1000000 in
theorem keys_nd {w : World} {seed : Int} {x : Nd} (h : NdAt w seed x) (hC : ∀ t ∈ x.ts, Card t.m t.ks) (hlen : (flatT x.ts).length ≤ 1000000) :
    ∃ l : List ByteArray, l.Perm (flatT x.ts) ∧ ∀ W, Below w.heap.size w W → Calls Try.prog 71 #[.pointer (some ⟨x.b, 0, none⟩)] W fun e w' => ∃ v, e = .returned v ∧ w'.ownsRow W.heap.size 9 1 v l.length (l.map Value.string) ∧ Below W.heap.size W w' := by
  have hex : ∀ j : Nat, ∃ l : List ByteArray, ∀ t : Tb, x.ts[j]? = some t → l.Perm t.ks ∧ ∀ W, Below w.heap.size w W → Calls Try.prog 26 #[.pointer (some ⟨t.t, 0, none⟩)] W fun e w' => ∃ v, e = .returned v ∧ w'.ownsRow W.heap.size 9 1 v l.length (l.map Value.string) ∧ Below W.heap.size W w' := by
    intro j
    cases hj : x.ts[j]? with
    | none => exact ⟨[], fun t ht => by cases ht⟩
    | some t =>
      have htm := List.mem_of_getElem? hj
      obtain ⟨l, h1, h2⟩ := keys_tb' (h.tab t htm) (hC t htm)
      exact ⟨l, fun t' ht' => by simp only [Option.some.injEq] at ht'; subst ht'; exact ⟨h1, h2⟩⟩
  obtain ⟨lf, hlf⟩ := Classical.axiomOfChoice hex
  have hperm := upTo_perm (lf := lf) (ts := x.ts) fun j t ht => (hlf j t ht).1
  refine ⟨upTo lf x.ts.length, by have := hperm x.ts.length (Nat.le_refl _); rwa [List.take_of_length_le (Nat.le_refl _)] at this, fun W hb => ?_⟩
  have hsmall : ∀ j, j ≤ x.ts.length → (upTo lf j).length ≤ 1000000 := fun j hj => by
    rw [(hperm j hj).length_eq]
    exact Nat.le_trans (flat_take _ _) hlen
  have HN := Lib.hid fun (W' : World) (hb' : Below W.heap.size W W') => h.later (hb.trans (hb'.mono hb.size))
  have HK := Lib.hid fun (W' : World) (hb' : Below W.heap.size W W') (j : Nat) (t : Tb) (ht : x.ts[j]? = some t) => (hlf j t ht).2 W' (hb.trans (hb'.mono hb.size))
  have HS := Lib.hid hsmall
  have hmax : x.ts.length ≤ maxLen := owns_maxLen h.row
  unfold maxLen at hmax
  obtain ⟨c0, c1⟩ := (h.later hb).cells
  unfold Nd.lv at c1
  obtain ⟨iS, hiS, zS0, zS1, zS2⟩ := info_parts info_str
  clear h hlf hperm hsmall hex hb hlen hC
  generalize hn : x.ts.length = n at *
  have HE := Lib.hid hn
  clear hn
  go_enter Try.func71, Try.ntmps71
  go_wp2
  go_loopw [3, 11] (fun v i wr => ∃ j : Nat, j ≤ n ∧ i = .int .i64 j ∧ wr.ownsRow W.heap.size 9 1 v (upTo lf j).length ((upTo lf j).map Value.string) ∧ Below W.heap.size W wr) (fun _ i _ => n - (intOf i).toNat)
  case atStart => exact ⟨0, by omega, rfl, World.ownsRow_nil _ _ _ _, Below.refl _ _⟩
  case round =>
    obtain ⟨j, hj, rfl, ho, hb⟩ := hrel
    by_cases hlt : j < n
    · obtain ⟨t, ht⟩ : ∃ t, x.ts[j]? = some t := ⟨_, List.getElem?_eq_getElem (by rw [HE.out]; exact hlt)⟩
      have hc := (HN.out wr hb).tabs_at j t ht
      have hsz := hb.size
      have HT := Lib.hid (HK.out wr hb j t ht)
      have hs1 := HS.out (j + 1) hlt
      have hs2 : (upTo lf j).length + (lf j).length = (upTo lf (j + 1)).length := by simp [upTo]
      obtain ⟨q, hq⟩ : ∃ q, q = (upTo lf (j + 1)).length := ⟨_, rfl⟩
      have HQ := Lib.hid hq
      rw [← hq] at hs1 hs2
      clear ht hq
      go_wp2_with (first | (go_at_call 26; refine HT.out.mono ?_; rintro e w3 ⟨v2, rfl, o2, hb3⟩; have hsz3 := hb3.size) | (at_builtin; refine wpList_append_two _ rfl (.tmp 15) (.tmp 17) 39 rfl W.heap.size 9 iS (.string ByteArray.empty) 16 Try.underlying39 hiS zS0 zS1 zS2 rfl _ _ _ rfl (owns_later ho hb3) _ _ _ _ rfl o2 (strs_one _) (by unfold maxLen; omega) (by omega) (by omega) ?_; intro v' w' o3 b3))
      go_roundw
      case rel =>
        refine ⟨j + 1, hlt, by go_num, ?_, hb.trans ((hb3.mono hb.size).trans b3)⟩
        have e1 : (upTo lf (j + 1)).length = (upTo lf j).length + (lf j).length := by simp [upTo]
        have e2 : (upTo lf (j + 1)).map Value.string = (upTo lf j).map Value.string ++ (lf j).map Value.string := by simp [upTo]
        rw [e1, e2]
        exact o3
      case measure => simp [intOf]; omega
    · obtain rfl : j = n := by omega
      go_wp2
      go_ret
      exact ⟨_, rfl, ho, hb⟩

/-- The nodes in the order in which nodes tells them. -/
def nlU (nds : List Nd) : Nat → List Nd
  | 0 => []
  | j + 1 => nlU nds j ++ (match nds[pix (prts nds) j]? with | some x => if j < 2 ^ x.p.dep then [x] else [] | none => [])
theorem filter_lt {l : List Nd} (j : Nat) : (l.filter fun x => decide (x.p.bits < j + 1)).Perm ((l.filter fun x => decide (x.p.bits < j)) ++ l.filter fun x => decide (x.p.bits = j)) := by
  induction l with
  | nil => exact List.Perm.refl _
  | cons a l ih =>
    by_cases c1 : a.p.bits < j
    · rw [List.filter_cons_of_pos (by simp; omega), List.filter_cons_of_pos (by simpa using c1), List.filter_cons_of_neg (by simp; omega)]
      exact ih.cons a
    · by_cases c2 : a.p.bits = j
      · rw [List.filter_cons_of_pos (by simp; omega), List.filter_cons_of_neg (by simpa using c1), List.filter_cons_of_pos (by simpa using c2)]
        exact (ih.cons a).trans List.perm_middle.symm
      · rw [List.filter_cons_of_neg (by simp; omega), List.filter_cons_of_neg (by simpa using c1), List.filter_cons_of_neg (by simpa using c2)]
        exact ih
section
variable {seed : Int} {D : Nat} {nds : List Nd} {M : ByteArray → Option Int} {L : Nat}
theorem DOk.filter_eq (h : DOk seed D nds M L) (j : Nat) : (nds.filter fun x => decide (x.p.bits = j)) = match nds[pix (prts nds) j]? with | some x => if j < 2 ^ x.p.dep then [x] else [] | none => [] := by
  obtain ⟨x, hx, hb, hxm, _⟩ := h.node j
  rw [hx]
  simp only
  have hbl := h.ok.bits x.p (h.part hxm)
  by_cases c : j < 2 ^ x.p.dep
  · rw [if_pos c]
    rw [Nat.mod_eq_of_lt c] at hb
    have hmid := mid_of hx
    have hne : ∀ i y, nds[i]? = some y → i ≠ pix (prts nds) j → y.p.bits ≠ j := fun i y hi hne e =>
      h.ok.bits_ne i (pix (prts nds) j) y.p x.p (prts_get hi) (prts_get hx) hne (by rw [e, hb])
    conv => lhs; rw [hmid]
    rw [List.filter_append, List.filter_cons_of_pos (by simpa using hb.symm)]
    have f1 : (nds.take (pix (prts nds) j)).filter (fun x => decide (x.p.bits = j)) = [] := by
      rw [List.filter_eq_nil_iff]
      intro y hy
      obtain ⟨i, hi⟩ := List.mem_iff_getElem?.1 hy
      rw [List.getElem?_take] at hi
      split at hi
      · simpa using hne i y hi (by omega)
      · cases hi
    have f2 : (nds.drop (pix (prts nds) j + 1)).filter (fun x => decide (x.p.bits = j)) = [] := by
      rw [List.filter_eq_nil_iff]
      intro y hy
      obtain ⟨i, hi⟩ := List.mem_iff_getElem?.1 hy
      rw [List.getElem?_drop] at hi
      simpa using hne _ y hi (by omega)
    rw [f1, f2]; rfl
  · rw [if_neg c, List.filter_eq_nil_iff]
    intro y hy
    obtain ⟨i, hi⟩ := List.mem_iff_getElem?.1 hy
    simp only [decide_eq_true_eq]
    intro e
    have hyb := h.ok.bits y.p (h.part hy)
    have := h.ok.pix_eq (x := j) (prts_get hi) (by rw [Nat.mod_eq_of_lt (by omega)]; exact e.symm)
    subst this
    rw [hx] at hi
    simp only [Option.some.injEq] at hi
    subst hi
    omega
theorem DOk.nodes_perm (h : DOk seed D nds M L) : (nlU nds (2 ^ D)).Perm nds := by
  have H : ∀ j, (nlU nds j).Perm (nds.filter fun x => decide (x.p.bits < j)) := by
    intro j
    induction j with
    | zero => simp [nlU]
    | succ j ih =>
      unfold nlU
      rw [← h.filter_eq j]
      exact (ih.append_right _).trans (filter_lt j).symm
  have := H (2 ^ D)
  have e : (nds.filter fun x => decide (x.p.bits < 2 ^ D)) = nds := by
    rw [List.filter_eq_self]
    intro x hx
    have h1 := h.ok.bits x.p (h.part hx)
    have h2 := Nat.pow_le_pow_right (show 0 < 2 by omega) (h.ok.dep x.p (h.part hx))
    simp; omega
  rwa [e] at this
theorem nlU_len (nds : List Nd) (j : Nat) : (nlU nds j).length ≤ j := by
  induction j with
  | zero => simp [nlU]
  | succ j ih =>
    unfold nlU
    rw [List.length_append]
    split
    · split <;> simp <;> omega
    · simp; omega
end
theorem info_node : (Try.prog.info? 93).map (fun i => (i.zero, i.size, i.bytes)) = some (some (.pointer none), 1, 8) := by kernel_rfl
theorem ptr_cell {p : Option Addr} : ∀ u ∈ [Value.pointer p], u.oneCell' = true := by intro u hu; simp at hu; subst hu; rfl

set_option maxRecDepth 100000 in
set_option maxHeartbeats 1000000 in
theorem nodes_d {w : World} {db : Nat} {seed : Int} {D n dr dc : Nat} {nds : List Nd} {F : Nat → Prop} {M : ByteArray → Option Int} {L : Nat} (h : DMem w db seed D n dr dc nds F) (ho : DOk seed D nds M L) :
    Calls Try.prog 75 #[.pointer (some ⟨db, 0, none⟩)] w fun e w' => ∃ v, e = .returned v ∧ w'.ownsRow w.heap.size 93 1 v (nlU nds (2 ^ D)).length ((nlU nds (2 ^ D)).map ndV) ∧ Below w.heap.size w w' := by
  have hdm := ho.ok.dmax
  have hp := pow16 hdm
  have HM := Lib.hid fun (W : World) (hb : Below w.heap.size w W) => h.step hb
  have HO := Lib.hid ho
  obtain ⟨_, _, c2, _⟩ := h.cells
  obtain ⟨iS, hiS, zS0, zS1, zS2⟩ := info_parts info_node
  clear h ho
  generalize hN : 2 ^ D = N at *
  have HN := Lib.hid hN
  clear hN
  go_enter Try.func75, Try.ntmps75
  go_wp2
  go_loopw [3, 11] (fun v i wr => ∃ j : Nat, j ≤ N ∧ i = .int .i64 j ∧ wr.ownsRow w.heap.size 93 1 v (nlU nds j).length ((nlU nds j).map ndV) ∧ Below w.heap.size w wr) (fun _ i _ => N - (intOf i).toNat)
  case atStart => exact ⟨0, by omega, rfl, World.ownsRow_nil _ _ _ _, Below.refl _ _⟩
  case round =>
    obtain ⟨j, hj, rfl, ho, hb⟩ := hrel
    by_cases hlt : j < N
    · have hm := HM.out wr hb
      obtain ⟨x, hx, _, hxm, hnx⟩ := HO.out.node j
      have hc := hm.dir j (by rw [HN.out]; exact hlt)
      rw [hnx] at hc
      obtain ⟨x0, _⟩ := (hm.nd x hxm).cells
      have hsz := hb.size
      have hd := HO.out.ok.dep x.p (HO.out.part hxm)
      have hll := nlU_len nds j
      have HU : Hid (nlU nds (j + 1) = nlU nds j ++ if j < 2 ^ x.p.dep then [x] else []) := by unfold Hid; show nlU nds j ++ _ = _; rw [hx]
      have hw : wrap64 (2 ^ x.p.dep) = ((2 ^ x.p.dep : Nat) : Int) := by
        have := wrap_pow64 (x.p.dep : Int) (by omega) (by omega)
        simpa using this
      clear hm hx hxm hnx
      generalize x.p.dep = dp at *
      by_cases c : j < 2 ^ dp
      · have q1 : (j : Int) < wrap64 (2 ^ dp) := by rw [hw]; exact Int.ofNat_lt.2 c
        have HC := Lib.hid c
        clear c hw
        obtain ⟨ak, ck, rfl⟩ := owns_slice ho
        go_wp2_with (at_builtin; refine wpList_append_lies _ rfl (.tmp 23) (.tmp 25) 97 rfl w.heap.size 93 iS (.pointer none) 1 8 Try.underlying97 hiS zS0 zS1 zS2 rfl (by decide) _ _ _ rfl (owns_later ho (b_al8 _ _)) ⟨wr.heap.size, 0, none⟩ 1 1 [.pointer (some ⟨x.b, 0, none⟩)] rfl rfl (cell1 _ _ _) ptr_cell (by omega) (by unfold maxLen; omega) (by omega) (by simp; omega) _ rfl ?_; intro g cap w' h2 h3 h4 h5)
        go_roundw
        case rel =>
          refine ⟨j + 1, hlt, by go_num, ?_, ?_⟩
          · rw [HU.out, if_pos HC.out]
            simp only [List.length_append, List.length_singleton, List.map_append, List.map_cons, List.map_nil]
            exact h2
          · have b3 := grown_below (owns_later ho (b_al8 _ _)) h3 (by simp; omega)
            exact (hb.trans ((b_al8 wr _).mono hsz)).trans b3
        case measure => simp [intOf]; omega
      · have q1 : ¬ (j : Int) < wrap64 (2 ^ dp) := by rw [hw]; exact fun e => c (Int.ofNat_lt.1 e)
        have HC := Lib.hid c
        clear c hw
        go_wp2
        go_roundw
        case rel =>
          refine ⟨j + 1, hlt, by go_num, ?_, hb⟩
          rw [HU.out, if_neg HC.out, List.append_nil]
          exact ho
        case measure => simp [intOf]; omega
    · obtain rfl : j = N := by omega
      go_wp2
      go_ret
      exact ⟨_, rfl, ho, hb⟩

theorem SOk.pix_add {seed : Int} {D : Nat} {ps : List PartR} (h : SOk seed D ps) (j : Nat) : pix ps (2 ^ D + j) = pix ps j := by
  obtain ⟨p, hp, _, hm⟩ := h.pix_at j
  refine h.pix_same hp ?_
  have hd := Nat.pow_dvd_pow 2 (h.dep p hm)
  obtain ⟨c, hc⟩ := hd
  rw [hc, Nat.mul_add_mod]
theorem dir_double {seed : Int} {D : Nat} {nds : List Nd} (h : SOk seed D (prts nds)) : dirV (D + 1) nds = dirV D nds ++ dirV D nds := by
  unfold dirV
  rw [Nat.pow_succ, Nat.mul_two, List.range_add, List.map_append, List.map_map]
  congr 1
  refine List.map_congr_left fun j _ => ?_
  simp only [Function.comp]
  unfold nodeOf
  rw [h.pix_add j]

section
variable {w w' : World} {db : Nat} {seed : Int} {D n dr dc : Nat} {nds : List Nd} {F F' : Nat → Prop} {M : ByteArray → Option Int} {L : Nat}
/-- The directory is doubled. -/
theorem DMem.double (h : DMem w db seed D n dr dc nds F) (hS : SOk seed D (prts nds)) {N g cap : Nat} (hN : N = 2 ^ D) (h2 : w'.ownsRow 0 93 1 (.slice (some ⟨g, 0, none⟩) (N + N) cap) (N + N) (dirV D nds ++ dirV D nds)) (h3 : w.grownBy w' (some dr))
    (h4 : some dr = some g ∨ g = w.heap.size) (h5 : g < w'.heap.size) (z : Int) (hz : z = (D : Int) + 1) :
    ∃ F', DMem ((w'.setCell ⟨db, 2, none⟩ (.slice (some ⟨g, 0, none⟩) (N + N) cap)).setCell ⟨db, 1, none⟩ (.int .i64 z)) db seed (D + 1) n g cap nds F' ∧ Fr w ((w'.setCell ⟨db, 2, none⟩ (.slice (some ⟨g, 0, none⟩) (N + N) cap)).setCell ⟨db, 1, none⟩ (.int .i64 z)) F F' := by
  have hdb := h.flt _ h.fdb
  have hdr := h.flt _ h.fdr
  have hne := h.dbr
  have hgd : g ≠ db := by rcases h4 with e | e; exact fun q => hne (by simp only [Option.some.injEq] at e; omega); omega
  have hs := h3.size
  have e1 : w'.heap[db]? = some (.cells #[.int .u64 seed, .int .i64 (D : Nat), .slice (some ⟨dr, 0, none⟩) (2 ^ D : Nat) dc, .int .i64 (n : Nat)] 99 (0, 0)) :=
    (h3.block db hdb (by simp only [ne_eq, Option.some.injEq]; exact hne)).trans h.blk
  have e2 := heap_setCell_same w' db 2 _ _ (.slice (some ⟨g, 0, none⟩) (N + N) cap) e1
  have e3 := heap_setCell_same _ db 1 _ _ (.int .i64 z) e2
  have eo : ∀ k, k ≠ db → ((w'.setCell ⟨db, 2, none⟩ (.slice (some ⟨g, 0, none⟩) (N + N) cap)).setCell ⟨db, 1, none⟩ (.int .i64 z)).heap[k]? = w'.heap[k]? := fun k hk => by
    rw [heap_setCell_other _ _ _ _ (by exact hk), heap_setCell_other _ _ _ _ (by exact hk)]
  have hsz : ((w'.setCell ⟨db, 2, none⟩ (.slice (some ⟨g, 0, none⟩) (N + N) cap)).setCell ⟨db, 1, none⟩ (.int .i64 z)).heap.size = w'.heap.size := by simp [World.setCell]
  have hgF : F g ∨ w.heap.size ≤ g := by rcases h4 with e | e; exact .inl (by simp only [Option.some.injEq] at e; rw [← e]; exact h.fdr); exact .inr (by omega)
  have hNN : N + N = 2 ^ (D + 1) := by rw [Nat.pow_succ, Nat.mul_two, hN]
  refine ⟨fun k => F k ∨ (w.heap.size ≤ k ∧ k < w'.heap.size), ⟨?_, ?_, ?_, fun x hx k hk => .inl (h.nf x hx k hk), h.ap, .inl h.fdb, by rcases hgF with e | e; exact .inl e; exact .inr ⟨e, h5⟩, ?_⟩, ?_⟩
  · rw [e3, hz, ← hNN]; rfl
  · rw [dir_double hS, ← hNN]
    exact row_kept h2 (eo g hgd)
  · intro x hx
    refine (h.nd x hx).kept fun k hk => ?_
    have hkl := h.flt _ (h.nf x hx k hk)
    have := (h.apart hx).1 k hk
    rw [eo k this.1]
    exact h3.block k hkl (by simp only [ne_eq, Option.some.injEq]; exact this.2)
  · intro k hk
    rw [hsz]
    rcases hk with e | e
    · have := h.flt k e; omega
    · exact e.2
  · refine ⟨h3.os, h3.tape, h3.output, by rw [hsz]; exact hs, fun k hk hf => ?_, fun k hk => by rcases hk with e | e; exact .inl e; exact .inr e.1⟩
    rw [eo k (fun e => hf (e ▸ h.fdb))]
    exact h3.block k hk (fun e => hf (by simp only [Option.some.injEq] at e; rw [e]; exact h.fdr))

/-- The nodes of hashes behind a split. -/
theorem DOk.node_split (ho : DOk seed D nds M L) (ha : Apart NdAp nds) {i : Nat} {x : Nd} (hi : nds[i]? = some x) (hd : x.p.dep < 16) (ba ra ca bb rb cb : Nat) (ta tc : List Tb) (j : Nat) :
    nodeOf (nds.set i ⟨ba, ra, ca, spA seed x.p, ta⟩ ++ [⟨bb, rb, cb, spB seed x.p, tc⟩]) j = if nodeOf nds j = x.b then (if j / 2 ^ x.p.dep % 2 = 0 then ba else bb) else nodeOf nds j := by
  have hl := (List.getElem?_eq_some_iff.1 hi).1
  have he : prts (nds.set i ⟨ba, ra, ca, spA seed x.p, ta⟩ ++ [⟨bb, rb, cb, spB seed x.p, tc⟩]) = spS seed (prts nds) i x.p := by
    unfold spS; simp [prts]
  have hS := ho.ok.split (prts_get hi) hd
  rw [← he] at hS
  obtain ⟨y, hy, hyb, hym, hny⟩ := ho.node j
  have hxb := ho.ok.bits x.p (ho.part (List.mem_of_getElem? hi))
  have fs := fit_split (h := j) hxb
  have to : ∀ (q : Nat) (z : Nd), (nds.set i ⟨ba, ra, ca, spA seed x.p, ta⟩ ++ [⟨bb, rb, cb, spB seed x.p, tc⟩])[q]? = some z → j % 2 ^ z.p.dep = z.p.bits → nodeOf (nds.set i ⟨ba, ra, ca, spA seed x.p, ta⟩ ++ [⟨bb, rb, cb, spB seed x.p, tc⟩]) j = z.b := by
    intro q z hq hz
    have := hS.pix_eq (prts_get hq) hz
    unfold nodeOf
    rw [← this, hq]
  by_cases c : pix (prts nds) j = i
  · rw [c, hi] at hy
    simp only [Option.some.injEq] at hy
    subst hy
    rw [hny, if_pos rfl]
    by_cases b : j / 2 ^ x.p.dep % 2 = 0
    · rw [if_pos b]
      exact to i _ (by rw [List.getElem?_append_left (by simpa using hl)]; exact set_here hl) (fs.1.2 ⟨hyb, b⟩)
    · rw [if_neg b]
      exact to nds.length ⟨bb, rb, cb, spB seed x.p, tc⟩ (by rw [List.getElem?_append_right (by simp)]; simp) (fs.2.2 ⟨hyb, by omega⟩)
  · rw [hny, if_neg (ha _ _ _ _ hy hi c).1]
    refine to (pix (prts nds) j) y ?_ hyb
    have hjl := (List.getElem?_eq_some_iff.1 hy).1
    rw [List.getElem?_append_left (by simpa using hjl)]
    rw [set_else c]
    exact hy

/-- Two new nodes, and the array of both. -/
structure Sides (w W : World) (sb dep ta tc : Nat) (ba ra bb rb : Nat) : Prop where
  bel : Below w.heap.size w W
  s : W.heap[sb]? = some (.cells #[.pointer (some ⟨ba, 0, none⟩), .pointer (some ⟨bb, 0, none⟩)] 122 (0, 0))
  a : W.heap[ba]? = some (.cells #[.int .i64 ((dep + 1 : Nat) : Int), .slice (some ⟨ra, 0, none⟩) 1 1] 96 (0, 0))
  la : W.heap[ra]? = some (.cells #[.pointer (some ⟨ta, 0, none⟩)] 23 (0, 0))
  b : W.heap[bb]? = some (.cells #[.int .i64 ((dep + 1 : Nat) : Int), .slice (some ⟨rb, 0, none⟩) 1 1] 96 (0, 0))
  lb : W.heap[rb]? = some (.cells #[.pointer (some ⟨tc, 0, none⟩)] 23 (0, 0))
  lo : w.heap.size ≤ sb ∧ w.heap.size ≤ ba ∧ w.heap.size ≤ ra ∧ w.heap.size ≤ bb ∧ w.heap.size ≤ rb
theorem Sides.ne {W : World} {sb dep ta tc ba ra bb rb : Nat} (h : Sides w W sb dep ta tc ba ra bb rb) (hne : ta ≠ tc) : ra ≠ rb ∧ ba ≠ bb := by
  have h1 : ra ≠ rb := by
    rintro rfl
    have := h.la.symm.trans h.lb
    simp only [Option.some.injEq, Obj.cells.injEq] at this
    have := this.1
    simp at this
  refine ⟨h1, ?_⟩
  rintro rfl
  have := h.a.symm.trans h.b
  simp only [Option.some.injEq, Obj.cells.injEq] at this
  have := this.1
  simp at this

/-- A directory of which the first so many places are turned. -/
def mixV (D : Nat) (nds nds' : List Nd) (j : Nat) : List Value := (dirV D nds').take j ++ (dirV D nds).drop j
theorem dirV_len (D : Nat) (nds : List Nd) : (dirV D nds).length = 2 ^ D := by simp [dirV]
theorem dirV_at {D : Nat} {nds : List Nd} {j : Nat} (hj : j < 2 ^ D) : (dirV D nds)[j]? = some (.pointer (some ⟨nodeOf nds j, 0, none⟩)) := by
  unfold dirV
  rw [List.getElem?_map, List.getElem?_range hj]; rfl
theorem mix_len (D : Nat) (nds nds' : List Nd) (j : Nat) (hj : j ≤ 2 ^ D) : (mixV D nds nds' j).length = 2 ^ D := by
  unfold mixV
  rw [List.length_append, List.length_take, List.length_drop, dirV_len, dirV_len]; omega
theorem mix_at {D : Nat} {nds nds' : List Nd} {j : Nat} (hj : j < 2 ^ D) : (mixV D nds nds' j)[j]? = some (.pointer (some ⟨nodeOf nds j, 0, none⟩)) := by
  unfold mixV
  rw [List.getElem?_append_right (by rw [List.length_take, dirV_len]; omega), List.getElem?_drop, List.length_take, dirV_len]
  rw [show j + (j - min j (2 ^ D)) = j by omega]
  exact dirV_at hj
theorem mix_step {D : Nat} {nds nds' : List Nd} {j : Nat} (hj : j < 2 ^ D) : (mixV D nds nds' j).set j (.pointer (some ⟨nodeOf nds' j, 0, none⟩)) = mixV D nds nds' (j + 1) := by
  apply List.ext_getElem?
  intro q
  by_cases c : q = j
  · subst c
    rw [set_here (by rw [mix_len _ _ _ _ (by omega)]; exact hj)]
    unfold mixV
    rw [List.getElem?_append_left (by rw [List.length_take, dirV_len]; omega), List.getElem?_take, if_pos (by omega)]
    exact (dirV_at hj).symm
  · rw [set_else c]
    unfold mixV
    by_cases d : q < j
    · rw [List.getElem?_append_left (by rw [List.length_take, dirV_len]; omega), List.getElem?_append_left (by rw [List.length_take, dirV_len]; omega), List.getElem?_take, List.getElem?_take, if_pos d, if_pos (by omega)]
    · rw [List.getElem?_append_right (by rw [List.length_take, dirV_len]; omega), List.getElem?_append_right (by rw [List.length_take, dirV_len]; omega), List.getElem?_drop, List.getElem?_drop, List.length_take, List.length_take, dirV_len]
      rw [show j + (q - min j (2 ^ D)) = q by omega, show j + 1 + (q - min (j + 1) (2 ^ D)) = q by omega]
theorem mix_same {D : Nat} {nds nds' : List Nd} {j : Nat} (hj : j < 2 ^ D) (he : nodeOf nds' j = nodeOf nds j) : mixV D nds nds' (j + 1) = mixV D nds nds' j := by
  rw [← mix_step hj, he]
  exact set_self (mix_at hj)

/-- A node is split: the state behind it. -/
theorem DMem.halves {w1 W Z : World} {sb ba ra bb rb i : Nat} {x : Nd} {ta tc : Tb} (h : DMem w db seed D n dr dc nds F) (hb : Below w.heap.size w w1) (hs : Sides w1 W sb x.p.dep ta.t tc.t ba ra bb rb)
    (hZ : Touch W Z dr dr) (hrow : Z.ownsRow 0 93 1 (.slice (some ⟨dr, 0, none⟩) (2 ^ D) dc) (2 ^ D) (dirV D (nds.set i ⟨ba, ra, 1, spA seed x.p, [ta]⟩ ++ [⟨bb, rb, 1, spB seed x.p, [tc]⟩])))
    (hta : TB w1 ta.t ta.g seed ta.m) (htc : TB w1 tc.t tc.g seed tc.m) (hlo : w.heap.size ≤ ta.t ∧ w.heap.size ≤ ta.g ∧ w.heap.size ≤ tc.t ∧ w.heap.size ≤ tc.g ∧ ta.t ≠ tc.t ∧ ta.g ≠ tc.g) :
    ∃ F', DMem Z db seed D n dr dc (nds.set i ⟨ba, ra, 1, spA seed x.p, [ta]⟩ ++ [⟨bb, rb, 1, spB seed x.p, [tc]⟩]) F' ∧ Fr w Z F F' := by
  obtain ⟨hrr, hbb⟩ := hs.ne hlo.2.2.2.2.1
  have hbel : Below w.heap.size w W := hb.trans (hs.bel.mono hb.size)
  have hW := h.step hbel
  obtain ⟨cr, fr, hr⟩ := row_block hW.row
  have hsz1 := hb.size
  have hsz2 := hs.bel.size
  have hszZ := hZ.size
  have hdr := h.flt _ h.fdr
  have keep : ∀ k, k < W.heap.size → k ≠ dr → Z.heap[k]? = W.heap[k]? := fun k hk hne => hZ.block k hk hne hne
  obtain ⟨l1, l2, l3, l4, l5⟩ := hs.lo
  have ta1 := hta.lt
  have tc1 := htc.lt
  have A : NdAt Z seed ⟨ba, ra, 1, spA seed x.p, [ta]⟩ := by
    refine ⟨(keep ba (heap_lt' hs.a) (by omega)).trans hs.a, ?_, ?_⟩
    · have e := (keep ra (heap_lt' hs.la) (by omega)).trans hs.la
      exact ⟨rfl, .inr ⟨ra, 1, _, rfl, Nat.zero_le _, e, Nat.le_refl _, by unfold maxLen; omega, rfl, rfl⟩⟩
    · intro s hs'; rw [List.mem_singleton] at hs'; subst hs'
      exact (hta.later hs.bel).kept (keep _ (by omega) (by omega)) (keep _ (by omega) (by omega))
  have B : NdAt Z seed ⟨bb, rb, 1, spB seed x.p, [tc]⟩ := by
    refine ⟨(keep bb (heap_lt' hs.b) (by omega)).trans hs.b, ?_, ?_⟩
    · have e := (keep rb (heap_lt' hs.lb) (by omega)).trans hs.lb
      exact ⟨rfl, .inr ⟨rb, 1, _, rfl, Nat.zero_le _, e, Nat.le_refl _, by unfold maxLen; omega, rfl, rfl⟩⟩
    · intro s hs'; rw [List.mem_singleton] at hs'; subst hs'
      exact (htc.later hs.bel).kept (keep _ (by omega) (by omega)) (keep _ (by omega) (by omega))
  have old : ∀ y ∈ nds, NdAt Z seed y := fun y hy => (hW.nd y hy).kept fun k hk => keep k ((hW.nd y hy).lt hk) ((hW.apart hy).1 k hk).2
  have lt : ∀ y ∈ nds, ∀ k, y.has k → k < w.heap.size := fun y hy k hk => h.flt k (h.nf y hy k hk)
  have hasN : ∀ (b r : Nat) (p : PartR) (s : Tb) (k : Nat), (⟨b, r, 1, p, [s]⟩ : Nd).has k → k = b ∨ k = r ∨ k = s.t ∨ k = s.g := by
    rintro b r p s k (e | e | ⟨q, hq, e⟩)
    · exact .inl e
    · exact .inr (.inl e)
    · simp only [List.mem_singleton] at hq; subst hq; rcases e with e | e
      · exact .inr (.inr (.inl e))
      · exact .inr (.inr (.inr e))
  have apN : ∀ (b r : Nat) (p : PartR) (s : Tb), w.heap.size ≤ b → w.heap.size ≤ r → w.heap.size ≤ s.t → w.heap.size ≤ s.g → ∀ y ∈ nds, NdAp ⟨b, r, 1, p, [s]⟩ y ∧ NdAp y ⟨b, r, 1, p, [s]⟩ := by
    intro b r p s b0 b1 b2 b3 y hy
    have y1 := lt y hy y.b (.inl rfl)
    have y2 := lt y hy y.r (.inr (.inl rfl))
    have y3 : ∀ u ∈ y.ts, u.t < w.heap.size ∧ u.g < w.heap.size := fun u hu => ⟨lt y hy _ (.inr (.inr ⟨u, hu, .inl rfl⟩)), lt y hy _ (.inr (.inr ⟨u, hu, .inr rfl⟩))⟩
    refine ⟨⟨by simp only; omega, by simp only; omega, fun q hq u hu => ?_⟩, ⟨by simp only; omega, by simp only; omega, fun u hu q hq => ?_⟩⟩
    all_goals
      simp only [List.mem_singleton] at hq
      subst hq
      have := y3 u hu
      constructor <;> omega
  have a0 : w.heap.size ≤ ba ∧ w.heap.size ≤ ra ∧ w.heap.size ≤ bb ∧ w.heap.size ≤ rb := by omega
  have hbZ : Z.heap[db]? = w.heap[db]? := (keep db (by have := h.flt _ h.fdb; omega) h.dbr).trans (hbel.block db (h.flt _ h.fdb))
  refine ⟨fun k => F k ∨ (w.heap.size ≤ k ∧ k < Z.heap.size), ⟨hbZ.trans h.blk, hrow, ?_, ?_, ?_, .inl h.fdb, .inl h.fdr, ?_⟩, ?_⟩
  · intro y hy
    rw [List.mem_append, List.mem_singleton] at hy
    rcases hy with hy | rfl
    · obtain ⟨j, hj⟩ := List.mem_iff_getElem?.1 hy
      rcases set_get hj with ⟨_, rfl, _⟩ | ⟨_, hj⟩
      · exact A
      · exact old y (List.mem_of_getElem? hj)
    · exact B
  · intro y hy k hk
    rw [List.mem_append, List.mem_singleton] at hy
    rcases hy with hy | rfl
    · obtain ⟨j, hj⟩ := List.mem_iff_getElem?.1 hy
      rcases set_get hj with ⟨_, rfl, _⟩ | ⟨_, hj⟩
      · have := A.lt hk
        rcases hasN _ _ _ _ _ hk with e | e | e | e <;> exact .inr (by omega)
      · exact .inl (h.nf y (List.mem_of_getElem? hj) k hk)
    · have := B.lt hk
      rcases hasN _ _ _ _ _ hk with e | e | e | e <;> exact .inr (by omega)
  · refine Apart.snoc (h.ap.set i _ fun j y hj _ => apN _ _ _ _ a0.1 a0.2.1 hlo.1 hlo.2.1 y (List.mem_of_getElem? hj)) _ fun y hy => ?_
    obtain ⟨j, hj⟩ := List.mem_iff_getElem?.1 hy
    rcases set_get hj with ⟨_, rfl, _⟩ | ⟨_, hj⟩
    · refine ⟨⟨fun e => hbb e.symm, fun e => hrr e.symm, ?_⟩, ⟨hbb, hrr, ?_⟩⟩
      · intro q hq u hu
        simp only [List.mem_singleton] at hq hu
        subst hq hu
        exact ⟨fun e => hlo.2.2.2.2.1 e.symm, fun e => hlo.2.2.2.2.2 e.symm⟩
      · intro q hq u hu
        simp only [List.mem_singleton] at hq hu
        subst hq hu
        exact hlo.2.2.2.2
    · exact apN _ _ _ _ a0.2.2.1 a0.2.2.2 hlo.2.2.1 hlo.2.2.2.1 y (List.mem_of_getElem? hj)
  · intro k hk
    rcases hk with e | e
    · have := h.flt k e; omega
    · exact e.2
  · refine ⟨hZ.os.trans hbel.os, hZ.tape.trans hbel.tape, hZ.output.trans hbel.output, by omega, fun k hk hf => ?_, fun k hk => by rcases hk with e | e; exact .inl e; exact .inr e.1⟩
    exact (keep k (by omega) (fun e => hf (e ▸ h.fdr))).trans (hbel.block k hk)
end

section
variable {w : World} {db : Nat} {seed : Int} {D n dr dc : Nat} {nds : List Nd} {F F' : Nat → Prop} {M : ByteArray → Option Int} {L : Nat}
theorem DMem.more {w2 w3 : World} {i tb gb g cap len : Nat} {x : Nd} (h : DMem w db seed D n dr dc nds F) (hi : nds[i]? = some x) (hb : Below w.heap.size w w2) (hT : TB w2 tb gb seed (fun _ => none)) (ht : w.heap.size ≤ tb) (hg : w.heap.size ≤ gb) (hlen : x.ts.length = len)
    (h2 : w3.ownsRow 0 23 1 (.slice (some ⟨g, 0, none⟩) (len + 1) cap) (len + 1) (x.ts.map tabV ++ [.pointer (some ⟨tb, 0, none⟩)])) (h3 : w2.grownBy w3 (some x.r)) (h4 : some x.r = some g ∨ g = w2.heap.size) (h5 : g < w3.heap.size) :
    ∃ F', DMem (w3.setCell ⟨x.b, 1, none⟩ (.slice (some ⟨g, 0, none⟩) (len + 1) cap)) db seed D n dr dc (nds.set i ⟨x.b, g, cap, x.p, x.ts ++ [⟨tb, gb, fun _ => none, []⟩]⟩) F' ∧ Fr w (w3.setCell ⟨x.b, 1, none⟩ (.slice (some ⟨g, 0, none⟩) (len + 1) cap)) F F' := by
  subst hlen
  have hxm := List.mem_of_getElem? hi
  have hW := h.step hb
  have hN := hW.nd x hxm
  have hlt : ∀ k, x.has k → k < w.heap.size := fun k hk => h.flt k (h.nf x hxm k hk)
  have hxb := hlt x.b (.inl rfl)
  have hxr := hlt x.r (.inr (.inl rfl))
  have hs2 := hb.size
  have hs3 := h3.size
  obtain ⟨cl, fl, hl⟩ := row_block hN.row
  have hbr : x.b ≠ x.r := type_ne hN.blk hl (by decide)
  have hgb : g ≠ x.b := by
    rcases h4 with e | e
    · simp only [Option.some.injEq] at e; omega
    · omega
  have e1 : w3.heap[x.b]? = some (.cells #[.int .i64 (x.p.dep : Nat), x.lv] 96 (0, 0)) := (h3.block _ (by omega) (by simp only [ne_eq, Option.some.injEq]; exact hbr)).trans hN.blk
  have eo : ∀ k, k ≠ x.b → (w3.setCell ⟨x.b, 1, none⟩ (.slice (some ⟨g, 0, none⟩) (x.ts.length + 1) cap)).heap[k]? = w3.heap[k]? := fun k hk => heap_setCell_other _ _ _ _ (by exact hk)
  have hsz : (w3.setCell ⟨x.b, 1, none⟩ (.slice (some ⟨g, 0, none⟩) (x.ts.length + 1) cap)).heap.size = w3.heap.size := by simp [World.setCell]
  have keep : ∀ k, k < w2.heap.size → k ≠ x.b → k ≠ x.r → (w3.setCell ⟨x.b, 1, none⟩ (.slice (some ⟨g, 0, none⟩) (x.ts.length + 1) cap)).heap[k]? = w2.heap[k]? := fun k hk h1 h2 => by
    rw [eo k h1]; exact h3.block k hk (by simp only [ne_eq, Option.some.injEq]; exact h2)
  have lT := hT.lt
  obtain ⟨⟨_, _, tyt⟩, ⟨_, _, tyg⟩⟩ := hT.types
  have hX : NdAt (w3.setCell ⟨x.b, 1, none⟩ (.slice (some ⟨g, 0, none⟩) (x.ts.length + 1) cap)) seed ⟨x.b, g, cap, x.p, x.ts ++ [⟨tb, gb, fun _ => none, []⟩]⟩ := by
    have hl' : (x.ts ++ [(⟨tb, gb, fun _ => none, []⟩ : Tb)]).length = x.ts.length + 1 := by simp
    refine ⟨?_, ?_, ?_⟩
    · unfold Nd.lv; simp only; rw [hl', heap_setCell_same _ _ _ _ _ _ e1]; rfl
    · unfold Nd.lv; simp only; rw [hl', List.map_append]
      exact row_kept h2 (eo g hgb)
    · intro s hs
      rw [List.mem_append, List.mem_singleton] at hs
      rcases hs with hs | rfl
      · have q := hN.tab s hs
        have l1 := hlt s.t (.inr (.inr ⟨s, hs, .inl rfl⟩))
        have l2 := hlt s.g (.inr (.inr ⟨s, hs, .inr rfl⟩))
        obtain ⟨⟨_, _, qt⟩, ⟨_, _, qg⟩⟩ := q.types
        exact q.kept (keep _ (by omega) (type_ne qt hN.blk (by decide)) (type_ne qt hl (by decide))) (keep _ (by omega) (type_ne qg hN.blk (by decide)) (type_ne qg hl (by decide)))
      · exact hT.kept (keep _ lT.1 (by omega) (by omega)) (keep _ lT.2.1 (by omega) (by omega))
  have hgF : F g ∨ w.heap.size ≤ g := by
    rcases h4 with e | e
    · simp only [Option.some.injEq] at e; rw [← e]; exact .inl (h.nf x hxm _ (.inr (.inl rfl)))
    · exact .inr (by omega)
  refine ⟨fun k => F k ∨ (w.heap.size ≤ k ∧ k < w3.heap.size), hW.renode hi rfl rfl rfl hX (fun k hk hn => keep k hk (fun e => hn (.inl e)) (fun e => hn (.inr (.inl e)))) ?_ ?_ (fun k hk => .inl hk) ?_, ?_⟩
  · intro j y hj hne
    have hym := List.mem_of_getElem? hj
    obtain ⟨a1, a2, a3⟩ := h.ap i j x y hi hj (fun e => hne e.symm)
    have yr := h.flt _ (h.nf y hym y.r (.inr (.inl rfl)))
    have gr : g ≠ y.r := by
      rcases h4 with e | e
      · simp only [Option.some.injEq] at e; rw [← e]; exact a2
      · omega
    have key : ∀ s ∈ x.ts ++ [(⟨tb, gb, fun _ => none, []⟩ : Tb)], ∀ u ∈ y.ts, s.t ≠ u.t ∧ s.g ≠ u.g := by
      intro s hs u hu
      rw [List.mem_append, List.mem_singleton] at hs
      rcases hs with hs | rfl
      · exact a3 s hs u hu
      · have l1 := h.flt _ (h.nf y hym u.t (.inr (.inr ⟨u, hu, .inl rfl⟩)))
        have l2 := h.flt _ (h.nf y hym u.g (.inr (.inr ⟨u, hu, .inr rfl⟩)))
        simp only; omega
    exact ⟨⟨a1, gr, key⟩, ⟨fun e => a1 e.symm, fun e => gr e.symm, fun u hu s hs => ⟨fun e => (key s hs u hu).1 e.symm, fun e => (key s hs u hu).2 e.symm⟩⟩⟩
  · rintro k (e | e | ⟨s, hs, e⟩)
    · exact .inl (h.nf x hxm k (.inl e))
    · simp only at e; subst e
      rcases hgF with q | q
      · exact .inl q
      · exact .inr ⟨q, h5⟩
    · simp only at hs
      rw [List.mem_append, List.mem_singleton] at hs
      rcases hs with hs | rfl
      · exact .inl (h.nf x hxm k (.inr (.inr ⟨s, hs, e⟩)))
      · simp only at e
        rcases e with e | e <;> exact .inr (by omega)
  · intro k hk
    rw [hsz]
    rcases hk with e | e
    · have := h.flt k e; omega
    · exact e.2
  · refine ⟨h3.os.trans hb.os, h3.tape.trans hb.tape, h3.output.trans hb.output, by rw [hsz]; omega, fun k hk hf => ?_, fun k hk => by rcases hk with e | e; exact .inl e; exact .inr e.1⟩
    rw [keep k (by omega) (fun e => hf (h.nf x hxm _ (.inl e))) (fun e => hf (h.nf x hxm _ (.inr (.inl e))))]
    exact hb.block k hk

theorem GrowI.len {x : Nat} {S T : Nat × List PartR} (h : GrowI seed x S T) (hS : SOk seed S.1 S.2) : (allK T.2).length = (allK S.2).length :=
  ((List.perm_ext_iff_of_nodup h.ok.allK_nodup hS.allK_nodup).2 h.all).length_eq
theorem NdOk.one_len {x : Nd} (h : NdOk M x) (hd : x.p.dep < 16) : ∃ t, x.ts = [t] ∧ x.p.keys.length = t.ks.length := by
  obtain ⟨t, ht⟩ := List.length_eq_one_iff.1 (h.one hd)
  refine ⟨t, ht, ?_⟩
  have := h.perm.length_eq
  rw [ht] at this
  simp [flatT] at this
  omega
theorem room_yes {x : Nd} (h : NdAt w seed x) (hC : ∀ t ∈ x.ts, Card t.m t.ks) (hf : ∀ t ∈ x.ts, t.ks.length ≤ 112) (hyes : ∃ t ∈ x.ts, t.ks.length < 112) :
    Calls Try.prog 67 #[.pointer (some ⟨x.b, 0, none⟩)] w fun e w' => (∃ a t b, x.ts = a ++ t :: b ∧ t.ks.length < 112 ∧ e = .returned (.pointer (some ⟨t.t, 0, none⟩))) ∧ w = w' := by
  refine (room_d h hC hf).mono ?_
  rintro e w' ⟨h1 | ⟨h1, _⟩, hb⟩
  · exact ⟨h1, hb⟩
  · obtain ⟨t, ht, hc⟩ := hyes
    exact absurd hc (h1 t ht)
theorem room_no {x : Nd} (h : NdAt w seed x) (hC : ∀ t ∈ x.ts, Card t.m t.ks) (hf : ∀ t ∈ x.ts, t.ks.length ≤ 112) (hno : ∀ t ∈ x.ts, ¬ t.ks.length < 112) :
    Calls Try.prog 67 #[.pointer (some ⟨x.b, 0, none⟩)] w fun e w' => e = .returned (.pointer none) ∧ w = w' := by
  refine (room_d h hC hf).mono ?_
  rintro e w' ⟨⟨a, t, b, hx, hk, _⟩ | ⟨_, rfl⟩, hb⟩
  · exact absurd hk (hno t (by rw [hx]; simp))
  · exact ⟨rfl, hb⟩
end

end Go.Proofs.Ytkkijcnipjojoaa
