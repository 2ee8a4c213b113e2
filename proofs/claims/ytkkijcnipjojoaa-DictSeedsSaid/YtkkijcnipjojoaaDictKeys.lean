/- Contracts of package dict: a node's keys; all nodes; all keys. -/
import Derived.Test.YtkkijcnipjojoaaDictGet
import Derived.Laws.AppendOwnNone
namespace Go.Proofs.Ytkkijcnipjojoaa
open Go.RowKit

def ndV (x : Nd) : Value := .pointer (some ⟨x.b, 0, none⟩)
/-- append of one list of the call's own behind another. -/
theorem wpList_append_two {P : Program} (w : World) {ops : Array Oper} {rest : List Oper} {o : Oper} {a : Act} {Q : Exit → Act → World → Prop} (hgd : o.guard = none) (s x : Operand) (t : TypeId)
    (ho : o.op = .call { callee := .builtin .append, args := #[s, x], argTypes := #[t, t] })
    (base : Nat) (e : TypeId) (i : TypeInfo) (z : Value) (bytes : Nat) (ht : P.underlying t = some (.slice e)) (hi : P.info? e = some i) (hz : i.zero = some z)
    (hsize : i.size = 1) (hby : i.bytes = bytes) (hzs : z.cells.size = 1)
    (v : Value) (n : Nat) (xs : List Value) (hs : a.eval s = v) (hown : w.ownsRow base e 1 v n xs) (v2 : Value) (m base2 : Nat) (ys : List Value) (hx : a.eval x = v2) (hown2 : w.ownsRow base2 e 1 v2 m ys)
    (h1 : ∀ u ∈ ys, u.oneCell' = true) (h63 : n + m ≤ maxLen) (hbytes : (n + m) * bytes ≤ 140737488355328) (hbase : base ≤ w.heap.size)
    (h : ∀ v' w', w'.ownsRow base e 1 v' (n + m) (xs ++ ys) → Below base w w' → wpList P ops Q rest (a.put o.dst v') w') : wpList P ops Q (o :: rest) a w := by
  rcases hown2.2 with ⟨rfl, rfl⟩ | ⟨g, cap, cur, rfl, _⟩
  · have hy : ys = [] := List.length_eq_zero_iff.1 (by have := hown2.1; omega)
    subst hy
    refine wpList_append_own_none hgd s x t ho base e i 1 ht hi v n xs hs hown hx ?_
    exact h v w (by simpa using hown) (Below.refl _ _)
  · refine wpList_append_own w hgd s x t ho base e i z 1 bytes ht hi hz hsize hby hzs (by decide) v n xs hs hown ⟨g, 0, none⟩ m cap ys hx (by have := hown2.1; omega) (hown2.cells rfl) h1 h63 hbytes hbase fun v' w' h2 h3 _ => h v' w' h2 (grown_below hown h3 hbase)

theorem keys_tb' {w : World} {tb gb : Nat} {seed : Int} {m : ByteArray → Option Int} {ks : List ByteArray} (hT : TB w tb gb seed m) (hc : Card m ks) :
    ∃ l : List ByteArray, l.Perm ks ∧ ∀ W, Below w.heap.size w W → Calls Try.prog 26 #[.pointer (some ⟨tb, 0, none⟩)] W fun e w' => ∃ v, e = .returned v ∧ w'.ownsRow W.heap.size 9 1 v l.length (l.map Value.string) ∧ Below W.heap.size W w' := by
  obtain ⟨S, h1, _⟩ := hT
  exact ⟨keysL S S.G, (h1.good.count ks hc.1 hc.2).2, fun W hb => keys_any W (h1.later hb)⟩

def upTo {α : Type} (lf : Nat → List α) : Nat → List α
  | 0 => []
  | n + 1 => upTo lf n ++ lf n
theorem upTo_perm {lf : Nat → List ByteArray} {ts : List Tb} (h : ∀ j t, ts[j]? = some t → (lf j).Perm t.ks) (n : Nat) (hn : n ≤ ts.length) : (upTo lf n).Perm (flatT (ts.take n)) := by
  induction n with
  | zero => simp [upTo, flatT]
  | succ n ih =>
    obtain ⟨t, ht⟩ : ∃ t, ts[n]? = some t := ⟨_, List.getElem?_eq_getElem (by omega)⟩
    unfold upTo
    rw [List.take_add_one, ht]
    simp only [Option.toList_some, flatT, List.flatMap_append, List.flatMap_cons, List.flatMap_nil, List.append_nil]
    exact (ih (by omega)).append (h n t ht)
theorem flat_take (ts : List Tb) (n : Nat) : (flatT (ts.take n)).length ≤ (flatT ts).length := by
  conv => rhs; rw [← List.take_append_drop n ts]
  simp only [flatT, List.flatMap_append, List.length_append]
  omega
theorem strs_one (l : List ByteArray) : ∀ u ∈ l.map Value.string, u.oneCell' = true := one_strs l

set_option maxRecDepth 100000 in
set_option maxHeartbeats 1000000 in
theorem keys_nd {w : World} {seed : Int} {x : Nd} (h : NdAt w seed x) (hC : ∀ t ∈ x.ts, Card t.m t.ks) (hlen : (flatT x.ts).length ≤ 1000000) :
    ∃ l : List ByteArray, l.Perm (flatT x.ts) ∧ ∀ W, Below w.heap.size w W → Calls Try.prog 71 #[.pointer (some ⟨x.b, 0, none⟩)] W fun e w' => ∃ v, e = .returned v ∧ w'.ownsRow W.heap.size 9 1 v l.length (l.map Value.string) ∧ Below W.heap.size W w' := by
  have hex : ∀ j : Nat, ∃ l : List ByteArray, ∀ t : Tb, x.ts[j]? = some t → l.Perm t.ks ∧ ∀ W, Below w.heap.size w W → Calls Try.prog 26 #[.pointer (some ⟨t.t, 0, none⟩)] W fun e w' => ∃ v, e = .returned v ∧ w'.ownsRow W.heap.size 9 1 v l.length (l.map Value.string) ∧ Below W.heap.size W w' := by
    intro j
    cases hj : x.ts[j]? with
    | none => exact ⟨[], fun t ht => by cases ht⟩
    | some t =>
      have htm := List.mem_of_getElem? hj
      obtain ⟨l, h1, h2⟩ := keys_tb' (h.tab t htm) (hC t htm)
      exact ⟨l, fun t' ht' => by simp only [Option.some.injEq] at ht'; subst ht'; exact ⟨h1, h2⟩⟩
  obtain ⟨lf, hlf⟩ := Classical.axiomOfChoice hex
  have hperm := upTo_perm (lf := lf) (ts := x.ts) fun j t ht => (hlf j t ht).1
  refine ⟨upTo lf x.ts.length, by have := hperm x.ts.length (Nat.le_refl _); rwa [List.take_of_length_le (Nat.le_refl _)] at this, fun W hb => ?_⟩
  have hsmall : ∀ j, j ≤ x.ts.length → (upTo lf j).length ≤ 1000000 := fun j hj => by
    rw [(hperm j hj).length_eq]
    exact Nat.le_trans (flat_take _ _) hlen
  have HN := Lib.hid fun (W' : World) (hb' : Below W.heap.size W W') => h.later (hb.trans (hb'.mono hb.size))
  have HK := Lib.hid fun (W' : World) (hb' : Below W.heap.size W W') (j : Nat) (t : Tb) (ht : x.ts[j]? = some t) => (hlf j t ht).2 W' (hb.trans (hb'.mono hb.size))
  have HS := Lib.hid hsmall
  have hmax : x.ts.length ≤ maxLen := owns_maxLen h.row
  unfold maxLen at hmax
  obtain ⟨c0, c1⟩ := (h.later hb).cells
  unfold Nd.lv at c1
  obtain ⟨iS, hiS, zS0, zS1, zS2⟩ := info_parts info_str
  clear h hlf hperm hsmall hex hb hlen hC
  generalize hn : x.ts.length = n at *
  have HE := Lib.hid hn
  clear hn
  go_enter Try.func71, Try.ntmps71
  go_wp2
  go_loopw [3, 11] (fun v i wr => ∃ j : Nat, j ≤ n ∧ i = .int .i64 j ∧ wr.ownsRow W.heap.size 9 1 v (upTo lf j).length ((upTo lf j).map Value.string) ∧ Below W.heap.size W wr) (fun _ i _ => n - (intOf i).toNat)
  case atStart => exact ⟨0, by omega, rfl, World.ownsRow_nil _ _ _ _, Below.refl _ _⟩
  case round =>
    obtain ⟨j, hj, rfl, ho, hb⟩ := hrel
    by_cases hlt : j < n
    · obtain ⟨t, ht⟩ : ∃ t, x.ts[j]? = some t := ⟨_, List.getElem?_eq_getElem (by rw [HE.out]; exact hlt)⟩
      have hc := (HN.out wr hb).tabs_at j t ht
      have hsz := hb.size
      have HT := Lib.hid (HK.out wr hb j t ht)
      have hs1 := HS.out (j + 1) hlt
      have hs2 : (upTo lf j).length + (lf j).length = (upTo lf (j + 1)).length := by simp [upTo]
      obtain ⟨q, hq⟩ : ∃ q, q = (upTo lf (j + 1)).length := ⟨_, rfl⟩
      have HQ := Lib.hid hq
      rw [← hq] at hs1 hs2
      clear ht hq
      go_wp2_with (first | (go_at_call 26; refine HT.out.mono ?_; rintro e w3 ⟨v2, rfl, o2, hb3⟩; have hsz3 := hb3.size) | (at_builtin; refine wpList_append_two _ rfl (.tmp 15) (.tmp 17) 39 rfl W.heap.size 9 iS (.string ByteArray.empty) 16 Try.underlying39 hiS zS0 zS1 zS2 rfl _ _ _ rfl (owns_later ho hb3) _ _ _ _ rfl o2 (strs_one _) (by unfold maxLen; omega) (by omega) (by omega) ?_; intro v' w' o3 b3))
      go_roundw
      case rel =>
        refine ⟨j + 1, hlt, by go_num, ?_, hb.trans ((hb3.mono hb.size).trans b3)⟩
        have e1 : (upTo lf (j + 1)).length = (upTo lf j).length + (lf j).length := by simp [upTo]
        have e2 : (upTo lf (j + 1)).map Value.string = (upTo lf j).map Value.string ++ (lf j).map Value.string := by simp [upTo]
        rw [e1, e2]
        exact o3
      case measure => simp [intOf]; omega
    · obtain rfl : j = n := by omega
      go_wp2
      go_ret
      exact ⟨_, rfl, ho, hb⟩

/-- The nodes in the order in which nodes tells them. -/
def nlU (nds : List Nd) : Nat → List Nd
  | 0 => []
  | j + 1 => nlU nds j ++ (match nds[pix (prts nds) j]? with | some x => if j < 2 ^ x.p.dep then [x] else [] | none => [])
theorem filter_lt {l : List Nd} (j : Nat) : (l.filter fun x => decide (x.p.bits < j + 1)).Perm ((l.filter fun x => decide (x.p.bits < j)) ++ l.filter fun x => decide (x.p.bits = j)) := by
  induction l with
  | nil => exact List.Perm.refl _
  | cons a l ih =>
    by_cases c1 : a.p.bits < j
    · rw [List.filter_cons_of_pos (by simp; omega), List.filter_cons_of_pos (by simpa using c1), List.filter_cons_of_neg (by simp; omega)]
      exact ih.cons a
    · by_cases c2 : a.p.bits = j
      · rw [List.filter_cons_of_pos (by simp; omega), List.filter_cons_of_neg (by simpa using c1), List.filter_cons_of_pos (by simpa using c2)]
        exact (ih.cons a).trans List.perm_middle.symm
      · rw [List.filter_cons_of_neg (by simp; omega), List.filter_cons_of_neg (by simpa using c1), List.filter_cons_of_neg (by simpa using c2)]
        exact ih
section
variable {seed : Int} {D : Nat} {nds : List Nd} {M : ByteArray → Option Int} {L : Nat}
theorem DOk.filter_eq (h : DOk seed D nds M L) (j : Nat) : (nds.filter fun x => decide (x.p.bits = j)) = match nds[pix (prts nds) j]? with | some x => if j < 2 ^ x.p.dep then [x] else [] | none => [] := by
  obtain ⟨x, hx, hb, hxm, _⟩ := h.node j
  rw [hx]
  simp only
  have hbl := h.ok.bits x.p (h.part hxm)
  by_cases c : j < 2 ^ x.p.dep
  · rw [if_pos c]
    rw [Nat.mod_eq_of_lt c] at hb
    have hmid := mid_of hx
    have hne : ∀ i y, nds[i]? = some y → i ≠ pix (prts nds) j → y.p.bits ≠ j := fun i y hi hne e =>
      h.ok.bits_ne i (pix (prts nds) j) y.p x.p (prts_get hi) (prts_get hx) hne (by rw [e, hb])
    conv => lhs; rw [hmid]
    rw [List.filter_append, List.filter_cons_of_pos (by simpa using hb.symm)]
    have f1 : (nds.take (pix (prts nds) j)).filter (fun x => decide (x.p.bits = j)) = [] := by
      rw [List.filter_eq_nil_iff]
      intro y hy
      obtain ⟨i, hi⟩ := List.mem_iff_getElem?.1 hy
      rw [List.getElem?_take] at hi
      split at hi
      · simpa using hne i y hi (by omega)
      · cases hi
    have f2 : (nds.drop (pix (prts nds) j + 1)).filter (fun x => decide (x.p.bits = j)) = [] := by
      rw [List.filter_eq_nil_iff]
      intro y hy
      obtain ⟨i, hi⟩ := List.mem_iff_getElem?.1 hy
      rw [List.getElem?_drop] at hi
      simpa using hne _ y hi (by omega)
    rw [f1, f2]; rfl
  · rw [if_neg c, List.filter_eq_nil_iff]
    intro y hy
    obtain ⟨i, hi⟩ := List.mem_iff_getElem?.1 hy
    simp only [decide_eq_true_eq]
    intro e
    have hyb := h.ok.bits y.p (h.part hy)
    have := h.ok.pix_eq (x := j) (prts_get hi) (by rw [Nat.mod_eq_of_lt (by omega)]; exact e.symm)
    subst this
    rw [hx] at hi
    simp only [Option.some.injEq] at hi
    subst hi
    omega
theorem DOk.nodes_perm (h : DOk seed D nds M L) : (nlU nds (2 ^ D)).Perm nds := by
  have H : ∀ j, (nlU nds j).Perm (nds.filter fun x => decide (x.p.bits < j)) := by
    intro j
    induction j with
    | zero => simp [nlU]
    | succ j ih =>
      unfold nlU
      rw [← h.filter_eq j]
      exact (ih.append_right _).trans (filter_lt j).symm
  have := H (2 ^ D)
  have e : (nds.filter fun x => decide (x.p.bits < 2 ^ D)) = nds := by
    rw [List.filter_eq_self]
    intro x hx
    have h1 := h.ok.bits x.p (h.part hx)
    have h2 := Nat.pow_le_pow_right (show 0 < 2 by omega) (h.ok.dep x.p (h.part hx))
    simp; omega
  rwa [e] at this
theorem nlU_len (nds : List Nd) (j : Nat) : (nlU nds j).length ≤ j := by
  induction j with
  | zero => simp [nlU]
  | succ j ih =>
    unfold nlU
    rw [List.length_append]
    split
    · split <;> simp <;> omega
    · simp; omega
end
theorem info_node : (Try.prog.info? 93).map (fun i => (i.zero, i.size, i.bytes)) = some (some (.pointer none), 1, 8) := by kernel_rfl
theorem ptr_cell {p : Option Addr} : ∀ u ∈ [Value.pointer p], u.oneCell' = true := by intro u hu; simp at hu; subst hu; rfl

set_option maxRecDepth 100000 in
set_option maxHeartbeats 1000000 in
theorem nodes_d {w : World} {db : Nat} {seed : Int} {D n dr dc : Nat} {nds : List Nd} {F : Nat → Prop} {M : ByteArray → Option Int} {L : Nat} (h : DMem w db seed D n dr dc nds F) (ho : DOk seed D nds M L) :
    Calls Try.prog 75 #[.pointer (some ⟨db, 0, none⟩)] w fun e w' => ∃ v, e = .returned v ∧ w'.ownsRow w.heap.size 93 1 v (nlU nds (2 ^ D)).length ((nlU nds (2 ^ D)).map ndV) ∧ Below w.heap.size w w' := by
  have hdm := ho.ok.dmax
  have hp := pow16 hdm
  have HM := Lib.hid fun (W : World) (hb : Below w.heap.size w W) => h.step hb
  have HO := Lib.hid ho
  obtain ⟨_, _, c2, _⟩ := h.cells
  obtain ⟨iS, hiS, zS0, zS1, zS2⟩ := info_parts info_node
  clear h ho
  generalize hN : 2 ^ D = N at *
  have HN := Lib.hid hN
  clear hN
  go_enter Try.func75, Try.ntmps75
  go_wp2
  go_loopw [3, 11] (fun v i wr => ∃ j : Nat, j ≤ N ∧ i = .int .i64 j ∧ wr.ownsRow w.heap.size 93 1 v (nlU nds j).length ((nlU nds j).map ndV) ∧ Below w.heap.size w wr) (fun _ i _ => N - (intOf i).toNat)
  case atStart => exact ⟨0, by omega, rfl, World.ownsRow_nil _ _ _ _, Below.refl _ _⟩
  case round =>
    obtain ⟨j, hj, rfl, ho, hb⟩ := hrel
    by_cases hlt : j < N
    · have hm := HM.out wr hb
      obtain ⟨x, hx, _, hxm, hnx⟩ := HO.out.node j
      have hc := hm.dir j (by rw [HN.out]; exact hlt)
      rw [hnx] at hc
      obtain ⟨x0, _⟩ := (hm.nd x hxm).cells
      have hsz := hb.size
      have hd := HO.out.ok.dep x.p (HO.out.part hxm)
      have hll := nlU_len nds j
      have HU : Hid (nlU nds (j + 1) = nlU nds j ++ if j < 2 ^ x.p.dep then [x] else []) := by unfold Hid; show nlU nds j ++ _ = _; rw [hx]
      have hw : wrap64 (2 ^ x.p.dep) = ((2 ^ x.p.dep : Nat) : Int) := by
        have := wrap_pow64 (x.p.dep : Int) (by omega) (by omega)
        simpa using this
      clear hm hx hxm hnx
      generalize x.p.dep = dp at *
      by_cases c : j < 2 ^ dp
      · have q1 : (j : Int) < wrap64 (2 ^ dp) := by rw [hw]; exact Int.ofNat_lt.2 c
        have HC := Lib.hid c
        clear c hw
        obtain ⟨ak, ck, rfl⟩ := owns_slice ho
        go_wp2_with (at_builtin; refine wpList_append_lies _ rfl (.tmp 23) (.tmp 25) 97 rfl w.heap.size 93 iS (.pointer none) 1 8 Try.underlying97 hiS zS0 zS1 zS2 rfl (by decide) _ _ _ rfl (owns_later ho (b_al8 _ _)) ⟨wr.heap.size, 0, none⟩ 1 1 [.pointer (some ⟨x.b, 0, none⟩)] rfl rfl (cell1 _ _ _) ptr_cell (by omega) (by unfold maxLen; omega) (by omega) (by simp; omega) _ rfl ?_; intro g cap w' h2 h3 h4 h5)
        go_roundw
        case rel =>
          refine ⟨j + 1, hlt, by go_num, ?_, ?_⟩
          · rw [HU.out, if_pos HC.out]
            simp only [List.length_append, List.length_singleton, List.map_append, List.map_cons, List.map_nil]
            exact h2
          · have b3 := grown_below (owns_later ho (b_al8 _ _)) h3 (by simp; omega)
            exact (hb.trans ((b_al8 wr _).mono hsz)).trans b3
        case measure => simp [intOf]; omega
      · have q1 : ¬ (j : Int) < wrap64 (2 ^ dp) := by rw [hw]; exact fun e => c (Int.ofNat_lt.1 e)
        have HC := Lib.hid c
        clear c hw
        go_wp2
        go_roundw
        case rel =>
          refine ⟨j + 1, hlt, by go_num, ?_, hb⟩
          rw [HU.out, if_neg HC.out, List.append_nil]
          exact ho
        case measure => simp [intOf]; omega
    · obtain rfl : j = N := by omega
      go_wp2
      go_ret
      exact ⟨_, rfl, ho, hb⟩
end Go.Proofs.Ytkkijcnipjojoaa
