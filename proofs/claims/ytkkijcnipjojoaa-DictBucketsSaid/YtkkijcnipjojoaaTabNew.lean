/- Contracts of package table: new tables, and what a table tells of itself. -/
import Derived.Test.YtkkijcnipjojoaaTabMem
namespace Go.Proofs.Ytkkijcnipjojoaa
open Go.RowKit

theorem owns_heap {w : World} {B : Nat} {e : TypeId} {s : Nat} {g n c : Nat} {xs : List Value} (h : w.ownsRow B e s (.slice (some ⟨g, 0, none⟩) n n) n xs) (hn : c = n) :
    ∃ cur, w.heap[g]? = some (.cells cur e (0, 0)) ∧ cur.toList = xs ∧ B ≤ g ∧ n ≤ maxLen := by
  subst hn
  rcases h.2 with ⟨h1, _⟩ | ⟨g', cap, cur, hv, hB, hh, h1, h2, h3, h4⟩
  · cases h1
  · simp only [Value.slice.injEq, Option.some.injEq, Addr.mk.injEq, and_true, true_and] at hv
    obtain ⟨rfl, rfl⟩ := hv
    refine ⟨cur, hh, ?_, hB, by omega⟩
    rw [← h4, List.take_of_length_le]
    rw [Array.length_toList, h3]; exact Nat.le_refl _

def zeroG (n : Nat) : Grps := ⟨n, fun _ => 0, fun _ _ => ByteArray.empty, fun _ _ => 0⟩
set_option maxRecDepth 100000 in
theorem wpList_make_grps (w : World) {ops : Array Oper} {rest : List Oper} {o : Oper} {a : Act} {Q : Exit → Act → World → Prop}
    (hg : o.guard = none) (l c : Operand) (hop : o.op = Op.makeSlice 72 l c) (n : Nat) (hl : a.eval l = .int .i64 n) (hc : a.eval c = .int .i64 n) (hn : n ≤ 64)
    (hK : ∀ w', w'.heap[w.heap.size]? = some (.cells (flatG (zeroG n)) 84 (0, 0)) → w.grownBy w' none → wpList Try.prog ops Q rest (a.put o.dst (.slice (some ⟨w.heap.size, 0, none⟩) n n)) w') :
    wpList Try.prog ops Q (o :: rest) a w := by
  obtain ⟨i0, z0, hi, hz0, hz1, hz2, hz3⟩ := info_parts3 info_grp
  refine wpList_make_full w hg l c 72 hop 0 84 i0 z0 17 Try.underlying72 hi hz0 hz2 .i64 .i64 n n n hl hc rfl rfl (by rw [hz3]; omega) (by unfold maxLen; omega) (by omega) fun w' ho hgr => hK w' ?_ hgr
  obtain ⟨cur, h1, h2, _, _⟩ := owns_heap ho rfl
  unfold zeroG
  rw [h1, ← made_flat n _ rfl, ← hz1]
  congr 2
  exact Array.toList_inj.1 h2

set_option maxRecDepth 100000 in
theorem empty_any (n : Nat) (w : World) (hn : n ≤ 64) : Calls Try.prog 53 #[.int .i64 n] w fun e w' =>
    ∃ g, e = .returned (.slice (some ⟨g, 0, none⟩) n n) ∧ w.heap.size ≤ g ∧ w'.heap[g]? = some (.cells (flatG (emptyG n)) 84 (0, 0)) ∧ Below w.heap.size w w' := by
  generalize hB : w.heap.size = B
  have HB := Lib.hid hB
  go_enter Try.func53, Try.ntmps53
  go_wp2_with (at_make; refine wpList_make_grps _ rfl _ _ rfl n rfl rfl hn ?_)
  intro w1 ho hgr
  have hb : Below B w w1 := (Below.refl B w).grown hgr (by rw [HB.out]; exact Nat.le_refl _) (fun q hq => by cases hq)
  clear hgr hB
  go_wp2
  go_loopw [9] (fun i wr => ∃ k : Nat, k ≤ n ∧ i = .int .i64 k ∧ wr.heap[B]? = some (.cells (flatG ⟨n, fun j => if j < k then newI else 0, fun _ _ => ByteArray.empty, fun _ _ => 0⟩) 84 (0, 0)) ∧ Below B w wr) (fun i _ => n - (intOf i).toNat)
  case atStart => exact ⟨0, by omega, rfl, by simpa [zeroG] using ho, hb⟩
  case round =>
    clear ho hb
    obtain ⟨k, hk, rfl, hh, hb⟩ := hrel
    have hsz : B ≤ wr.heap.size := by have := hb.size; rw [HB.out] at this; exact this
    by_cases hlt : k < n
    · have hfz : wr.frozen? ⟨B, k * 17, none⟩ = false := frozen_of_row _ _ _ _ _ hh
      have hcl : wr.cell? ⟨B, k * 17, none⟩ = some (.int .u64 0) := by
        rw [cell_of_row _ _ _ _ _ _ hh, flat_at _ _ (by show _ < 17 * n; omega), cell_w]; simp
      go_wp2_with (go_at_call 85; refine (new_any _).mono ?_; rintro e w' ⟨rfl, rfl⟩)
      go_roundw
      case rel =>
        refine ⟨k + 1, by omega, by go_num, ?_, hb.setCell (Nat.le_refl _) _⟩
        rw [heap_setCell_same _ _ _ _ _ _ hh, flat_setW _ _ _ hlt]
        congr 3
        unfold setWG updW
        congr 1
        funext j
        simp only
        split
        · rename_i e; subst e; rw [if_pos (by omega)]; rfl
        · by_cases c : j < k
          · rw [if_pos c, if_pos (by omega)]
          · rw [if_neg c, if_neg (by omega)]
      case measure => simp [intOf]; omega
    · obtain rfl : k = n := by omega
      have HF : Hid (flatG ⟨k, fun j => if j < k then newI else 0, fun _ _ => ByteArray.empty, fun _ _ => 0⟩ = flatG (emptyG k)) := by
        apply flat_ext
        · rw [flat_size]; rfl
        · intro j hj
          have : j < 17 * k := hj
          rw [flat_at _ _ this]
          unfold cellG emptyG
          simp only
          rw [if_pos (show j / 17 < k by omega)]
      go_wp2
      go_ret
      exact ⟨_, rfl, by omega, by rw [hh, HF.out], hb⟩

theorem new8_any (seed : Int) (w : World) : Calls Try.prog 15 #[.int .u64 seed] w fun e w' =>
    ∃ tb gb, e = .returned (.pointer (some ⟨tb, 0, none⟩)) ∧ w.heap.size ≤ gb ∧ gb < tb ∧ TabAt w' tb gb seed (emptyG 1) 0 0 ∧ Below w.heap.size w w' := by
  go_enter Try.func15, Try.ntmps15
  go_wp2_with (go_at_call 53; refine (empty_any 1 _ (by omega)).mono ?_; rintro e w1 ⟨g, rfl, hg, hh, hb⟩)
  have hsz := hb.size
  have hg1 : g < w1.heap.size := (Array.getElem?_eq_some_iff.1 hh).1
  go_ret
  refine ⟨_, g, rfl, hg, hg1, ⟨heap_alloc_new _ _, ?_, by omega⟩, hb.alloc hsz _⟩
  rw [heap_alloc_old _ _ hg1]; exact hh

theorem len8_any {tb gb : Nat} {seed : Int} {S : Grps} {n mk : Int} {w : World} (h : TabAt w tb gb seed S n mk) :
    Calls Try.prog 19 #[.pointer (some ⟨tb, 0, none⟩)] w fun e w' => e = .returned (.int .i64 n) ∧ w = w' := by
  have h1 := h.cN
  go_enter Try.func19, Try.ntmps19
  go_wp2
  go_ret
  exact ⟨rfl, rfl⟩
theorem marks8_any {tb gb : Nat} {seed : Int} {S : Grps} {n mk : Int} {w : World} (h : TabAt w tb gb seed S n mk) :
    Calls Try.prog 20 #[.pointer (some ⟨tb, 0, none⟩)] w fun e w' => e = .returned (.int .i64 mk) ∧ w = w' := by
  have h1 := h.cMarks
  go_enter Try.func20, Try.ntmps20
  go_wp2
  go_ret
  exact ⟨rfl, rfl⟩
theorem groups8_any {tb gb : Nat} {seed : Int} {S : Grps} {n mk : Int} {w : World} (h : TabAt w tb gb seed S n mk) :
    Calls Try.prog 21 #[.pointer (some ⟨tb, 0, none⟩)] w fun e w' => e = .returned (.int .i64 S.G) ∧ w = w' := by
  have h1 := h.cGroups
  go_enter Try.func21, Try.ntmps21
  go_wp2
  go_ret
  exact ⟨rfl, rfl⟩
end Go.Proofs.Ytkkijcnipjojoaa
