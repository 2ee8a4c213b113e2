/- Contracts of package table: all keys of groups handed on; all put anew. -/
import Derived.Test.YtkkijcnipjojoaaTabPut
namespace Go.Proofs.Ytkkijcnipjojoaa
open Go.RowKit

/-- Slots that were gone through. -/
def Vis (a b g i : Nat) : Prop := a < g ∨ (a = g ∧ b < i)
/-- What has been handed on, when so many slots were gone through. -/
structure Part (S : Grps) (mn : ByteArray → Option Int) (g i : Nat) : Prop where
  ok : ∀ a b, a < S.G → b < 8 → bytI (S.w a) b < 128 → Vis a b g i → mn (S.k a b) = some (S.v a b)
  no : ∀ key x, mn key = some x → ∃ a b, a < S.G ∧ b < 8 ∧ bytI (S.w a) b < 128 ∧ Vis a b g i ∧ S.k a b = key
theorem Part.zero (S : Grps) : Part S (fun _ => none) 0 0 := ⟨fun a b _ _ _ h => by unfold Vis at h; omega, fun k x h => by cases h⟩
theorem Part.next {S : Grps} {mn : ByteArray → Option Int} {g : Nat} (h : Part S mn g 8) : Part S mn (g + 1) 0 :=
  ⟨fun a b ha hb hf hv => h.ok a b ha hb hf (by unfold Vis at *; omega), fun k x hk => by
    obtain ⟨a, b, ha, hb, hf, hv, e⟩ := h.no k x hk
    exact ⟨a, b, ha, hb, hf, by unfold Vis at *; omega, e⟩⟩
theorem Part.skip {S : Grps} {mn : ByteArray → Option Int} {g i : Nat} (h : Part S mn g i) (hn : ¬ bytI (S.w g) i < 128) : Part S mn g (i + 1) :=
  ⟨fun a b ha hb hf hv => h.ok a b ha hb hf (by
      unfold Vis at *
      by_cases c : a = g ∧ b = i
      · obtain ⟨rfl, rfl⟩ := c; exact absurd hf hn
      · omega), fun k x hk => by
    obtain ⟨a, b, ha, hb, hf, hv, e⟩ := h.no k x hk
    exact ⟨a, b, ha, hb, hf, by unfold Vis at *; omega, e⟩⟩
theorem Part.fresh {seed : Int} {S : Grps} {m mn : ByteArray → Option Int} (hgood : Good seed S m) {g i : Nat} (h : Part S mn g i) (hg : g < S.G) (hi : i < 8) (hf : bytI (S.w g) i < 128) : mn (S.k g i) = none := by
  cases hk : mn (S.k g i) with
  | none => rfl
  | some x =>
    exfalso
    obtain ⟨a, b, ha, hb, hfa, hv, e⟩ := h.no _ x hk
    obtain ⟨rfl, rfl⟩ := hgood.inj a b g i ha hb hfa hg hi hf e
    unfold Vis at hv; omega
theorem Part.add {seed : Int} {S : Grps} {m mn : ByteArray → Option Int} (hgood : Good seed S m) {g i : Nat} (h : Part S mn g i) (hg : g < S.G) (hi : i < 8) (hf : bytI (S.w g) i < 128) : Part S (updM mn (S.k g i) (some (S.v g i))) g (i + 1) := by
  refine ⟨fun a b ha hb hfa hv => ?_, fun k x hk => ?_⟩
  · unfold updM
    by_cases c : a = g ∧ b = i
    · obtain ⟨rfl, rfl⟩ := c; rw [if_pos rfl]
    · rw [if_neg (fun e => c (hgood.inj a b g i ha hb hfa hg hi hf e))]
      exact h.ok a b ha hb hfa (by unfold Vis at *; omega)
  · unfold updM at hk
    by_cases c : k = S.k g i
    · exact ⟨g, i, hg, hi, hf, by unfold Vis; omega, c.symm⟩
    · rw [if_neg c] at hk
      obtain ⟨a, b, ha, hb, hfa, hv, e⟩ := h.no k x hk
      exact ⟨a, b, ha, hb, hfa, by unfold Vis at *; omega, e⟩
theorem Part.all {seed : Int} {S : Grps} {m mn : ByteArray → Option Int} (hgood : Good seed S m) (h : Part S mn S.G 0) : mn = m := by
  funext k
  cases hk : m k with
  | some x =>
    obtain ⟨a, b, ha, hb, hf, e⟩ := hgood.dom k x hk
    have h1 := h.ok a b ha hb hf (by unfold Vis; omega)
    have h2 := hgood.val a b ha hb hf
    rw [e] at h1 h2
    rw [h1, ← h2, hk]
  | none =>
    cases hn : mn k with
    | none => rfl
    | some x =>
      obtain ⟨a, b, ha, hb, hf, _, e⟩ := h.no k x hn
      have h2 := hgood.val a b ha hb hf
      rw [e, hk] at h2; cases h2

theorem slots_mono (p : Int → Bool) (x : Int) (i j : Nat) (h : i ≤ j) : (slotsI p x i).length ≤ (slotsI p x j).length := by
  induction j with
  | zero => obtain rfl : i = 0 := by omega
            exact Nat.le_refl _
  | succ j ih =>
    by_cases c : i = j + 1
    · subst c; exact Nat.le_refl _
    · have := ih (by omega)
      cases q : p (bytI x j) with
      | true => rw [slots_yes _ _ _ q]; simp; omega
      | false => rw [slots_no _ _ _ q]; exact this
theorem cnt_mono (p : Int → Bool) (w : Nat → Int) (a b : Nat) (h : a ≤ b) : cnt p w a ≤ cnt p w b := by
  induction b with
  | zero => obtain rfl : a = 0 := by omega
            exact Nat.le_refl _
  | succ b ih =>
    by_cases c : a = b + 1
    · subst c; exact Nat.le_refl _
    · have := ih (by omega); simp only [cnt]; omega
theorem vis_le (p : Int → Bool) (w : Nat → Int) (g i G : Nat) (hg : g < G) (hi : i ≤ 8) : cnt p w g + (slotsI p (w g) i).length ≤ cnt p w G := by
  have h1 := slots_mono p (w g) i 8 hi
  have h2 := cnt_mono p w (g + 1) G (by omega)
  simp only [cnt] at h2
  omega

def slotV (S : Grps) (g i : Nat) : Value := .agg #[.string (S.k g i), .int .i64 (S.v g i)]

theorem grp_cells {w : World} {go : Nat} {S : Grps} (h : w.heap[go]? = some (.cells (flatG S) 84 (0, 0))) (g : Nat) (hg : g < S.G) :
    w.cell? ⟨go, g * 17, none⟩ = some (.int .u64 (S.w g)) ∧ ∀ i, i < 8 → w.cell? ⟨go, g * 17 + 1 + i * 2, none⟩ = some (.string (S.k g i)) ∧ w.cell? ⟨go, g * 17 + 1 + i * 2 + 1, none⟩ = some (.int .i64 (S.v g i)) := by
  refine ⟨by rw [cell_of_row _ _ _ _ _ _ h, flat_at _ _ (by omega), cell_w], fun i hi => ⟨?_, ?_⟩⟩
  · rw [cell_of_row _ _ _ _ _ _ h, flat_at _ _ (by omega), cell_k _ _ _ hi]
  · rw [cell_of_row _ _ _ _ _ _ h, flat_at _ _ (by omega), cell_v _ _ _ hi]

theorem idx8 (k : Nat → ByteArray) (v : Nat → Int) (i : Nat) (hi : i < 8) (w : World) :
    (Instr.index 82 (.agg #[.string (k 0), .int .i64 (v 0), .string (k 1), .int .i64 (v 1), .string (k 2), .int .i64 (v 2), .string (k 3), .int .i64 (v 3), .string (k 4), .int .i64 (v 4), .string (k 5), .int .i64 (v 5), .string (k 6), .int .i64 (v 6), .string (k 7), .int .i64 (v 7)]) (.int .i64 (i : Nat))).run Try.prog w = .ok (.agg #[.string (k i), .int .i64 (v i)]) w := by
  rcases lt8 hi with rfl | rfl | rfl | rfl | rfl | rfl | rfl | rfl <;> kernel_rfl

/-- What stands through each over old groups, with insert into a table. -/
structure EI (w : World) (go tb gb : Nat) (seed : Int) (S : Grps) (G : Nat) (g i : Nat) (wr : World) : Prop where
  old : wr.heap[go]? = some (.cells (flatG S) 84 (0, 0))
  tab : ∃ Sn mn, Tab wr tb gb seed Sn mn ∧ Part S mn g i ∧ Sn.G = G ∧ cnt isFull Sn.w Sn.G = cnt isFull S.w g + (slotsI isFull (S.w g) i).length ∧ cnt (isByte 254) Sn.w Sn.G = 0
  tch : Touch w wr tb gb

section
variable {w wr w' : World} {go tb gb : Nat} {seed : Int} {S : Grps} {G g i : Nat}
theorem EI.below (h : EI w go tb gb seed S G g i wr) (hb : Below wr.heap.size wr w') : EI w go tb gb seed S G g i w' := by
  obtain ⟨Sn, mn, hT, hP, e1, e2, e3⟩ := h.tab
  exact ⟨(hb.block _ (heap_lt' h.old)).trans h.old, ⟨Sn, mn, hT.later hb, hP, e1, e2, e3⟩, h.tch.trans (Touch.of_below hb)⟩
theorem EI.skip (h : EI w go tb gb seed S G g i wr) (hn : ¬ bytI (S.w g) i < 128) : EI w go tb gb seed S G g (i + 1) wr := by
  obtain ⟨Sn, mn, hT, hP, e1, e2, e3⟩ := h.tab
  exact ⟨h.old, ⟨Sn, mn, hT, hP.skip hn, e1, by rw [slots_no _ _ _ (by simp [isFull]; omega)]; exact e2, e3⟩, h.tch⟩
theorem EI.next (h : EI w go tb gb seed S G g 8 wr) : EI w go tb gb seed S G (g + 1) 0 wr := by
  obtain ⟨Sn, mn, hT, hP, e1, e2, e3⟩ := h.tab
  exact ⟨h.old, ⟨Sn, mn, hT, hP.next, e1, by rw [e2]; simp [cnt, slots_zero], e3⟩, h.tch⟩
end

set_option maxRecDepth 100000 in
theorem insE {w wr : World} {go tb gb : Nat} {seed : Int} {S : Grps} {m : ByteArray → Option Int} {G g i : Nat} (h : EI w go tb gb seed S G g i wr) (hgood : Good seed S m) (hne : go ≠ tb ∧ go ≠ gb) (hks : ∀ k x, m k = some x → k.size ≤ maxLen) (hn : cnt isFull S.w S.G ≤ 7 * G)
    (hg : g < S.G) (hi : i < 8) (hf : bytI (S.w g) i < 128) :
    Calls Try.prog 56 #[.pointer (some ⟨tb, 0, none⟩), .string (S.k g i), .int .i64 (S.v g i)] wr fun e w' => e = .returned (.tuple #[]) ∧ EI w go tb gb seed S G g (i + 1) w' := by
  obtain ⟨Sn, mn, hT, hP, e1, e2, e3⟩ := h.tab
  have hv := vis_le isFull S.w g (i + 1) S.G hg (by omega)
  have hy : slotsI isFull (S.w g) (i + 1) = slotsI isFull (S.w g) i ++ [(i : Int)] := slots_yes _ _ _ (by simp [isFull]; omega)
  rw [hy, List.length_append, List.length_singleton] at hv
  refine (insert_any wr hT (S.k g i) (S.v g i) (hks _ _ (hgood.val g i hg hi hf)) (hP.fresh hgood hg hi hf) (by rw [e2, e3, e1]; omega)).mono ?_
  rintro e w' ⟨rfl, S', hT', h1, h2, h3, h4⟩
  refine ⟨rfl, (h4.block go (heap_lt' h.old) hne.1 hne.2).trans h.old, ⟨S', _, hT', hP.add hgood hg hi hf, h1.trans e1, ?_, by omega⟩, h.tch.trans h4⟩
  rw [h2, e2, hy, List.length_append, List.length_singleton]; omega

set_option maxRecDepth 100000 in
set_option maxHeartbeats 8000000 in
theorem eachI_any {go tb gb : Nat} {seed : Int} {S : Grps} {m : ByteArray → Option Int} {G : Nat} (w : World) (hei : EI w go tb gb seed S G 0 0 w) (hgood : Good seed S m) (hS : S.G ≤ 64) (hne : go ≠ tb ∧ go ≠ gb) (hks : ∀ k x, m k = some x → k.size ≤ maxLen) (hn : cnt isFull S.w S.G ≤ 7 * G) :
    Calls Try.prog 60 #[.slice (some ⟨go, 0, none⟩) S.G S.G, .func (Fn.func 56) #[.pointer (some ⟨tb, 0, none⟩)] #[]] w fun e w' =>
      e = .returned (.tuple #[]) ∧ EI w go tb gb seed S G S.G 0 w' := by
  go_enter Try.func60, Try.ntmps60
  go_wp2
  go_loopw [9] (fun j wr => ∃ g : Nat, g ≤ S.G ∧ j = .int .i64 g ∧ EI w go tb gb seed S G g 0 wr) (fun j _ => S.G - (intOf j).toNat)
  case atStart => exact ⟨0, by omega, rfl, hei⟩
  case round =>
    clear hei
    obtain ⟨g, hg, rfl, hei⟩ := hrel
    by_cases hlt : g < S.G
    · obtain ⟨cw, cs⟩ := grp_cells hei.old g hlt
      obtain ⟨a0, b0⟩ := cs 0 (by omega)
      obtain ⟨a1, b1⟩ := cs 1 (by omega)
      obtain ⟨a2, b2⟩ := cs 2 (by omega)
      obtain ⟨a3, b3⟩ := cs 3 (by omega)
      obtain ⟨a4, b4⟩ := cs 4 (by omega)
      obtain ⟨a5, b5⟩ := cs 5 (by omega)
      obtain ⟨a6, b6⟩ := cs 6 (by omega)
      obtain ⟨a7, b7⟩ := cs 7 (by omega)
      simp only [Nat.zero_mul, Nat.one_mul, Nat.reduceMul, Nat.add_zero] at a0 a1 a2 a3 a4 a5 a6 a7 b0 b1 b2 b3 b4 b5 b6 b7
      clear cs
      go_wp2
      go_loopw [17] (fun j wr => ∃ i : Nat, i ≤ 8 ∧ j = .int .i64 i ∧ EI w go tb gb seed S G g i wr) (fun j _ => 8 - (intOf j).toNat)
      case atStart => exact ⟨0, by omega, rfl, hei⟩
      case round =>
        clear hei cw a0 a1 a2 a3 a4 a5 a6 a7 b0 b1 b2 b3 b4 b5 b6 b7
        obtain ⟨i, hi, rfl, hei⟩ := hrel
        by_cases hi8 : i < 8
        · obtain ⟨cw, _⟩ := grp_cells hei.old g hlt
          have HI := Lib.hid fun (O : Obj) => hei.below ((Below.refl _ _).alloc (Nat.le_refl _) O)
          have hat : Hid (atI (S.w g) i = bytI (S.w g) i) := by unfold Hid atI; rw [if_pos ⟨by omega, by omega⟩, Int.toNat_natCast]
          have hx := idx8 (S.k g) (S.v g) i hi8 wr
          have hgo := heap_lt' hei.old
          by_cases hf : bytI (S.w g) i < 128
          · have HE := Lib.hid fun (O : Obj) => insE (HI.out O) hgood hne hks hn hlt hi8 hf
            go_wp2_with (first | (go_at_call 92; refine (at_any _ _ _).mono ?_; rintro e w' ⟨rfl, rfl⟩; rw [hat.out]) | (go_at_call 56; refine (HE.out _).mono ?_; rintro e w2 ⟨rfl, hei2⟩))
            go_roundw
            case rel => exact ⟨i + 1, by omega, by go_num, hei2⟩
            case measure => simp [intOf]; omega
          · go_wp2_with (first | (go_at_call 92; refine (at_any _ _ _).mono ?_; rintro e w' ⟨rfl, rfl⟩; rw [hat.out]))
            go_roundw
            case rel => exact ⟨i + 1, by omega, by go_num, (HI.out _).skip (by omega)⟩
            case measure => simp [intOf]; omega
        · obtain rfl : i = 8 := by omega
          go_wp2
          go_roundw
          case rel => exact ⟨g + 1, by omega, by go_num, hei.next⟩
          case measure => simp [intOf]; omega
    · obtain rfl : g = S.G := by omega
      go_wp2
      (try simp only [Exit.inBlock, Exit.then])
      refine bodyPost_end (results_none rfl _ _ _) rfl ?_
      exact ⟨rfl, hei⟩
end Go.Proofs.Ytkkijcnipjojoaa
