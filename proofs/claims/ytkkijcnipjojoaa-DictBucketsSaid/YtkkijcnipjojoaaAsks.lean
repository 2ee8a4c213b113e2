/- Slices of asks (three numbers and a text), as they come in: what can be read of them. -/
import Derived.Test.YtkkijcnipjojoaaStrs
import Derived.Deep.Slices
import Derived.Deep.Fields
import Derived.ChangeSame
namespace Go.Proofs.Ytkkijcnipjojoaa
open Go.RowKit Go.ChangeShapes Go.WideShapes Go.Deep

/-- A call that is asked for. -/
structure AskR where
  kind : Int
  n : Int
  v : Int
  s : ByteArray

/-- A slice that reads as asks. -/
def AsksAt (w : World) (v : Value) (zs : List AskR) : Prop :=
  ∃ a c, v = .slice a zs.length c ∧ zs.length ≤ maxLen ∧ ∀ i x, zs[i]? = some x → ∃ b off, a = some ⟨b, off, none⟩ ∧ w.cell? ⟨b, off + i * 4, none⟩ = some (.int .i64 x.kind) ∧
    w.cell? ⟨b, off + i * 4 + 1, none⟩ = some (.int .i64 x.n) ∧ w.cell? ⟨b, off + i * 4 + 2, none⟩ = some (.int .i64 x.v) ∧ w.cell? ⟨b, off + i * 4 + 3, none⟩ = some (.string x.s)
theorem AsksAt.below {w w' : World} {v : Value} {zs : List AskR} (h : AsksAt w v zs) (hw : ∀ b o, v.ownBlock = some b → w'.cell? ⟨b, o, none⟩ = w.cell? ⟨b, o, none⟩) : AsksAt w' v zs := by
  obtain ⟨a, c, h1, h2, h3⟩ := h
  refine ⟨a, c, h1, h2, fun i x hx => ?_⟩
  obtain ⟨b, off, e0, e1, e2, e3, e4⟩ := h3 i x hx
  have hb : v.ownBlock = some b := by rw [h1, e0]; rfl
  exact ⟨b, off, e0, by rw [hw b _ hb, e1], by rw [hw b _ hb, e2], by rw [hw b _ hb, e3], by rw [hw b _ hb, e4]⟩
theorem block_of_cell {w : World} {a : Addr} {v : Value} (h : w.cell? a = some v) : a.block < w.heap.size := by
  apply Classical.byContradiction
  intro hn
  have : w.heap[a.block]? = none := Array.getElem?_eq_none (by omega)
  simp [World.cell?, this] at h
/-- A slice that came in is kept by what makes new memory. -/
theorem AsksAt.grown {w w' : World} {v : Value} {zs : List AskR} (h : AsksAt w v zs) (hb : Below w.heap.size w w') : AsksAt w' v zs := by
  obtain ⟨a, c, h1, h2, h3⟩ := h
  refine ⟨a, c, h1, h2, fun i x hx => ?_⟩
  obtain ⟨b, off, e0, e1, e2, e3, e4⟩ := h3 i x hx
  have hl : b < w.heap.size := block_of_cell e1
  exact ⟨b, off, e0, by rw [hb.cell (p := ⟨b, _, none⟩) hl, e1], by rw [hb.cell (p := ⟨b, _, none⟩) hl, e2], by rw [hb.cell (p := ⟨b, _, none⟩) hl, e3], by rw [hb.cell (p := ⟨b, _, none⟩) hl, e4]⟩

theorem pick_lt {α : Type} (m : Nat) (R : Nat → α → Prop) (h : ∀ i, i < m → ∃ x, R i x) : ∃ l : List α, l.length = m ∧ ∀ i x, l[i]? = some x → R i x := by
  induction m with
  | zero => exact ⟨[], rfl, fun i x hx => by simp at hx⟩
  | succ m ih =>
    obtain ⟨l, hl, hr⟩ := ih fun i hi => h i (by omega)
    obtain ⟨x, hx⟩ := h m (by omega)
    refine ⟨l ++ [x], by simp [hl], fun i y hy => ?_⟩
    by_cases c : i < m
    · exact hr i y (by rw [List.getElem?_append_left (by omega)] at hy; exact hy)
    · have hi := (List.getElem?_eq_some_iff.1 hy).1
      rw [List.length_append, List.length_singleton, hl] at hi
      obtain rfl : i = m := by omega
      rw [List.getElem?_append_right (by omega)] at hy
      simp [hl] at hy
      rw [← hy]; exact hx

section
variable {H : Type} {enc : TypeId × Value → H} {P : Program} {w : World} {base : Nat} {spare : Nat → Bool} {held : Bool}
theorem asks_open {t e : TypeId} {fs : Array Field} {fuel : Nat} {a : Option Addr} {len cap : Nat} {x : DataW H × List MemPlace} {f0 f1 f2 f3 : Field} (ht : P.underlying t = some (.slice e)) (he : P.underlying e = some (.struct fs))
    (hone : oneCellFields P fs = true) (hC : P.cellsOf e = 4) (h0 : fs[0]? = some f0) (h1 : fs[1]? = some f1) (h2 : fs[2]? = some f2) (h3 : fs[3]? = some f3)
    (t0 : P.underlying f0.type = some (.int .i64)) (t1 : P.underlying f1.type = some (.int .i64)) (t2 : P.underlying f2.type = some (.int .i64)) (t3 : P.underlying f3.type = some .string)
    (h : DataW.trod enc P w base spare held fuel t [.slice a len cap] = some x) : ∃ zs, AsksAt w (.slice a len cap) zs := by
  rcases open_slice ht h with ⟨hn, _⟩ | ⟨ad, l, c, m, n, D, Pl, hcs, hb, hl, hcm, hm, hx, hi⟩
  · simp only [List.cons.injEq, Value.slice.injEq, and_true] at hn
    obtain ⟨rfl, rfl, rfl⟩ := hn
    exact ⟨[], none, 0, rfl, by decide, fun i x hx => by simp at hx⟩
  · simp only [List.cons.injEq, Value.slice.injEq, and_true] at hcs
    obtain ⟨rfl, rfl, rfl⟩ := hcs
    have hlm : len ≤ m := by rw [hm]; split <;> omega
    obtain ⟨zs, hz, hr⟩ := pick_lt len (fun i (x : AskR) => w.cell? (ad.add (i * 4)) = some (.int .i64 x.kind) ∧ w.cell? ((ad.add (i * 4)).add 1) = some (.int .i64 x.n) ∧ w.cell? ((ad.add (i * 4)).add 2) = some (.int .i64 x.v) ∧ w.cell? ((ad.add (i * 4)).add 3) = some (.string x.s)) fun i hil => by
      obtain ⟨cs', hc', ht'⟩ := hi i (by omega)
      rw [hC] at hc'
      obtain ⟨ys, n', _, _, hlen, _, hf⟩ := DataW.trod_struct he ht'
      obtain ⟨_, hcl, hat⟩ := World.cells?_some hc'
      have one : ∀ (j : Nat) (f : Field), fs[j]? = some f → j < 4 → ∃ u y, w.cell? ((ad.add (i * 4)).add j) = some u ∧ DataW.trod enc P w base spare held n' f.type [u] = some y := by
        intro j f hj hj4
        obtain ⟨ho, hk⟩ := hone_of hone j f hj
        have hv : cs'[j]? = some (cs'[j]'(by omega)) := List.getElem?_eq_getElem (by omega)
        have hg := hf j f hj
        rw [ho, hk, List.drop_eq_getElem_cons (by omega)] at hg
        have hys : j < ys.length := by
          have := (Array.getElem?_eq_some_iff.1 hj).1
          omega
        refine ⟨_, ys[j]'hys, by rw [hat j hj4, hv], ?_⟩
        rw [List.getElem?_eq_getElem hys, List.take_succ_cons, List.take_zero] at hg
        exact hg
      obtain ⟨u0, y0, c0, g0⟩ := one 0 f0 h0 (by omega)
      obtain ⟨u1, y1, c1, g1⟩ := one 1 f1 h1 (by omega)
      obtain ⟨u2, y2, c2, g2⟩ := one 2 f2 h2 (by omega)
      obtain ⟨u3, y3, c3, g3⟩ := one 3 f3 h3 (by omega)
      obtain ⟨m0, e0, _⟩ := DataW.trod_int t0 g0
      obtain ⟨m1, e1, _⟩ := DataW.trod_int t1 g1
      obtain ⟨m2, e2, _⟩ := DataW.trod_int t2 g2
      obtain ⟨s3, e3, _⟩ := DataW.trod_string t3 g3
      simp only [List.cons.injEq, and_true] at e0 e1 e2 e3
      subst e0 e1 e2 e3
      exact ⟨⟨m0, m1, m2, s3⟩, by simpa [Addr.add] using c0, c1, c2, c3⟩
    refine ⟨zs, some ad, cap, by rw [hz], by omega, fun i y hy => ?_⟩
    obtain ⟨r0, r1, r2, r3⟩ := hr i y hy
    obtain ⟨b, off, spot⟩ := ad
    have hspot : spot = none := by
      have := World.cell?_spot r1
      have e := World.cell?_spot r0
      unfold Addr.add at e
      split at e
      · exact e
      · rename_i hne
        by_cases hz0 : 0 < len
        · obtain ⟨q0, _⟩ := hr 0 (zs[0]'(by omega)) (List.getElem?_eq_getElem (by omega))
          simpa [Addr.add] using World.cell?_spot q0
        · have := (List.getElem?_eq_some_iff.1 hy).1; omega
    subst hspot
    refine ⟨b, off, rfl, ?_, ?_, ?_, ?_⟩
    · rw [← add_plain]; exact r0
    · rw [add_plain, add_plain] at r1; exact r1
    · rw [add_plain, add_plain] at r2; exact r2
    · rw [add_plain, add_plain] at r3; exact r3
end
theorem asks8 {H : Type} {enc : TypeId × Value → H} {w : World} {base : Nat} {spare : Nat → Bool} {held : Bool} {fuel : Nat} {a : Option Addr} {len cap : Nat} {x : DataW H × List MemPlace}
    (h : DataW.trod enc Try.prog w base spare held fuel 34 [.slice a len cap] = some x) : ∃ zs, AsksAt w (.slice a len cap) zs :=
  asks_open Try.underlying34 Try.underlying37 (by kernel_rfl) (by kernel_rfl) rfl rfl rfl rfl Try.underlying3 Try.underlying3 Try.underlying3 Try.underlying9 h
theorem asks10 {H : Type} {enc : TypeId × Value → H} {w : World} {base : Nat} {spare : Nat → Bool} {held : Bool} {fuel : Nat} {a : Option Addr} {len cap : Nat} {x : DataW H × List MemPlace}
    (h : DataW.trod enc Try.prog w base spare held fuel 64 [.slice a len cap] = some x) : ∃ zs, AsksAt w (.slice a len cap) zs :=
  asks_open Try.underlying64 Try.underlying66 (by kernel_rfl) (by kernel_rfl) rfl rfl rfl rfl Try.underlying3 Try.underlying3 Try.underlying3 Try.underlying9 h
end Go.Proofs.Ytkkijcnipjojoaa
