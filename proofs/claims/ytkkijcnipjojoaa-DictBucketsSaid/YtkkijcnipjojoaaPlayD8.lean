/- A place struck out of a list: append of the places ahead of it and of those behind it, onto a new list. -/
import Derived.Test.YtkkijcnipjojoaaPlayM8
namespace Go.Proofs.Ytkkijcnipjojoaa
open Go.RowKit

theorem owns_lit {w : World} {e : TypeId} : ((w.alloc (.cells #[] e)).drew).ownsRow w.heap.size e 1 (.slice (some ⟨w.heap.size, 0, none⟩) 0 0) 0 [] :=
  ⟨rfl, .inr ⟨w.heap.size, 0, #[], rfl, Nat.le_refl _, heap_alloc_new _ _, Nat.le_refl _, by unfold maxLen; omega, rfl, rfl⟩⟩
theorem owns_cap {w : World} {B : Nat} {e : TypeId} {s : Nat} {a : Option Addr} {n c : Nat} {xs : List Value} (h : w.ownsRow B e s (.slice a n c) n xs) : n ≤ c := by
  rcases h.2 with ⟨h1, rfl⟩ | ⟨g, cap, cur, h1, _, _, h2, _⟩
  · omega
  · simp only [Value.slice.injEq] at h1; obtain ⟨_, _, rfl⟩ := h1; exact h2

theorem step_app {P : Program} {ops : Array Oper} {o : Oper} {a : Act} {w : World} {K : Act → World → Prop} {Q : Exit → Act → World → Prop} {E : Prop} (hgd : o.guard = none) (s x : Operand) (t : TypeId)
    (ho : o.op = .call { callee := .builtin .append, args := #[s, x], argTypes := #[t, t] })
    (base : Nat) (e : TypeId) (i : TypeInfo) (z : Value) (bytes : Nat) (ht : P.underlying t = some (.slice e)) (hi : P.info? e = some i) (hz : i.zero = some z)
    (hsize : i.size = 1) (hby : i.bytes = bytes) (hzs : z.cells.size = 1) (g0 n cap0 : Nat) (xs : List Value) (hs : a.eval s = .slice (some ⟨g0, 0, none⟩) n cap0) (hown : w.ownsRow base e 1 (.slice (some ⟨g0, 0, none⟩) n cap0) n xs)
    (ad : Addr) (m : Nat) (news : List Value) (hx' : ∃ c, a.eval x = .slice (some ad) m c) (hl : news.length = m) (hnews : ∀ j u, news[j]? = some u → w.cell? (ad.add j) = some u) (h1 : ∀ u ∈ news, u.oneCell' = true)
    (h63 : n + m ≤ maxLen) (hbytes : (n + m) * bytes ≤ 140737488355328) (hbase : base ≤ w.heap.size) (k : Nat) (hk : n + m = k)
    (h : ∀ g cap w', w'.ownsRow base e 1 (.slice (some ⟨g, 0, none⟩) k cap) k (xs ++ news) → Below base w w' → K (a.put o.dst (.slice (some ⟨g, 0, none⟩) k cap)) w') :
    if Region.wanted o (yielded ops a.tmps) = true then Oper.wp P o a w K Q else E := by
  subst hk
  obtain ⟨c, hx⟩ := hx'
  by_cases hm : 0 < m
  · exact step_append_lies w hgd s x t ho base e i z 1 bytes ht hi hz hsize hby hzs (by decide) _ n xs hs hown ad m c news hx (by omega) hnews h1 hm h63 hbytes hbase _ rfl fun g cap w' h2 h3 _ _ => h g cap w' h2 (grown_below hown h3 hbase)
  · obtain rfl : m = 0 := by omega
    obtain rfl : news = [] := List.length_eq_zero_iff.1 hl
    refine step_append_room hgd s x t ho e i 1 ht hi hsize g0 0 n cap0 hs ad 0 c [] hx (by simp) (by simp) (by simp) (owns_cap hown) (by simp) ?_
    have e1 : w.setCells g0 (0 + n * 1) [] = w := by simp [World.setCells]
    rw [e1]
    exact h g0 cap0 w (by simpa using hown) (Below.refl _ _)

section
variable {w wr w' : World} {tb gb : Nat} {seed : Int} {m : ByteArray → Option Int} {ks : List ByteArray} {vs : List Int} {vk vv : Value}
theorem take_cells {W : World} {B : Nat} {e : TypeId} {g n c : Nat} {xs : List Value} (h : W.ownsRow B e 1 (.slice (some ⟨g, 0, none⟩) n c) n xs) (j : Nat) : ∀ i u, (xs.take j)[i]? = some u → W.cell? ((⟨g, 0, none⟩ : Addr).add i) = some u := by
  intro i u hu
  refine h.cells rfl i u ?_
  rw [List.getElem?_take] at hu
  split at hu
  · exact hu
  · cases hu
theorem drop_cells {W : World} {B : Nat} {e : TypeId} {g n c : Nat} {xs : List Value} (h : W.ownsRow B e 1 (.slice (some ⟨g, 0, none⟩) n c) n xs) (j : Nat) : ∀ i u, (xs.drop j)[i]? = some u → W.cell? ((⟨g, j, none⟩ : Addr).add i) = some u := by
  intro i u hu
  have := h.cells rfl (j + i) u (by rw [List.getElem?_drop] at hu; exact hu)
  have e : ∀ (b o q : Nat), (⟨b, o, none⟩ : Addr).add q = ⟨b, o + q, none⟩ := Go.WideShapes.add_plain
  rw [e] at this ⊢
  simpa using this
theorem one_strs (l : List ByteArray) : ∀ u ∈ l.map Value.string, u.oneCell' = true := by intro u hu; rw [List.mem_map] at hu; obtain ⟨x, _, rfl⟩ := hu; rfl
theorem one_ints (l : List Int) : ∀ u ∈ l.map (Value.int .i64), u.oneCell' = true := by intro u hu; rw [List.mem_map] at hu; obtain ⟨x, _, rfl⟩ := hu; rfl
theorem PM.delK {g cap j k : Nat} (h : PM w wr tb gb seed m ks vs vk vv) (hj : j < ks.length) (hk : k = ks.length - 1) (ho : w'.ownsRow wr.heap.size 9 1 (.slice (some ⟨g, 0, none⟩) k cap) k ((ks.map Value.string).take j ++ (ks.map Value.string).drop (j + 1))) (hb : Below wr.heap.size wr w') :
    PM w w' tb gb seed m (ks.eraseIdx j) vs (.slice (some ⟨g, 0, none⟩) k cap) vv := by
  refine h.newK (ks' := ks.eraseIdx j) ?_ hb
  rw [List.length_eraseIdx, if_pos hj, ← hk, List.eraseIdx_eq_take_drop_succ, List.map_append, List.map_take, List.map_drop]
  exact ho
theorem PM.delV {g cap j k : Nat} (h : PM w wr tb gb seed m ks vs vk vv) (hj : j < vs.length) (hk : k = vs.length - 1) (ho : w'.ownsRow wr.heap.size 3 1 (.slice (some ⟨g, 0, none⟩) k cap) k ((vs.map (Value.int .i64)).take j ++ (vs.map (Value.int .i64)).drop (j + 1))) (hb : Below wr.heap.size wr w') :
    PM w w' tb gb seed m ks (vs.eraseIdx j) vk (.slice (some ⟨g, 0, none⟩) k cap) := by
  refine h.newV (vs' := vs.eraseIdx j) ?_ hb
  rw [List.length_eraseIdx, if_pos hj, ← hk, List.eraseIdx_eq_take_drop_succ, List.map_append, List.map_take, List.map_drop]
  exact ho
end
end Go.Proofs.Ytkkijcnipjojoaa
