/- Contracts of package table: Split. -/
import Derived.Test.YtkkijcnipjojoaaTabWords
import Derived.Test.YtkkijcnipjojoaaPlainK
namespace Go.Proofs.Ytkkijcnipjojoaa
open Go.RowKit

/-- The bit of a hash that parts a table. -/
def sideI (h b : Int) : Int := if 0 ≤ b ∧ b < 64 then h / 2 ^ b.toNat % 2 else 0

theorem PutRes.drewN {w w' : World} {k : Nat} {tb gb : Nat} {seed : Int} {S : Grps} {m : ByteArray → Option Int} {key : ByteArray} {v : Int} {e : Ending} (h : PutRes (w.drewN k) w' tb gb seed S m key v e) : PutRes w w' tb gb seed S m key v e := by
  have t0 : Touch w (w.drewN k) tb gb := (Touch.refl w tb gb).drewN k
  rcases h with ⟨h1, h2, h3, h4, h5⟩ | ⟨h1, h2, gb', S', h3, h4, h5, h6⟩
  · exact .inl ⟨h1, h2, h3, h4, t0.trans h5⟩
  · exact .inr ⟨h1, h2, gb', S', h3, h4, h5, t0.trans h6⟩

theorem put_c {tb gb : Nat} {seed : Int} {S : Grps} {m : ByteArray → Option Int} (w : World) (hT : Tab w tb gb seed S m) (hP : Pow S.G) (key : ByteArray) (v : Int) (hkey : key.size ≤ maxLen) :
    Calls Try.prog 17 #[.pointer (some ⟨tb, 0, none⟩), .string key, .int .i64 v] w fun e w' => ∃ c : Int, e = .returned (.int .i64 c) ∧ PutRes w w' tb gb seed S m key v (.returned (.int .i64 c)) := by
  refine (put_any w hT hP key v hkey).mono ?_
  intro e w' h
  rcases id h with ⟨_, _, rfl, _⟩ | ⟨_, rfl, _⟩
  · exact ⟨_, rfl, h⟩
  · exact ⟨_, rfl, h⟩

theorem bit_and (h : Int) (n : Nat) (h0 : 0 ≤ h) (h1 : h < 18446744073709551616) : bits .and .u64 (h / 2 ^ n) 1 = h / 2 ^ n % 2 := by
  obtain ⟨a, rfl⟩ := Int.eq_ofNat_of_zero_le h0
  have e : ((a : Int) / 2 ^ n) = ((a / 2 ^ n : Nat) : Int) := by rw [Int.natCast_ediv]; simp
  have hle : a / 2 ^ n ≤ a := Nat.div_le_self _ _
  rw [e]
  generalize a / 2 ^ n = b at *
  have := bits_and_u64_nat b 1 (by omega) (by omega)
  rw [show (1 : Int) = ((1 : Nat) : Int) from rfl, this, show (1 : Nat) = 2 ^ 1 - 1 from rfl, Nat.and_two_pow_sub_one_eq_mod]
  omega

theorem q_same {P : Program} {f : FuncId} {args : Array Value} {w : World} {n : Nat} {v : Value}
    (h : Calls P f args (w.drewN n) fun e w' => e = .returned v ∧ w.drewN n = w') : Calls P f args (w.drewN n) fun e w'' => e = .returned v ∧ ∃ m, w'' = w.drewN m :=
  h.mono fun _ _ ⟨he, hm⟩ => ⟨he, n, hm.symm⟩
theorem hash_hk (seed : Int) (s : ByteArray) (w : World) (hs : s.size ≤ maxLen) :
    Calls Try.prog 63 #[.int .u64 seed, .string s] w fun e w' => e = .returned (.int .u64 (hk seed s)) ∧ w = w' := hash_any seed s w hs

set_option maxRecDepth 100000 in
set_option maxHeartbeats 1000000 in
theorem split1_in (w : World) (bb xb lb tb gb : Nat) (seed bit : Int) (S0 : Grps) (n0 k0 : Int) (key : ByteArray) (v : Int) (hkey : key.size ≤ maxLen)
    (hbit : w.cell? ⟨bb, 0, none⟩ = some (.int .i64 bit)) (hxb : w.cell? ⟨xb, 0, none⟩ = some (.pointer (some ⟨tb, 0, none⟩))) (ht : TabAt w tb gb seed S0 n0 k0)
    (s : Nat) (hs : s < 2) (hside : sideI (hk seed key) bit = s) (b0 : 0 ≤ bit) (b1 : bit < 64)
    (ta ga : Nat) (Sa : Grps) (ma : ByteArray → Option Int) (hla : w.cell? ⟨lb, s, none⟩ = some (.pointer (some ⟨ta, 0, none⟩))) (hTa : Tab w ta ga seed Sa ma) (hPa : Pow Sa.G) :
    Calls Try.prog 62 #[.string key, .int .i64 v, .pointer (some ⟨bb, 0, none⟩), .pointer (some ⟨xb, 0, none⟩), .pointer (some ⟨lb, 0, none⟩)] w fun e w' => e = .returned (.tuple #[]) ∧ ∃ e', PutRes w w' ta ga seed Sa ma key v e' := by
  have cs := ht.cSeed
  have hkb := hk_bd seed key
  generalize hhh : hk seed key = h at *
  have HC := Lib.hid fun W : World => hhh ▸ hash_hk seed key W hkey
  clear hhh
  have b2 : ¬ bit < 0 := by omega
  go_enter Try.func62, Try.ntmps62
  go_wp2
  go_quiet ((go_at_call 63; exact q_same (HC.out _)))
  have hbs : bits .and .u64 (h / 2 ^ bit.toNat) 1 = (s : Int) := by
    rw [bit_and h _ hkb.1 hkb.2, ← hside]; unfold sideI; rw [if_pos ⟨b0, b1⟩]
  rw [hbs]
  clear hbs hside HC
  have hT1 := hTa.later (w' := w.drewN nq) ((IsDrew.one w nq).below _)
  clear hTa
  have HP := Lib.hid fun W' e (h : PutRes (w.drewN nq) W' ta ga seed Sa ma key v e) => h.drewN
  obtain rfl | rfl : s = 0 ∨ s = 1 := by omega
  all_goals
    go_wp2_with (go_at_call 17; refine (put_c _ hT1 hPa key v hkey).mono ?_; rintro e w2 ⟨c, rfl, hput⟩; have hput := HP.out _ _ hput)
    (try simp only [Exit.inBlock, Exit.then])
    refine bodyPost_end (results_none rfl _ _ _) rfl ?_
    exact ⟨rfl, _, hput⟩

set_option maxRecDepth 100000 in
set_option maxHeartbeats 1000000 in
theorem split1_out (w : World) (bb xb lb : Nat) (seed bit : Int) (key : ByteArray) (v : Int) (hkey : key.size ≤ maxLen)
    (hbit : w.cell? ⟨bb, 0, none⟩ = some (.int .i64 bit)) (hb : bit < 0 ∨ 64 ≤ bit)
    (ta ga : Nat) (Sa : Grps) (ma : ByteArray → Option Int) (hla : w.cell? ⟨lb, 0, none⟩ = some (.pointer (some ⟨ta, 0, none⟩))) (hTa : Tab w ta ga seed Sa ma) (hPa : Pow Sa.G) :
    Calls Try.prog 62 #[.string key, .int .i64 v, .pointer (some ⟨bb, 0, none⟩), .pointer (some ⟨xb, 0, none⟩), .pointer (some ⟨lb, 0, none⟩)] w fun e w' => e = .returned (.tuple #[]) ∧ ∃ e', PutRes w w' ta ga seed Sa ma key v e' := by
  rcases hb with hb | hb
  · go_enter Try.func62, Try.ntmps62
    go_wp2_with (go_at_call 17; refine (put_c _ hTa hPa key v hkey).mono ?_; rintro e w2 ⟨c, rfl, hput⟩)
    (try simp only [Exit.inBlock, Exit.then])
    refine bodyPost_end (results_none rfl _ _ _) rfl ?_
    exact ⟨rfl, _, hput⟩
  · have h0 : ¬ bit < 0 := by omega
    go_enter Try.func62, Try.ntmps62
    go_wp2_with (go_at_call 17; refine (put_c _ hTa hPa key v hkey).mono ?_; rintro e w2 ⟨c, rfl, hput⟩)
    (try simp only [Exit.inBlock, Exit.then])
    refine bodyPost_end (results_none rfl _ _ _) rfl ?_
    exact ⟨rfl, _, hput⟩

theorem split1_any (w : World) (bb xb lb tb gb : Nat) (seed bit : Int) (S0 : Grps) (n0 k0 : Int) (key : ByteArray) (v : Int) (hkey : key.size ≤ maxLen)
    (hbit : w.cell? ⟨bb, 0, none⟩ = some (.int .i64 bit)) (hxb : w.cell? ⟨xb, 0, none⟩ = some (.pointer (some ⟨tb, 0, none⟩))) (ht : TabAt w tb gb seed S0 n0 k0)
    (s : Nat) (hs : s < 2) (hside : sideI (hk seed key) bit = s)
    (ta ga : Nat) (Sa : Grps) (ma : ByteArray → Option Int) (hla : w.cell? ⟨lb, s, none⟩ = some (.pointer (some ⟨ta, 0, none⟩))) (hTa : Tab w ta ga seed Sa ma) (hPa : Pow Sa.G) :
    Calls Try.prog 62 #[.string key, .int .i64 v, .pointer (some ⟨bb, 0, none⟩), .pointer (some ⟨xb, 0, none⟩), .pointer (some ⟨lb, 0, none⟩)] w fun e w' => e = .returned (.tuple #[]) ∧ ∃ e', PutRes w w' ta ga seed Sa ma key v e' := by
  by_cases hb : 0 ≤ bit ∧ bit < 64
  · exact split1_in w bb xb lb tb gb seed bit S0 n0 k0 key v hkey hbit hxb ht s hs hside hb.1 hb.2 ta ga Sa ma hla hTa hPa
  · have h0 : s = 0 := by unfold sideI at hside; rw [if_neg hb] at hside; omega
    subst h0
    exact split1_out w bb xb lb seed bit key v hkey hbit (by omega) ta ga Sa ma hla hTa hPa
theorem side_01 (h b : Int) (_ : 0 ≤ h) : sideI h b = ((0 : Nat) : Int) ∨ sideI h b = ((1 : Nat) : Int) := by
  unfold sideI
  split
  · have := Int.emod_nonneg (h / 2 ^ b.toNat) (show (2 : Int) ≠ 0 by decide)
    have := Int.emod_lt_of_pos (h / 2 ^ b.toNat) (show (0 : Int) < 2 by decide)
    omega
  · exact .inl rfl

/-- A key among others. -/
def inB (l : List ByteArray) (k : ByteArray) : Bool := l.any fun x => decide (x = k)
theorem inB_iff {l : List ByteArray} {k : ByteArray} : inB l k = true ↔ k ∈ l := by simp [inB]
theorem inB_snoc_same (l : List ByteArray) (k : ByteArray) : inB (l ++ [k]) k = true := inB_iff.2 (by simp)
theorem inB_snoc_ne (l : List ByteArray) {k key : ByteArray} (h : k ≠ key) : inB (l ++ [key]) k = inB l k := by
  unfold inB
  rw [List.any_append]
  simp
  exact fun e => absurd e.symm h
/-- The half of what was gone through. -/
def half (m : ByteArray → Option Int) (seed bit : Int) (l : List ByteArray) (s : Nat) : ByteArray → Option Int := fun k => if inB l k = true ∧ sideI (hk seed k) bit = s then m k else none
theorem half_add (m : ByteArray → Option Int) (seed bit : Int) (l : List ByteArray) (s : Nat) (key : ByteArray) (x : Int) (hm : m key = some x) (hs : sideI (hk seed key) bit = s) :
    updM (half m seed bit l s) key (some x) = half m seed bit (l ++ [key]) s := by
  funext k
  unfold updM half
  by_cases c : k = key
  · subst c; rw [if_pos rfl, if_pos ⟨inB_snoc_same _ _, hs⟩, hm]
  · rw [if_neg c, inB_snoc_ne _ c]
theorem half_other (m : ByteArray → Option Int) (seed bit : Int) (l : List ByteArray) (s : Nat) (key : ByteArray) (hs : sideI (hk seed key) bit ≠ s) : half m seed bit l s = half m seed bit (l ++ [key]) s := by
  funext k
  unfold half
  by_cases c : k = key
  · subst c; rw [if_neg (fun h => hs h.2), if_neg (fun h => hs h.2)]
  · rw [inB_snoc_ne _ c]
theorem half_none {m : ByteArray → Option Int} {seed bit : Int} {l : List ByteArray} {s : Nat} {k : ByteArray} (h : k ∉ l) : half m seed bit l s k = none := by
  unfold half; rw [if_neg (fun c => h (inB_iff.1 c.1))]
theorem half_mem {m : ByteArray → Option Int} {seed bit : Int} {l : List ByteArray} {s : Nat} {k : ByteArray} (h : half m seed bit l s k ≠ none) : k ∈ l := by
  apply Classical.byContradiction
  intro c
  exact h (half_none c)

theorem Tab.touch {w w' : World} {ta ga tb gb : Nat} {seed : Int} {S : Grps} {m : ByteArray → Option Int} (h : Tab w tb gb seed S m) (ht : Touch w w' ta ga) (h1 : tb ≠ ta) (h2 : tb ≠ ga) (h3 : gb ≠ ta) (h4 : gb ≠ ga) : Tab w' tb gb seed S m :=
  ⟨h.at'.later (ht.block _ h.at'.lt.1 h1 h2) (ht.block _ h.at'.lt.2 h3 h4), h.good, h.sum, h.gle, h.ksz⟩

/-- What Split's walk keeps. -/
structure SpI (w : World) (S : Grps) (m : ByteArray → Option Int) (seed bit : Int) (tb gb bb xb lb ta tc : Nat) (g i : Nat) (wr : World) : Prop where
  bel : Below w.heap.size w wr
  lo : w.heap.size ≤ wr.heap.size
  bx : wr.heap[bb]? = some (.cells #[.int .i64 bit] 3 (0, 0))
  xx : wr.heap[xb]? = some (.cells #[.pointer (some ⟨tb, 0, none⟩)] 23 (0, 0))
  ll : wr.heap[lb]? = some (.cells #[.pointer (some ⟨ta, 0, none⟩), .pointer (some ⟨tc, 0, none⟩)] 90 (0, 0))
  gi : g < S.G ∨ i = 0
  tabs : ∃ ga Sa gc Sc, Tab wr ta ga seed Sa (half m seed bit (keysV S g i) 0) ∧ Tab wr tc gc seed Sc (half m seed bit (keysV S g i) 1) ∧ Pow Sa.G ∧ Pow Sc.G ∧ w.heap.size ≤ ga ∧ w.heap.size ≤ gc ∧ ga ≠ gc ∧ ga ≠ tc ∧ gc ≠ ta ∧
    (ga ≠ bb ∧ ga ≠ xb ∧ ga ≠ lb) ∧ (gc ≠ bb ∧ gc ≠ xb ∧ gc ≠ lb)

variable {w : World} {S : Grps} {m : ByteArray → Option Int} {seed bit : Int} {tb gb bb xb lb ta tc : Nat}
theorem SpI.keeps (hT : Tab w tb gb seed S m) : Keeps S gb (SpI w S m seed bit tb gb bb xb lb ta tc) := by
  refine ⟨fun g i wr h => (h.bel.block _ hT.at'.lt.2).trans hT.at'.hg, fun g i wr O h => ?_, fun g i wr hg hi hn h => ?_, fun g wr hg h => ?_⟩
  · obtain ⟨ga, Sa, gc, Sc, h1, h2, h3⟩ := h.tabs
    have hbl : Below wr.heap.size wr (wr.alloc O) := (Below.refl _ _).alloc (Nat.le_refl _) _
    exact ⟨h.bel.alloc h.lo _, by have := h.lo; simp; omega, (hbl.block _ (heap_lt' h.bx)).trans h.bx, (hbl.block _ (heap_lt' h.xx)).trans h.xx, (hbl.block _ (heap_lt' h.ll)).trans h.ll, h.gi, ga, Sa, gc, Sc, h1.later hbl, h2.later hbl, h3⟩
  · obtain ⟨ga, Sa, gc, Sc, h1⟩ := h.tabs
    exact ⟨h.bel, h.lo, h.bx, h.xx, h.ll, .inl hg, ga, Sa, gc, Sc, by rw [keysV_skip _ _ _ hn]; exact h1⟩
  · obtain ⟨ga, Sa, gc, Sc, h1⟩ := h.tabs
    exact ⟨h.bel, h.lo, h.bx, h.xx, h.ll, .inr rfl, ga, Sa, gc, Sc, by rw [← keysV_next]; exact h1⟩

theorem cnt_some {S : Grps} (g : Nat) {G : Nat} (hg : g < G) : cnt isFull S.w g ≤ cnt isFull S.w G := cnt_mono _ _ _ _ (by omega)

set_option maxRecDepth 100000 in
set_option maxHeartbeats 2000000 in
theorem splitC (hT : Tab w tb gb seed S m) (hP : Pow S.G) (hd : ta ≠ tc ∧ w.heap.size ≤ ta ∧ w.heap.size ≤ tc ∧ ta ≠ bb ∧ ta ≠ xb ∧ ta ≠ lb ∧ tc ≠ bb ∧ tc ≠ xb ∧ tc ≠ lb)
    {g i : Nat} {wr : World} (h : SpI w S m seed bit tb gb bb xb lb ta tc g i wr) (hg : g < S.G) (hi : i < 8) (hf : bytI (S.w g) i < 128) :
    Calls Try.prog 62 (#[.string (S.k g i), .int .i64 (S.v g i)] ++ #[.pointer (some ⟨bb, 0, none⟩), .pointer (some ⟨xb, 0, none⟩), .pointer (some ⟨lb, 0, none⟩)]) wr fun e w' => e = .returned (.tuple #[]) ∧ SpI w S m seed bit tb gb bb xb lb ta tc g (i + 1) w' := by
  obtain ⟨ga, Sa, gc, Sc, h1, h2, h3, h4, h5, h6, h7, h8, h9, ⟨h10, h11, h12⟩, h13, h14, h15⟩ := h.tabs
  obtain ⟨d1, d2, d3, d4, d5, d6, d7, d8, d9⟩ := hd
  have hval := hT.good.val g i hg hi hf
  have hks := hT.ksz _ _ hval
  have hl : (keysV S g i).length < 112 := by
    have a1 := vis_le isFull S.w g (i + 1) S.G hg (by omega)
    rw [slots_yes isFull _ _ (by simp [isFull]; omega), List.length_append, List.length_singleton] at a1
    have a2 := hT.sum
    have a3 : S.G ≤ 16 := by unfold Pow at hP; omega
    rw [keysV_len]; omega
  have hcount : ∀ (s : Nat) (Sx : Grps) (hgd : Good seed Sx (half m seed bit (keysV S g i) s)), cnt isFull Sx.w Sx.G < 112 := fun s Sx hgd => Nat.lt_of_le_of_lt (hgd.count_le (keysV S g i) (fun k hk => half_mem hk)) hl
  have ht0 := (hT.later h.bel).at'
  have c1 : wr.cell? ⟨bb, 0, none⟩ = some (.int .i64 bit) := by rw [cell_of_row _ _ _ _ _ _ h.bx]; rfl
  have c2 : wr.cell? ⟨xb, 0, none⟩ = some (.pointer (some ⟨tb, 0, none⟩)) := by rw [cell_of_row _ _ _ _ _ _ h.xx]; rfl
  have hsz := h.lo
  rcases side_01 (hk seed (S.k g i)) bit (hk_bd _ _).1 with hs | hs
  · refine (split1_any wr bb xb lb tb gb seed bit S _ _ (S.k g i) (S.v g i) hks c1 c2 ht0 0 (by omega) hs ta ga Sa _ (by rw [cell_of_row _ _ _ _ _ _ h.ll]; rfl) h1 h3).mono ?_
    rintro e w' ⟨rfl, e', hput⟩
    refine ⟨rfl, ?_⟩
    rcases hput with ⟨_, hfull, _⟩ | ⟨_, _, ga', Sa', hga, hTa, hPa, htch⟩
    · have := hcount 0 Sa h1.good; omega
    · have hga' : ga' = ga ∨ wr.heap.size ≤ ga' := hga
      have l2 := h2.at'.lt
      have lb1 := heap_lt' h.bx
      have lb2 := heap_lt' h.xx
      have lb3 := heap_lt' h.ll
      refine ⟨h.bel.trans (htch.below h.lo d2 h5), Nat.le_trans h.lo htch.size, (htch.block _ (heap_lt' h.bx) (by omega) (by omega)).trans h.bx, (htch.block _ (heap_lt' h.xx) (by omega) (by omega)).trans h.xx, (htch.block _ (heap_lt' h.ll) (by omega) (by omega)).trans h.ll, .inl hg, ga', Sa', gc, Sc, ?_, ?_, hPa, h4, by omega, h6, by omega, by omega, h9, by omega, h13, h14, h15⟩
      · rw [keysV_add _ _ _ hf, ← half_add _ _ _ _ _ _ _ hval hs]; exact hTa
      · rw [keysV_add _ _ _ hf, ← half_other _ _ _ _ _ _ (by rw [hs]; decide)]; exact h2.touch htch (by omega) (by omega) (by omega) (by omega)
  · refine (split1_any wr bb xb lb tb gb seed bit S _ _ (S.k g i) (S.v g i) hks c1 c2 ht0 1 (by omega) hs tc gc Sc _ (by rw [cell_of_row _ _ _ _ _ _ h.ll]; rfl) h2 h4).mono ?_
    rintro e w' ⟨rfl, e', hput⟩
    refine ⟨rfl, ?_⟩
    rcases hput with ⟨_, hfull, _⟩ | ⟨_, _, gc', Sc', hgc, hTc, hPc, htch⟩
    · have := hcount 1 Sc h2.good; omega
    · have hgc' : gc' = gc ∨ wr.heap.size ≤ gc' := hgc
      have l2 := h1.at'.lt
      have lb1 := heap_lt' h.bx
      have lb2 := heap_lt' h.xx
      have lb3 := heap_lt' h.ll
      refine ⟨h.bel.trans (htch.below h.lo d3 h6), Nat.le_trans h.lo htch.size, (htch.block _ (heap_lt' h.bx) (by omega) (by omega)).trans h.bx, (htch.block _ (heap_lt' h.xx) (by omega) (by omega)).trans h.xx, (htch.block _ (heap_lt' h.ll) (by omega) (by omega)).trans h.ll, .inl hg, ga, Sa, gc', Sc', ?_, ?_, h3, hPc, h5, by omega, by omega, h8, by omega, ⟨h10, h11, h12⟩, by omega⟩
      · rw [keysV_add _ _ _ hf, ← half_other _ _ _ _ _ _ (by rw [hs]; decide)]; exact h1.touch htch (by omega) (by omega) (by omega) (by omega)
      · rw [keysV_add _ _ _ hf, ← half_add _ _ _ _ _ _ _ hval hs]; exact hTc
end Go.Proofs.Ytkkijcnipjojoaa
