/- The document's dict: regions of Put and Delete that draw their order, as theorems of their own. -/
import Derived.Test.YtkkijcnipjojoaaRefSplit
import Derived.Test.YtkkijcnipjojoaaPlayR
namespace Go.Proofs.Ytkkijcnipjojoaa
open Go.RowKit

theorem own_empty {W : World} {B g : Nat} {e : TypeId} (h : W.heap[g]? = some (.cells #[] e (0, 0))) (hB : B ≤ g) : W.ownsRow B e 1 (.slice (some ⟨g, 0, none⟩) 0 0) 0 [] :=
  ⟨rfl, .inr ⟨g, 0, #[], rfl, hB, h, Nat.le_refl _, by unfold maxLen; omega, rfl, rfl⟩⟩
theorem grown_refl (w : World) (r : Option Nat) : w.grownBy w r := ⟨rfl, rfl, rfl, Nat.le_refl _, fun _ _ _ => rfl⟩
/-- append of a list of the call's own onto an empty one, at a step of a region that draws its order. -/
theorem step_grow {P : Program} {ops : Array Oper} {o : Oper} {a : Act} {w : World} {K : Act → World → Prop} {Q : Exit → Act → World → Prop} {E : Prop} (hgd : o.guard = none) (s x : Operand) (t : TypeId)
    (ho : o.op = .call { callee := .builtin .append, args := #[s, x], argTypes := #[t, t] })
    (base : Nat) (e : TypeId) (i : TypeInfo) (z : Value) (bytes : Nat) (ht : P.underlying t = some (.slice e)) (hi : P.info? e = some i) (hz : i.zero = some z)
    (hsize : i.size = 1) (hby : i.bytes = bytes) (hzs : z.cells.size = 1) (g0 : Nat) (hs : a.eval s = .slice (some ⟨g0, 0, none⟩) 0 0) (hown : w.ownsRow base e 1 (.slice (some ⟨g0, 0, none⟩) 0 0) 0 [])
    (v2 : Value) (m base2 : Nat) (ys : List Value) (hx : a.eval x = v2) (hown2 : w.ownsRow base2 e 1 v2 m ys) (h1 : ∀ u ∈ ys, u.oneCell' = true)
    (h63 : m ≤ maxLen) (hbytes : m * bytes ≤ 140737488355328) (hbase : base ≤ w.heap.size) (w0 : World) (hb0 : Below base w0 w)
    (h : ∀ g cap w', w'.ownsRow base e 1 (.slice (some ⟨g, 0, none⟩) m cap) m ys → w.grownBy w' (some g0) → Below base w0 w' → K (a.put o.dst (.slice (some ⟨g, 0, none⟩) m cap)) w') :
    if Region.wanted o (yielded ops a.tmps) = true then Oper.wp P o a w K Q else E := by
  have hw : Region.wanted o (yielded ops a.tmps) = true := by simp [Region.wanted, hgd]
  rcases hown2.2 with ⟨rfl, rfl⟩ | ⟨g, cap, cur, rfl, _⟩
  · have hy : ys = [] := List.length_eq_zero_iff.1 (by have := hown2.1; omega)
    subst hy
    rw [if_pos hw]
    have hr := run_append_owned_none (P := P) w base t o.type e i 1 ht hi _ 0 [] hown
    unfold Oper.wp execOp
    simp only [ho, resolve, invoke, builtin, Sem.run_bind, Sem.run_pure, Result.andThen_ok, List.map_toArray, List.map_cons, List.map_nil, hs, hx, hr]
    exact h g0 0 w hown (grown_refl _ _) hb0
  · by_cases hm : 0 < m
    · have hl : ys.length = m * 1 := hown2.1
      refine step_append_lies w hgd s x t ho base e i z 1 bytes ht hi hz hsize hby hzs (by decide) _ 0 [] hs hown ⟨g, 0, none⟩ m cap ys hx hl (hown2.cells rfl) h1 hm (by omega) (by rw [Nat.zero_add]; exact hbytes) hbase _ rfl fun g1 cap1 w' h2 h3 _ _ => ?_
      rw [Nat.zero_add] at h2 ⊢
      exact h g1 cap1 w' h2 h3 (hb0.trans (grown_below hown h3 hbase))
    · obtain rfl : m = 0 := by omega
      obtain rfl : ys = [] := List.length_eq_zero_iff.1 (by have := hown2.1; omega)
      refine step_append_room hgd s x t ho e i 1 ht hi hsize g0 0 0 0 hs ⟨g, 0, none⟩ 0 cap [] hx (by simp) (by simp) (by simp) (Nat.le_refl _) (by simp) ?_
      have e1 : w.setCells g0 (0 + 0 * 1) [] = w := by simp [World.setCells]
      rw [e1]
      exact h g0 0 w hown (grown_refl _ _) hb0
theorem step_key {P : Program} {ops : Array Oper} {o : Oper} {a : Act} {w : World} {K : Act → World → Prop} {Q : Exit → Act → World → Prop} {E : Prop} (hgd : o.guard = none) (s x : Operand) (t : TypeId)
    (ho : o.op = .call { callee := .builtin .append, args := #[s, x], argTypes := #[t, t] })
    (base : Nat) (e : TypeId) (i : TypeInfo) (z : Value) (bytes : Nat) (ht : P.underlying t = some (.slice e)) (hi : P.info? e = some i) (hz : i.zero = some z)
    (hsize : i.size = 1) (hby : i.bytes = bytes) (hzs : z.cells.size = 1) (g0 n c0 : Nat) (xs : List Value) (hs : a.eval s = .slice (some ⟨g0, 0, none⟩) n c0) (hown : w.ownsRow base e 1 (.slice (some ⟨g0, 0, none⟩) n c0) n xs)
    (gB : Nat) (u : Value) (hx : a.eval x = .slice (some ⟨gB, 0, none⟩) 1 1) (hnews : ∀ j u', [u][j]? = some u' → w.cell? ((⟨gB, 0, none⟩ : Addr).add j) = some u') (h1 : u.oneCell' = true)
    (h63 : n + 1 ≤ maxLen) (hbytes : (n + 1) * bytes ≤ 140737488355328) (hbase : base ≤ w.heap.size) (w0 : World) (hb0 : Below base w0 w)
    (h : ∀ g cap w', w'.ownsRow base e 1 (.slice (some ⟨g, 0, none⟩) (n + 1) cap) (n + 1) (xs ++ [u]) → Below base w0 w' → K (a.put o.dst (.slice (some ⟨g, 0, none⟩) (n + 1) cap)) w') :
    if Region.wanted o (yielded ops a.tmps) = true then Oper.wp P o a w K Q else E :=
  step_append_lies w hgd s x t ho base e i z 1 bytes ht hi hz hsize hby hzs (by decide) _ n xs hs hown ⟨gB, 0, none⟩ 1 1 [u] hx rfl hnews (by intro u' hu; rw [List.mem_singleton] at hu; subst hu; exact h1) (by omega) h63 hbytes hbase _ rfl
    fun g cap w' h2 h3 _ _ => h g cap w' h2 (hb0.trans (grown_below hown h3 hbase))
theorem far_news {Wp W1 : World} {g0 gB : Nat} {v : Value} {t : TypeId} (h31 : Wp.grownBy W1 (some g0)) (hB : Wp.heap[gB]? = some (.cells #[v] t (0, 0))) (hne : gB ≠ g0) : ∀ j u, [v][j]? = some u → W1.cell? ((⟨gB, 0, none⟩ : Addr).add j) = some u := by
  have e := (h31.block gB (heap_lt' hB) (by simp only [ne_eq, Option.some.injEq]; exact hne)).trans hB
  exact World.news_of_block e
theorem b_two9 (w : World) (O O' : Obj) : Below w.heap.size w ((w.alloc O).alloc O') := ((Below.refl _ _).alloc (Nat.le_refl _) _).alloc (by simp) _

theorem b_two8 (w : World) (O O' : Obj) : Below w.heap.size w (((w.alloc O).alloc O').drew) := (((Below.refl _ _).alloc (Nat.le_refl _) _).alloc (by simp) _).drew

noncomputable def regP : Code := (((Try.f44.body).bind (findRegion 6)).getD .skip)
set_option maxRecDepth 1000000 in
set_option maxHeartbeats 20000000 in
theorem regP_any {w wr : World} {rb rr1 rc1 L : Nat} {seed : Int} {S T : Nat × List PartR} {qs1 : List (PartR × Value)} {G G1 : Nat → Prop} {key : ByteArray} {p1 : PartR} {av : Option Addr} {cv : Nat} {R : Ending → World → Prop} {y2 y3 y4 y6 y7 y8 y9 y10 y11 y12 y13 y14 y15 y16 y17 y18 y19 y20 y21 y22 y23 y24 y25 y26 y27 y28 y29 y30 y31 y32 y33 y34 y35 y36 y37 y38 y39 y40 y41 y42 y43 y44 y45 y46 y47 y48 y49 y50 y51 y52 y53 y54 y55 y56 y57 y58 y59 y60 y61 y62 y63 y64 y65 y66 y67 y68 y69 y70 y71 y72 : Value}
    (HS : Hid (SOk seed S.1 S.2)) (HNI : Hid (¬ key ∈ allK S.2)) (hkey : key.size ≤ 20) (HG1 : Hid (GrowI seed (hN seed key) S T)) (HQ1 : Hid (qs1.map (·.1) = T.2)) (HM1 : Hid (RMem wr rb rr1 rc1 seed T.1 qs1 G1)) (HF1 : Hid (Fr w wr G G1)) (HP1 : Hid (T.2[pix T.2 (hN seed key)]? = some p1))
    (HV1 : Hid (qs1[pix T.2 (hN seed key)]? = some (p1, .slice av p1.keys.length cv))) (hfull : Hid (p1.keys.length < 112 ∨ 16 ≤ p1.dep)) (hkl : p1.keys.length ≤ 1000000) (hfew : (allK S.2).length ≤ L)
    (hR : ∀ W : World, (∃ G', Rct W rb seed (putS seed S key) G' (L + 1) ∧ Fr w W G G') → R (.returned (.tuple #[])) W) :
    Code.wp Try.prog regP (bodyPost Try.prog Try.f44 R) ⟨#[.pointer (some ⟨rb, 0, none⟩), .string key, y2, y3, y4, .int .i64 (pix T.2 (hN seed key) : Nat), y6, y7, y8, y9, y10, y11, y12, y13, y14, y15, y16, y17, y18, y19, y20, y21, y22, y23, y24, y25, y26, y27, y28, y29, y30, y31, y32, y33, y34, y35, y36, y37, y38, y39, y40, y41, y42, y43, y44, y45, y46, y47, y48, y49, y50, y51, y52, y53, y54, y55, y56, y57, y58, y59, y60, y61, y62, y63, y64, y65, y66, y67, y68, y69, y70, y71, y72], []⟩ wr := by
  have HRR := Lib.hid hR
  clear hR
  conv => arg 2; whnf
  obtain ⟨k0, _, k2⟩ := HM1.out.part HV1.out
  simp only at k0 k2
  obtain ⟨c0, c1, c2⟩ := HM1.out.cells
  have hil := (List.getElem?_eq_some_iff.1 HV1.out).1
  have hmx : qs1.length ≤ maxLen := owns_maxLen HM1.out.row
  unfold maxLen at hmx
  have HOV := Lib.hid (owns_here (HM1.out.keys _ (List.mem_of_getElem? HV1.out)))
  have hrl1 := HM1.out.glt _ HM1.out.grb
  have hrl2 := HM1.out.glt _ HM1.out.grr
  have HCC : Hid (∀ W, Below wr.heap.size wr W → W.cell? ⟨rb, 2, none⟩ = some (.slice (some ⟨rr1, 0, none⟩) (qs1.length : Nat) rc1) ∧ W.cell? ⟨rr1, pix T.2 (hN seed key) * 3 + 2, none⟩ = some (.slice av p1.keys.length cv) ∧ W.frozen? ⟨rr1, pix T.2 (hN seed key) * 3 + 2, none⟩ = false) := fun W hb => by
    have h1 := HM1.out.step hb
    exact ⟨h1.cells.2.2, (h1.part HV1.out).2.2, h1.row.frozenAt _⟩
  obtain ⟨iS, hiS, zS0, zS1, zS2⟩ := info_parts info_str
  go_region_law (first | (refine step_grow rfl (.tmp 58) (.tmp 66) 39 rfl wr.heap.size 9 iS (.string ByteArray.empty) 16 Try.underlying39 hiS zS0 zS1 zS2 rfl (wr.heap.size) ?_ (own_empty ?_ ?_) (.slice av p1.keys.length cv) p1.keys.length 0 (p1.keys.map Value.string) ?_ (owns_later HOV.out ?_) (strs_one _) ?_ ?_ ?_ wr ?_ ?_; (first | rfl | (simp [Act.eval]; done)); (refine fh_drew ?_; repeat (first | (refine fh_new ?_; focus (first | rfl | (simp; done))) | (refine fh_old ?_ ?_; focus (first | (simp; done) | (simp; omega))))); omega; (first | rfl | (simp [Act.eval]; done)); (first | exact b_al8 _ _ | exact b_one8 _ _ | exact b_two8 _ _ _ | exact b_two9 _ _ _); (unfold maxLen; omega); omega; (first | exact (b_al8 _ _).size | exact (b_one8 _ _).size | exact (b_two8 _ _ _).size | exact (b_two9 _ _ _).size); (first | exact b_al8 _ _ | exact b_one8 _ _ | exact b_two8 _ _ _ | exact b_two9 _ _ _); intro g1 c1 W1 o1 h31 B1; obtain ⟨y0, y2, y3⟩ := HCC.out _ B1; have hs1 := B1.size; have hr1 := Nat.lt_of_lt_of_le hrl1 hs1; have hr2 := Nat.lt_of_lt_of_le hrl2 hs1; have hy0 : ∀ O, (W1.alloc O).cell? ⟨rb, 2, none⟩ = some (.slice (some ⟨rr1, 0, none⟩) (qs1.length : Nat) rc1) := fun O => (HCC.out _ (B1.trans ((b_al8 W1 O).mono hs1))).1) | (refine step_grow rfl (.tmp 58) (.tmp 66) 39 rfl wr.heap.size 9 iS (.string ByteArray.empty) 16 Try.underlying39 hiS zS0 zS1 zS2 rfl (wr.heap.size + 1) ?_ (own_empty ?_ ?_) (.slice av p1.keys.length cv) p1.keys.length 0 (p1.keys.map Value.string) ?_ (owns_later HOV.out ?_) (strs_one _) ?_ ?_ ?_ wr ?_ ?_; (first | rfl | (simp [Act.eval]; done)); (refine fh_drew ?_; repeat (first | (refine fh_new ?_; focus (first | rfl | (simp; done))) | (refine fh_old ?_ ?_; focus (first | (simp; done) | (simp; omega))))); omega; (first | rfl | (simp [Act.eval]; done)); (first | exact b_al8 _ _ | exact b_one8 _ _ | exact b_two8 _ _ _ | exact b_two9 _ _ _); (unfold maxLen; omega); omega; (first | exact (b_al8 _ _).size | exact (b_one8 _ _).size | exact (b_two8 _ _ _).size | exact (b_two9 _ _ _).size); (first | exact b_al8 _ _ | exact b_one8 _ _ | exact b_two8 _ _ _ | exact b_two9 _ _ _); intro g1 c1 W1 o1 h31 B1; obtain ⟨y0, y2, y3⟩ := HCC.out _ B1; have hs1 := B1.size; have hr1 := Nat.lt_of_lt_of_le hrl1 hs1; have hr2 := Nat.lt_of_lt_of_le hrl2 hs1; have hy0 : ∀ O, (W1.alloc O).cell? ⟨rb, 2, none⟩ = some (.slice (some ⟨rr1, 0, none⟩) (qs1.length : Nat) rc1) := fun O => (HCC.out _ (B1.trans ((b_al8 W1 O).mono hs1))).1) | (refine step_key rfl (.tmp 67) (.tmp 69) 39 rfl wr.heap.size 9 iS (.string ByteArray.empty) 16 Try.underlying39 hiS zS0 zS1 zS2 rfl g1 p1.keys.length c1 (p1.keys.map Value.string) ?_ ?_ (W1.heap.size) (.string key) ?_ ?_ rfl ?_ ?_ ?_ wr ?_ ?_; (first | rfl | (simp [Act.eval]; done)); (first | exact o1 | exact owns_later o1 (b_al8 _ _) | exact owns_later o1 (b_one8 _ _) | exact owns_later o1 ((Below.refl _ _).drew)); (first | rfl | (simp [Act.eval]; done)); (first | exact World.news_of_block (heap_alloc_new _ _) | (refine far_news (t := 9) h31 ?_ ?_; (refine fh_drew ?_; repeat (first | (refine fh_new ?_; focus (first | rfl | (simp; done))) | (refine fh_old ?_ ?_; focus (first | (simp; done) | (simp; omega))))); omega)); (unfold maxLen; omega); omega; (first | exact hs1 | exact Nat.le_trans hs1 (b_al8 _ _).size | exact Nat.le_trans hs1 (b_one8 _ _).size); (first | exact B1 | exact B1.trans ((b_al8 _ _).mono B1.size) | exact B1.trans ((b_one8 _ _).mono B1.size) | exact B1.trans ((Below.refl _ _).drew)); intro g2 c2 W2 h22 B2; obtain ⟨q0, q2, q3⟩ := HCC.out _ B2; have PN := Lib.hid (put_end HS.out HNI.out hkey HG1.out HQ1.out HM1.out HF1.out HP1.out HV1.out hfull.out B2 h22 rfl hfew); clear h22 o1 h31) | (refine step_key rfl (.tmp 67) (.tmp 69) 39 rfl wr.heap.size 9 iS (.string ByteArray.empty) 16 Try.underlying39 hiS zS0 zS1 zS2 rfl g1 p1.keys.length c1 (p1.keys.map Value.string) ?_ ?_ (wr.heap.size) (.string key) ?_ ?_ rfl ?_ ?_ ?_ wr ?_ ?_; (first | rfl | (simp [Act.eval]; done)); (first | exact o1 | exact owns_later o1 (b_al8 _ _) | exact owns_later o1 (b_one8 _ _) | exact owns_later o1 ((Below.refl _ _).drew)); (first | rfl | (simp [Act.eval]; done)); (first | exact World.news_of_block (heap_alloc_new _ _) | (refine far_news (t := 9) h31 ?_ ?_; (refine fh_drew ?_; repeat (first | (refine fh_new ?_; focus (first | rfl | (simp; done))) | (refine fh_old ?_ ?_; focus (first | (simp; done) | (simp; omega))))); omega)); (unfold maxLen; omega); omega; (first | exact hs1 | exact Nat.le_trans hs1 (b_al8 _ _).size | exact Nat.le_trans hs1 (b_one8 _ _).size); (first | exact B1 | exact B1.trans ((b_al8 _ _).mono B1.size) | exact B1.trans ((b_one8 _ _).mono B1.size) | exact B1.trans ((Below.refl _ _).drew)); intro g2 c2 W2 h22 B2; obtain ⟨q0, q2, q3⟩ := HCC.out _ B2; have PN := Lib.hid (put_end HS.out HNI.out hkey HG1.out HQ1.out HM1.out HF1.out HP1.out HV1.out hfull.out B2 h22 rfl hfew); clear h22 o1 h31) | (refine step_key rfl (.tmp 67) (.tmp 69) 39 rfl wr.heap.size 9 iS (.string ByteArray.empty) 16 Try.underlying39 hiS zS0 zS1 zS2 rfl g1 p1.keys.length c1 (p1.keys.map Value.string) ?_ ?_ (wr.heap.size + 1) (.string key) ?_ ?_ rfl ?_ ?_ ?_ wr ?_ ?_; (first | rfl | (simp [Act.eval]; done)); (first | exact o1 | exact owns_later o1 (b_al8 _ _) | exact owns_later o1 (b_one8 _ _) | exact owns_later o1 ((Below.refl _ _).drew)); (first | rfl | (simp [Act.eval]; done)); (first | exact World.news_of_block (heap_alloc_new _ _) | (refine far_news (t := 9) h31 ?_ ?_; (refine fh_drew ?_; repeat (first | (refine fh_new ?_; focus (first | rfl | (simp; done))) | (refine fh_old ?_ ?_; focus (first | (simp; done) | (simp; omega))))); omega)); (unfold maxLen; omega); omega; (first | exact hs1 | exact Nat.le_trans hs1 (b_al8 _ _).size | exact Nat.le_trans hs1 (b_one8 _ _).size); (first | exact B1 | exact B1.trans ((b_al8 _ _).mono B1.size) | exact B1.trans ((b_one8 _ _).mono B1.size) | exact B1.trans ((Below.refl _ _).drew)); intro g2 c2 W2 h22 B2; obtain ⟨q0, q2, q3⟩ := HCC.out _ B2; have PN := Lib.hid (put_end HS.out HNI.out hkey HG1.out HQ1.out HM1.out HF1.out HP1.out HV1.out hfull.out B2 h22 rfl hfew); clear h22 o1 h31))
  all_goals
    refine bodyPost_end (results_none rfl _ _ _) rfl ?_
    exact HRR.out _ PN.out

noncomputable def regD : Code := (((Try.f84.body).bind (findRegion 6)).getD .skip)
set_option maxRecDepth 1000000 in
set_option maxHeartbeats 20000000 in
theorem regD_any {w : World} {rb rr rc L j gk ck : Nat} {seed : Int} {S : Nat × List PartR} {qs : List (PartR × Value)} {G : Nat → Prop} {key : ByteArray} {p : PartR} {K : Act → World → Prop} {R : Ending → World → Prop} {y1 y2 y3 y4 y8 y9 y10 y11 y12 y13 y14 y15 y16 y17 y18 y19 y20 y21 y22 y23 y24 y25 y26 y27 y28 y29 y30 y31 y32 y33 y34 y35 y36 y37 y38 y39 y40 y41 y42 y43 y44 y45 y46 y47 y48 y49 y50 y51 y52 : Value}
    (HS : Hid (SOk seed S.1 S.2)) (HQ : Hid (qs.map (·.1) = S.2)) (HM : Hid (RMem w rb rr rc seed S.1 qs G)) (HP : Hid (S.2[pix S.2 (hN seed key)]? = some p)) (HV : Hid (qs[pix S.2 (hN seed key)]? = some (p, .slice (some ⟨gk, 0, none⟩) p.keys.length ck)))
    (HIN : Hid (key ∈ allK S.2)) (HJ : Hid (p.keys[j]? = some key)) (hjl : j < p.keys.length) (hkl : p.keys.length ≤ 1000000) (hfew : (allK S.2).length ≤ L)
    (hK : ∀ (x36 x37 x38 x39 x40 x41 x42 x43 x44 x45 x46 x47 x48 x49 x50 x51 x52 : Value) (W : World), (∃ G', Rct W rb seed (S.1, delS seed S.2 key) G' L ∧ Fr w W G G') → K ⟨#[.pointer (some ⟨rb, 0, none⟩), y1, y2, y3, y4, .int .i64 (pix S.2 (hN seed key) : Nat), .int .i64 (j : Nat), .slice (some ⟨gk, 0, none⟩) p.keys.length ck, y8, y9, y10, y11, y12, y13, y14, y15, y16, y17, y18, y19, y20, y21, y22, y23, y24, y25, y26, y27, y28, y29, y30, y31, y32, y33, y34, y35, x36, x37, x38, x39, x40, x41, x42, x43, x44, x45, x46, x47, x48, x49, x50, x51, x52], []⟩ W) :
    Code.wp Try.prog regD (Exit.then K (bodyPost Try.prog Try.f84 R)) ⟨#[.pointer (some ⟨rb, 0, none⟩), y1, y2, y3, y4, .int .i64 (pix S.2 (hN seed key) : Nat), .int .i64 (j : Nat), .slice (some ⟨gk, 0, none⟩) p.keys.length ck, y8, y9, y10, y11, y12, y13, y14, y15, y16, y17, y18, y19, y20, y21, y22, y23, y24, y25, y26, y27, y28, y29, y30, y31, y32, y33, y34, y35, y36, y37, y38, y39, y40, y41, y42, y43, y44, y45, y46, y47, y48, y49, y50, y51, y52], []⟩ w := by
  have HKK := Lib.hid hK
  clear hK
  conv => arg 2; whnf
  obtain ⟨_, _, k2⟩ := HM.out.part HV.out
  simp only at k2
  obtain ⟨c0, c1, c2⟩ := HM.out.cells
  have hil := (List.getElem?_eq_some_iff.1 HV.out).1
  have hmx : qs.length ≤ maxLen := owns_maxLen HM.out.row
  unfold maxLen at hmx
  have HOV := Lib.hid (owns_here (HM.out.keys _ (List.mem_of_getElem? HV.out)))
  have hck : p.keys.length ≤ ck := owns_cap HOV.out
  have hrl1 := HM.out.glt _ HM.out.grb
  have hrl2 := HM.out.glt _ HM.out.grr
  have HCC : Hid (∀ W, Below w.heap.size w W → W.cell? ⟨rb, 2, none⟩ = some (.slice (some ⟨rr, 0, none⟩) (qs.length : Nat) rc) ∧ W.cell? ⟨rr, pix S.2 (hN seed key) * 3 + 2, none⟩ = some (.slice (some ⟨gk, 0, none⟩) p.keys.length ck) ∧ W.frozen? ⟨rr, pix S.2 (hN seed key) * 3 + 2, none⟩ = false) := fun W hb => by
    have h1 := HM.out.step hb
    exact ⟨h1.cells.2.2, (h1.part HV.out).2.2, h1.row.frozenAt _⟩
  have hj1 : j ≤ ck := by omega
  have hj3 : j + 1 ≤ p.keys.length := by omega
  have hj4 : (j : Int) + 1 ≤ (p.keys.length : Int) := by omega
  have hj5 : (j : Int) ≤ (j : Int) + 1 := by omega
  have E1 : Hid (IntKind.i64.wrap ((j : Int) + 1) = (j : Int) + 1) := IntWalk.i64_in _ (by omega)
  have E2 : Hid (((j : Int) + 1).toNat = j + 1) := by unfold Hid; omega
  have e0 : (0 : Int) ≤ (j : Int) + 1 := by omega
  have e1 := E1.out
  have e2 := E2.out
  obtain ⟨iS, hiS, zS0, zS1, zS2⟩ := info_parts info_str
  have hcase1 : ck = j + 1 ∨ ¬ ck = j + 1 := by omega
  rcases hcase1 with rfl | hkc
  all_goals
    go_region_law (first | (refine step_app rfl (.tmp 41) (.tmp 44) 39 rfl w.heap.size 9 iS (.string ByteArray.empty) 16 Try.underlying39 hiS zS0 zS1 zS2 rfl w.heap.size 0 0 [] ?_ (own_empty ?_ (Nat.le_refl _)) ⟨gk, 0, none⟩ j ((p.keys.map Value.string).take j) ?_ ?_ ?_ ?_ ?_ ?_ ?_ j ?_ ?_; (first | rfl | (simp [Act.eval]; done)); (refine fh_drew ?_; repeat (first | (refine fh_new ?_; focus (first | rfl | (simp; done))) | (refine fh_old ?_ ?_; focus (first | (simp; done) | (simp; omega))))); (first | exact ⟨_, rfl⟩ | (refine ⟨_, ?_⟩; simp [Act.eval]; done) | (simp [Act.eval]; done) | (simp [Act.eval]; omega)); (rw [List.length_take, List.length_map]; omega); (first | exact take_cells (owns_later HOV.out (b_al8 _ _)) j | exact take_cells (owns_later HOV.out (b_one8 _ _)) j); (exact fun u hu => one_strs _ u (List.mem_of_mem_take hu)); (unfold maxLen; omega); omega; (first | exact (b_al8 _ _).size | exact (b_one8 _ _).size); omega; intro g1 c1 W1 o1 b1; rw [List.nil_append] at o1; have B1 : Below w.heap.size w W1 := Below.trans (b_one8 _ _) b1; obtain ⟨y0, y2, y3⟩ := HCC.out _ B1; have hs1 := B1.size; have hr1 := Nat.lt_of_lt_of_le hrl1 hs1; have hr2 := Nat.lt_of_lt_of_le hrl2 hs1) | (refine step_app rfl (.tmp 45) (.tmp 49) 39 rfl w.heap.size 9 iS (.string ByteArray.empty) 16 Try.underlying39 hiS zS0 zS1 zS2 rfl g1 j c1 ((p.keys.map Value.string).take j) ?_ o1 ⟨gk, j + 1, none⟩ (p.keys.length - (j + 1)) ((p.keys.map Value.string).drop (j + 1)) ?_ ?_ ?_ ?_ ?_ ?_ ?_ (p.keys.length - 1) ?_ ?_; (first | rfl | (simp [Act.eval]; done)); (first | exact ⟨_, rfl⟩ | (refine ⟨_, ?_⟩; simp [Act.eval]; done) | (simp [Act.eval]; done) | (simp [Act.eval]; omega)); (rw [List.length_drop, List.length_map]); (exact drop_cells (owns_later HOV.out B1) (j + 1)); (exact fun u hu => one_strs _ u (List.mem_of_mem_drop hu)); (unfold maxLen; omega); omega; (exact B1.size); omega; intro g2 c2 W2 o2 b2; have B2 := B1.trans b2; obtain ⟨q0, q2, q3⟩ := HCC.out _ B2; have PN := Lib.hid (del_end HS.out HQ.out HM.out HP.out HV.out HIN.out HJ.out B2 o2 hfew); clear o1 o2) | (refine step_app rfl (.tmp 45) (.tmp 49) 39 rfl w.heap.size 9 iS (.string ByteArray.empty) 16 Try.underlying39 hiS zS0 zS1 zS2 rfl g1 j c1 ((p.keys.map Value.string).take j) ?_ o1 ⟨gk, 0, none⟩ (p.keys.length - (j + 1)) ((p.keys.map Value.string).drop (j + 1)) ?_ ?_ ?_ ?_ ?_ ?_ ?_ (p.keys.length - 1) ?_ ?_; (first | rfl | (simp [Act.eval]; done)); (first | exact ⟨_, rfl⟩ | (refine ⟨_, ?_⟩; simp [Act.eval]; done) | (simp [Act.eval]; done) | (simp [Act.eval]; omega)); (rw [List.length_drop, List.length_map]); (intro i u hu; rw [List.drop_eq_nil_of_le (by rw [List.length_map]; omega)] at hu; simp at hu); (exact fun u hu => one_strs _ u (List.mem_of_mem_drop hu)); (unfold maxLen; omega); omega; (exact B1.size); omega; intro g2 c2 W2 o2 b2; have B2 := B1.trans b2; obtain ⟨q0, q2, q3⟩ := HCC.out _ B2; have PN := Lib.hid (del_end HS.out HQ.out HM.out HP.out HV.out HIN.out HJ.out B2 o2 hfew); clear o1 o2))
    all_goals exact HKK.out _ _ _ _ _ _ _ _ _ _ _ _ _ _ _ _ _ _ PN.out
end Go.Proofs.Ytkkijcnipjojoaa
