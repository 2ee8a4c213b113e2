/- Contracts of package dict: split. -/
import Derived.Test.YtkkijcnipjojoaaDictB
import Derived.BigRegion
import Derived.Deep.CutRange
import Derived.Deep.RegionLaw
import Derived.LaidEqlPtr
namespace Go.Proofs.Ytkkijcnipjojoaa
open Go.RowKit

theorem fh_new {w : World} {O : Obj} {k : Nat} (h : k = w.heap.size) : (w.alloc O).heap[k]? = some O := by subst h; exact heap_alloc_new _ _
theorem fh_old {w : World} {O : Obj} {k : Nat} {r : Option Obj} (hk : k < w.heap.size) (h : w.heap[k]? = r) : (w.alloc O).heap[k]? = r := by rw [heap_alloc_old _ _ hk]; exact h
theorem fh_drew {w : World} {k : Nat} {r : Option Obj} (h : w.heap[k]? = r) : w.drew.heap[k]? = r := h
theorem five (wc : World) (a b c d e : Obj) : Below wc.heap.size wc (((((wc.alloc a).alloc b).alloc c).alloc d).alloc e).drew :=
  ((((((Below.refl _ _).alloc (Nat.le_refl _) _).alloc (by simp) _).alloc (by simp; omega) _).alloc (by simp; omega) _).alloc (by simp; omega) _).drew
theorem sides_ex {w W : World} {dep ta tc sb ba ra bb rb : Nat}
    (s : W.heap[sb]? = some (.cells #[.pointer (some ⟨ba, 0, none⟩), .pointer (some ⟨bb, 0, none⟩)] 122 (0, 0)))
    (a : W.heap[ba]? = some (.cells #[.int .i64 ((dep + 1 : Nat) : Int), .slice (some ⟨ra, 0, none⟩) 1 1] 96 (0, 0)))
    (la : W.heap[ra]? = some (.cells #[.pointer (some ⟨ta, 0, none⟩)] 23 (0, 0)))
    (b : W.heap[bb]? = some (.cells #[.int .i64 ((dep + 1 : Nat) : Int), .slice (some ⟨rb, 0, none⟩) 1 1] 96 (0, 0)))
    (lb : W.heap[rb]? = some (.cells #[.pointer (some ⟨tc, 0, none⟩)] 23 (0, 0)))
    (bel : Below w.heap.size w W)
    (lo : w.heap.size ≤ sb ∧ w.heap.size ≤ ba ∧ w.heap.size ≤ ra ∧ w.heap.size ≤ bb ∧ w.heap.size ≤ rb) :
    ∃ ba ra bb rb sb', Value.pointer (some ⟨sb, 0, none⟩) = .pointer (some ⟨sb', 0, none⟩) ∧ Sides w W sb' dep ta tc ba ra bb rb := ⟨ba, ra, bb, rb, sb, rfl, bel, s, a, la, b, lb, lo⟩
theorem info_nd : ∃ j, Try.prog.info? 96 = some j ∧ j.size ≠ 0 := by
  have h : (Try.prog.info? 96).map (·.size) = some 2 := by kernel_rfl
  cases hi : Try.prog.info? 96 with
  | none => rw [hi] at h; cases h
  | some j => rw [hi] at h; simp only [Option.map_some, Option.some.injEq] at h; exact ⟨j, rfl, by omega⟩
theorem bit_i64 (j d : Nat) (h : j < 65536) : bits .and .i64 ((j : Int) / 2 ^ d) 1 = ((j / 2 ^ d % 2 : Nat) : Int) := by
  have e : ((j : Int) / 2 ^ d) = ((j / 2 ^ d : Nat) : Int) := by rw [Int.natCast_ediv]; simp
  have hle : j / 2 ^ d ≤ j := Nat.div_le_self _ _
  rw [e]
  generalize j / 2 ^ d = b at *
  have h1 : (BitVec.ofInt 64 (b : Int)).toNat = b := by
    rw [BitVec.ofInt_natCast, BitVec.toNat_ofNat]; exact Nat.mod_eq_of_lt (by omega)
  show IntKind.i64.wrap ((BitVec.ofInt 64 (b : Int) &&& BitVec.ofInt 64 ((1 : Nat) : Int)).toNat : Int) = _
  have h2 : (BitVec.ofInt 64 ((1 : Nat) : Int)).toNat = 1 := by decide
  rw [BitVec.toNat_and, h1, h2, show (1 : Nat) = 2 ^ 1 - 1 from rfl, Nat.and_two_pow_sub_one_eq_mod]
  exact IntWalk.i64_in _ (by omega)
section
variable {w : World} {db : Nat} {seed : Int} {D n dr dc : Nat} {nds : List Nd} {F : Nat → Prop} {M : ByteArray → Option Int} {L : Nat}
set_option maxRecDepth 100000 in
set_option maxHeartbeats 4000000 in
theorem split_d (h : DMem w db seed D n dr dc nds F) (ho : DOk seed D nds M L) {i : Nat} {x : Nd} (hi : nds[i]? = some x) (hd : x.p.dep < 16) :
    Calls Try.prog 68 #[.pointer (some ⟨db, 0, none⟩), .pointer (some ⟨x.b, 0, none⟩)] w fun e w' => e = .returned (.tuple #[]) ∧
      ∃ nds' dr' dc' F', prts nds' = spS seed (prts nds) i x.p ∧ DMem w' db seed (max D (x.p.dep + 1)) n dr' dc' nds' F' ∧ DOk seed (max D (x.p.dep + 1)) nds' M L ∧ Fr w w' F F' := by
  have hxm := List.mem_of_getElem? hi
  have hNd := ho.nd x hxm
  obtain ⟨t, ht⟩ := List.length_eq_one_iff.1 (hNd.one hd)
  have hdm := ho.ok.dmax
  have hdep := ho.ok.dep x.p (ho.part hxm)
  obtain ⟨c0, c1, c2, _⟩ := h.cells
  obtain ⟨x0, x1⟩ := (h.nd x hxm).cells
  obtain ⟨iS, hiS, zS0, zS1, zS2⟩ := info_parts info_node
  have hp := pow16 hdm
  have HM := Lib.hid h
  have HO := Lib.hid ho
  have HI := Lib.hid hi
  have HT := Lib.hid ht
  have HX := Lib.hid hxm
  clear h ho hi ht hxm hNd
  generalize hN : 2 ^ D = N at *
  have HN := Lib.hid hN
  clear hN
  generalize hdp : x.p.dep = dp at *
  have HP := Lib.hid hdp
  clear hdp
  have HR : Hid (w.ownsRow 0 93 1 (.slice (some ⟨dr, 0, none⟩) N dc) N (dirV D nds)) := by unfold Hid; rw [← HN.out]; exact HM.out.row
  have HB : Hid (∀ W w' : World, W.grownBy w' (some dr) → W.heap = w.heap → (w'.cell? ⟨db, 1, none⟩ = some (.int .i64 D) ∧ w'.cell? ⟨db, 2, none⟩ = some (.slice (some ⟨dr, 0, none⟩) N dc)) ∧ w'.frozen? ⟨db, 1, none⟩ = false ∧ w'.frozen? ⟨db, 2, none⟩ = false) := by
    intro W w' h3 hW
    have hb : w'.heap[db]? = some (.cells #[.int .u64 seed, .int .i64 (D : Nat), .slice (some ⟨dr, 0, none⟩) N dc, .int .i64 (n : Nat)] 99 (0, 0)) := by
      rw [h3.block db (by rw [hW]; exact HM.out.flt _ HM.out.fdb) (by simp only [ne_eq, Option.some.injEq]; exact HM.out.dbr), hW, ← HN.out]
      exact HM.out.blk
    refine ⟨⟨?_, ?_⟩, ?_, ?_⟩
    · rw [cell_of_row _ _ _ _ _ _ hb]; rfl
    · rw [cell_of_row _ _ _ _ _ _ hb]; rfl
    · unfold World.frozen?; rw [hb]; rfl
    · unfold World.frozen?; rw [hb]; rfl
  have hpos : 0 < N := by rw [← HN.out]; exact Nat.two_pow_pos D
  go_enter Try.func68, Try.ntmps68
  go_wp2
  go_quiet (fail)
  go_upto_if 17 with (fail)
  go_cut [] from 9 to 36 (fun W => ∃ D' dr' dc' F', D' = max D (dp + 1) ∧ DMem W db seed D' n dr' dc' nds F' ∧ Fr w W F F')
  case first =>
    by_cases c : dp = D
    · have hmb : ((dp : Int) == (D : Int)) = true := by simp [c]
      have HC := Lib.hid c
      clear c
      go_upto_region 1 with (fail)
      go_region_law (refine step_append_lies _ rfl (.tmp 22) (.tmp 26) 97 rfl 0 93 iS (.pointer none) 1 8 Try.underlying97 hiS zS0 zS1 zS2 rfl (by decide) (.slice (some ⟨dr, 0, none⟩) N dc) N (dirV D nds) ?_ ?_ ⟨dr, 0, none⟩ N dc (dirV D nds) ?_ ?_ ?_ ?_ ?_ ?_ ?_ ?_ _ rfl ?_; (first | rfl | simp [Act.eval]); (exact HR.out); (first | rfl | (simp [Act.eval]; done)); (rw [dirV_len, HN.out, Nat.mul_one]); (exact HR.out.cells rfl); (intro u hu; unfold dirV at hu; rw [List.mem_map] at hu; obtain ⟨q, _, rfl⟩ := hu; rfl); exact hpos; (unfold maxLen; omega); omega; exact Nat.zero_le _; intro g cap w' h2 h3 h4 h5; have kk := HB.out _ w' h3 rfl; obtain ⟨⟨k1, k2⟩, k3, k4⟩ := kk; have H2 := Lib.hid h2; have H3 := Lib.hid h3; have H4 := Lib.hid h4; clear h2 h3 h4)
      all_goals
        go_wp2
        go_meet
        case rel =>
          have c := HC.out
          subst c
          obtain ⟨F', h6, h7⟩ := (HM.out.step ((IsDrew.one w _).below _)).double HO.out.ok HN.out.symm H2.out H3.out H4.out h5 _ rfl
          exact ⟨dp + 1, g, cap, F', by omega, h6, (Fr.of_below ((IsDrew.one w _).below _) F).trans h7⟩
    · have hmb : ((dp : Int) == (D : Int)) = false := by simp; omega
      go_wp2
      go_meet
      case rel =>
        refine ⟨D, dr, dc, F, by omega, ?_, ?_⟩
        · exact HM.out.step ((IsDrew.one _ _).below _)
        · exact Fr.of_below ((IsDrew.one _ _).below _) F
  case rest =>
    obtain ⟨D', dr', dc', F', hD', hm', hfr⟩ := hcut
    have hNx := hm'.nd x HX.out
    obtain ⟨y0, y1⟩ := hNx.cells
    have y2 := hNx.tabs_at 0 t (by rw [HT.out]; rfl)
    rw [HP.out] at y0
    have y3 : wc.cell? ⟨x.b, 1, none⟩ = some (.slice (some ⟨x.r, 0, none⟩) 1 x.c) := by rw [y1]; unfold Nd.lv; rw [HT.out]; rfl
    have HSp := Lib.hid fun (W : World) (hb : Below wc.heap.size wc W) => split_tb W ((hNx.later hb).tab t (by rw [HT.out]; simp)) (bit := (dp : Int))
    have HD := Lib.hid hD'
    have HM1 := Lib.hid hm'
    have HF1 := Lib.hid hfr
    clear hD' hm' hfr hNx y1 c0 c1 c2
    go_upto_region 3 with (fail)
    go_cut [4, 5] from 37 to 50 (fun a b W => ∃ ta ga tc gc, a = .pointer (some ⟨ta, 0, none⟩) ∧ b = .pointer (some ⟨tc, 0, none⟩) ∧ Below wc.heap.size wc W ∧ TB W ta ga seed (fun k => if sideI (hk seed k) dp = 0 then t.m k else none) ∧ TB W tc gc seed (fun k => if sideI (hk seed k) dp = 1 then t.m k else none) ∧
      (wc.heap.size ≤ ta ∧ wc.heap.size ≤ ga ∧ wc.heap.size ≤ tc ∧ wc.heap.size ≤ gc ∧ ta ≠ tc ∧ ga ≠ gc ∧ ga ≠ tc ∧ gc ≠ ta))
    case first =>
      go_region_law (go_simp; go_at_call 28; refine (HSp.out _ ((Below.refl _ _).drew)).mono ?_; rintro e w5 ⟨ta, ga, tc, gc, rfl, hb5, hTa, hTc, hd⟩)
      all_goals
        go_wp2
        go_meet
        case rel => exact ⟨ta, ga, tc, gc, rfl, rfl, ((Below.refl wc.heap.size wc).drew).trans hb5, hTa, hTc, hd⟩
    case rest =>
      obtain ⟨ta, ga, tc, gc, rfl, rfl, hb, hTa, hTc, hlo⟩ := hcut
      have z0 := (HM1.out.step hb).nd x HX.out
      have z1 := z0.cells.1
      rw [HP.out] at z1
      have hxl : x.b < wc.heap.size := z0.lt (.inl rfl)
      have hxl1 : x.b < wc.heap.size + 1 := by omega
      have hxl2 : x.b < wc.heap.size + 2 := by omega
      have hxl3 : x.b < wc.heap.size + 3 := by omega
      have hxl4 : x.b < wc.heap.size + 4 := by omega
      have hxl5 : x.b < wc.heap.size + 1 + 1 := by omega
      have hxl6 : x.b < wc.heap.size + 1 + 1 + 1 := by omega
      have hxl7 : x.b < wc.heap.size + 1 + 1 + 1 + 1 := by omega
      have HBE := Lib.hid hb
      have HTA := Lib.hid hTa
      have HTC := Lib.hid hTc
      have HLO := Lib.hid hlo
      clear hb hTa hTc hlo z0 y0 y2 y3 x0 x1
      go_upto_region 4 with (fail)
      go_cut [6] from 51 to 69 (fun s W => ∃ ba ra bb rb sb, s = .pointer (some ⟨sb, 0, none⟩) ∧ Sides wc W sb dp ta tc ba ra bb rb)
      case first =>
        go_region
        all_goals
          go_wp2
          go_meet
          case rel =>
            apply sides_ex
            case s => (refine fh_drew ?_; (repeat (first | (refine fh_new ?_; focus (simp; done)) | (refine fh_old ?_ ?_; focus (first | (simp; done) | (simp; omega))))))
            case a => (refine fh_drew ?_; (repeat (first | (refine fh_new ?_; focus (simp; done)) | (refine fh_old ?_ ?_; focus (first | (simp; done) | (simp; omega))))))
            case la => (refine fh_drew ?_; (repeat (first | (refine fh_new ?_; focus (simp; done)) | (refine fh_old ?_ ?_; focus (first | (simp; done) | (simp; omega))))))
            case b => (refine fh_drew ?_; (repeat (first | (refine fh_new ?_; focus (simp; done)) | (refine fh_old ?_ ?_; focus (first | (simp; done) | (simp; omega))))))
            case lb => (refine fh_drew ?_; (repeat (first | (refine fh_new ?_; focus (simp; done)) | (refine fh_old ?_ ?_; focus (first | (simp; done) | (simp; omega))))))
            case bel => exact five _ _ _ _ _ _
            case lo => omega
      case rest =>
        obtain ⟨ba, ra, bb, rb, sb, rfl, hS⟩ := hcut
        have hm3 := (HM1.out.step HBE.out).step hS.bel
        have hD' := HD.out
        have hp2 := pow16 (show D' ≤ 16 by omega)
        obtain ⟨_, _, c2, _⟩ := hm3.cells
        have z1 := ((hm3.nd x HX.out).cells).1
        rw [HP.out] at z1
        have hxr := ((hm3.apart HX.out).1 x.b (.inl rfl)).2
        have hdbr := hm3.dbr
        obtain ⟨cr, fr, hr⟩ := row_block hm3.row
        have hsr : sb ≠ dr' := type_ne hS.s hr (by decide)
        have s0 : wc.cell? ⟨sb, 0, none⟩ = some (.pointer (some ⟨ba, 0, none⟩)) := by rw [cell_of_row _ _ _ _ _ _ hS.s]; rfl
        have s1 : wc.cell? ⟨sb, 1, none⟩ = some (.pointer (some ⟨bb, 0, none⟩)) := by rw [cell_of_row _ _ _ _ _ _ hS.s]; rfl
        have hl1 : db < wc.heap.size := hm3.flt _ hm3.fdb
        have hl2 : x.b < wc.heap.size := hm3.flt _ (hm3.nf x HX.out _ (.inl rfl))
        have hl3 : sb < wc.heap.size := heap_lt' hS.s
        obtain ⟨nds', hnds'⟩ : ∃ nds', nds' = nds.set i ⟨ba, ra, 1, spA seed x.p, [⟨ta, ga, fun k => if sideI (hk seed k) dp = 0 then t.m k else none, t.ks.filter fun k => decide (sideI (hk seed k) dp = 0)⟩]⟩ ++ [⟨bb, rb, 1, spB seed x.p, [⟨tc, gc, fun k => if sideI (hk seed k) dp = 1 then t.m k else none, t.ks.filter fun k => decide (sideI (hk seed k) dp = 1)⟩]⟩] := ⟨_, rfl⟩
        have HNS := Lib.hid fun (j : Nat) => HO.out.node_split HM.out.ap HI.out (by rw [HP.out]; exact hd) ba ra 1 bb rb 1 [⟨ta, ga, fun k => if sideI (hk seed k) dp = 0 then t.m k else none, t.ks.filter fun k => decide (sideI (hk seed k) dp = 0)⟩] [⟨tc, gc, fun k => if sideI (hk seed k) dp = 1 then t.m k else none, t.ks.filter fun k => decide (sideI (hk seed k) dp = 1)⟩] j
        have HND := Lib.hid hnds'
        have hrow0 : wc.ownsRow 0 93 1 (.slice (some ⟨dr', 0, none⟩) (2 ^ D') dc') (2 ^ D') (mixV D' nds nds' 0) := by
          have e : mixV D' nds nds' 0 = dirV D' nds := by unfold mixV; rw [List.take_zero, List.drop_zero, List.nil_append]
          rw [e]; exact hm3.row
        have HM3 := Lib.hid hm3
        have HS := Lib.hid hS
        clear hm3 hS hnds' hr hD'
        generalize hN' : 2 ^ D' = N' at *
        have HN' := Lib.hid hN'
        clear hN'
        have HFZ : Hid (∀ wr : World, Touch wc wr dr' dr' → (wr.cell? ⟨db, 2, none⟩ = some (.slice (some ⟨dr', 0, none⟩) N' dc') ∧ wr.cell? ⟨x.b, 0, none⟩ = some (.int .i64 dp)) ∧ wr.cell? ⟨sb, 0, none⟩ = some (.pointer (some ⟨ba, 0, none⟩)) ∧ wr.cell? ⟨sb, 1, none⟩ = some (.pointer (some ⟨bb, 0, none⟩))) := by
          intro wr hT
          refine ⟨⟨?_, ?_⟩, ?_, ?_⟩
          · exact (World.cell?_of_block (a := ⟨db, 2, none⟩) (hT.block _ hl1 hdbr hdbr)).trans c2
          · exact (World.cell?_of_block (a := ⟨x.b, 0, none⟩) (hT.block _ hl2 hxr hxr)).trans z1
          · exact (World.cell?_of_block (a := ⟨sb, 0, none⟩) (hT.block _ hl3 hsr hsr)).trans s0
          · exact (World.cell?_of_block (a := ⟨sb, 1, none⟩) (hT.block _ hl3 hsr hsr)).trans s1
        have HNB : Hid (∀ wr : World, Touch wc wr dr' dr' → ∀ j, ∃ ca, wr.heap[nodeOf nds j]? = some (.cells ca 96 (0, 0))) := by
          intro wr hT j
          obtain ⟨z, _, _, hz, hzb⟩ := HO.out.node j
          rw [hzb]
          have h1 := (HM3.out.nd z hz).blk
          have h2 := ((HM3.out.apart hz).1 z.b (.inl rfl)).2
          exact ⟨_, (hT.block _ (heap_lt' h1) h2 h2).trans h1⟩
        obtain ⟨jn, hjn, hjs⟩ := info_nd
        have HJ := Lib.hid hjs
        clear hjs
        go_wp2
        go_loopw [75] (fun q wr => ∃ j : Nat, j ≤ N' ∧ q = .int .i64 j ∧ Touch wc wr dr' dr' ∧ wr.ownsRow 0 93 1 (.slice (some ⟨dr', 0, none⟩) N' dc') N' (mixV D' nds nds' j)) (fun q _ => N' - (intOf q).toNat)
        case atStart => exact ⟨0, by omega, rfl, Touch.refl _ _ _, hrow0⟩
        case round =>
          obtain ⟨j, hj, rfl, hT, hrow⟩ := hrel
          by_cases hlt : j < N'
          · obtain ⟨⟨k2, kx⟩, ks0, ks1⟩ := HFZ.out wr hT
            have kc : wr.cell? ⟨dr', j, none⟩ = some (.pointer (some ⟨nodeOf nds j, 0, none⟩)) := by
              rw [hrow.cellAt j (by omega)]; exact mix_at (by rw [HN'.out]; exact hlt)
            have kf := hrow.frozenAt j
            have hns := HNS.out j
            rw [← HND.out, HP.out] at hns
            have hbit := bit_i64 j dp (by omega)
            have hst := fun u => hrow.stored j u
            have HST := Lib.hid hst
            have HRW := Lib.hid hrow
            have HTT := Lib.hid hT
            have hnb := HNB.out wr hT j
            obtain ⟨z, _, _, hz, hzb⟩ := HO.out.node j
            have hxb := HNB.out wr hT 
            clear hst hrow hT hrow0 c2 z1 s0 s1 hxb hz hzb
            generalize hy : nodeOf nds j = y at *
            have HY := Lib.hid hy
            clear hy
            by_cases c : y = x.b
            · subst c
              rw [if_pos rfl] at hns
              have heq : (binOp .eql 93 (.pointer (some ⟨x.b, 0, none⟩)) (.pointer (some ⟨x.b, 0, none⟩))).run Try.prog wr = .ok (.bool true) wr := run_eql_ptr_same wr _ Try.underlying93 hjn
              by_cases b : j / 2 ^ dp % 2 = 0
              · rw [if_pos b] at hns
                have HB2 := Lib.hid hns
                rw [b] at hbit
                clear hns b
                go_wp2
                go_region
                all_goals
                  go_wp2
                  refine ⟨⟨j + 1, by omega, by go_num, (HTT.out.setCell ⟨dr', j, none⟩ (.inl rfl) _).drewN 1, ?_⟩, by simp [intOf]; omega⟩
                  rw [← mix_step (by rw [HN'.out]; exact hlt), HB2.out]
                  exact (HST.out _).1
              · rw [if_neg b] at hns
                have HB2 := Lib.hid hns
                rw [show j / 2 ^ dp % 2 = 1 by omega] at hbit
                clear hns b
                go_wp2
                go_region
                all_goals
                  go_wp2
                  refine ⟨⟨j + 1, by omega, by go_num, (HTT.out.setCell ⟨dr', j, none⟩ (.inl rfl) _).drewN 1, ?_⟩, by simp [intOf]; omega⟩
                  rw [← mix_step (by rw [HN'.out]; exact hlt), HB2.out]
                  exact (HST.out _).1
            · have hxx : ∃ ca, wr.heap[x.b]? = some (.cells ca 96 (0, 0)) := by
                have h1 := (HM3.out.nd x HX.out).blk
                exact ⟨_, (HTT.out.block _ hl2 hxr hxr).trans h1⟩
              obtain ⟨ca, hca⟩ := hnb
              obtain ⟨cx, hcx⟩ := hxx
              have heq : (binOp .eql 93 (.pointer (some ⟨y, 0, none⟩)) (.pointer (some ⟨x.b, 0, none⟩))).run Try.prog wr = .ok (.bool false) wr := run_eql_ptr_other wr Try.underlying93 hjn HJ.out (by simp only [ne_eq, Addr.mk.injEq, and_true]; exact c) hca hcx
              rw [if_neg c] at hns
              have HB2 := Lib.hid hns
              clear hns hca hcx c
              go_wp2
              refine ⟨⟨j + 1, by omega, by go_num, HTT.out, ?_⟩, by simp [intOf]; omega⟩
              rw [mix_same (by rw [HN'.out]; exact hlt) (by rw [HY.out]; exact HB2.out)]
              exact HRW.out
          · obtain rfl : j = N' := by omega
            go_wp2
            refine bodyPost_end (results_none rfl _ _ _) rfl ?_
            refine ⟨rfl, nds', dr', dc', ?_⟩
            have hDeq := HD.out
            have hsp := HO.out.split (seed := seed) (ta := ⟨ta, ga, fun k => if sideI (hk seed k) dp = 0 then t.m k else none, t.ks.filter fun k => decide (sideI (hk seed k) dp = 0)⟩) (tc := ⟨tc, gc, fun k => if sideI (hk seed k) dp = 1 then t.m k else none, t.ks.filter fun k => decide (sideI (hk seed k) dp = 1)⟩) (ba := ba) (ra := ra) (ca := 1) (bb := bb) (rb := rb) (cb := 1) HI.out (by rw [HP.out]; exact hd) HT.out (by rw [HP.out]) (by rw [HP.out]) (by rw [HP.out]) (by rw [HP.out])
            rw [HP.out, ← HND.out] at hsp
            have hlo := HLO.out
            obtain ⟨F2, h6, h7⟩ := HM1.out.halves (i := i) (x := x) (ta := ⟨ta, ga, fun k => if sideI (hk seed k) dp = 0 then t.m k else none, t.ks.filter fun k => decide (sideI (hk seed k) dp = 0)⟩) (tc := ⟨tc, gc, fun k => if sideI (hk seed k) dp = 1 then t.m k else none, t.ks.filter fun k => decide (sideI (hk seed k) dp = 1)⟩) HBE.out (by rw [HP.out]; exact HS.out) hT (by
              rw [← HND.out, HN'.out]
              have e : mixV D' nds nds' j = dirV D' nds' := by
                unfold mixV
                rw [List.take_of_length_le (by rw [dirV_len, HN'.out]; omega), List.drop_eq_nil_of_le (by rw [dirV_len, HN'.out]; omega), List.append_nil]
              rw [← e]; exact hrow) HTA.out HTC.out ⟨hlo.1, hlo.2.1, hlo.2.2.1, hlo.2.2.2.1, hlo.2.2.2.2.1, hlo.2.2.2.2.2.1⟩
            rw [← HND.out, hDeq] at h6
            exact ⟨F2, hsp.2, h6, hsp.1, HF1.out.trans h7⟩
end
end Go.Proofs.Ytkkijcnipjojoaa
