/- Contracts of package dict: Put. -/
import Derived.Test.YtkkijcnipjojoaaDictSplit
import Derived.Test.YtkkijcnipjojoaaDictMore
import Derived.Deep.LoopGhost
namespace Go.Proofs.Ytkkijcnipjojoaa
open Go.RowKit

section
variable {w : World} {db : Nat} {seed : Int} {S : Nat × List PartR} {F : Nat → Prop} {M : ByteArray → Option Int} {L : Nat} {key : ByteArray}
theorem info_tabp : (Try.prog.info? 23).map (fun i => (i.zero, i.size, i.bytes)) = some (some (.pointer none), 1, 8) := by kernel_rfl
theorem others_g {W W' : World} {db : Nat} {D n dr dc i : Nat} {nds : List Nd} {x : Nd} {a b : List Tb} {t : Tb} {g' : Nat} (h : DMem W db seed D n dr dc nds F) (hi : nds[i]? = some x) (hx : x.ts = a ++ t :: b) (hap : x.ts.Pairwise fun t s => t.t ≠ s.t ∧ t.g ≠ s.g)
    (hp : Puts W W' t.t t.g g') : ∀ s ∈ a ++ b, s.g ≠ g' := by
  intro s hs
  have hsx : s ∈ x.ts := by rw [hx]; rw [List.mem_append] at hs ⊢; rcases hs with hs | hs; exact .inl hs; exact .inr (List.mem_cons_of_mem _ hs)
  have hlt := h.flt _ (h.nf x (List.mem_of_getElem? hi) s.g (.inr (.inr ⟨s, hsx, .inr rfl⟩)))
  rcases hp.1 with e | e
  · rw [e]
    rw [hx, List.pairwise_append, List.pairwise_cons] at hap
    rw [List.mem_append] at hs
    rcases hs with hs | hs
    · exact (hap.2.2 s hs t (by simp)).2
    · exact fun e => (hap.2.1.1 s hs).2 e.symm
  · omega

/-- A key that is there is put. -/
theorem put_old {W : World} {D dr dc : Nat} {nds : List Nd} {x : Nd} {a b : List Tb} {t : Tb} (v : Int) (hkey : key.size ≤ 20) (hD : S.1 = D) (hp : prts nds = S.2) (hm : DMem W db seed D (allK S.2).length dr dc nds F) (ho : DOk seed D nds M L) (hw : Below w.heap.size w W)
    (hx : nds[pix (prts nds) (hN seed key)]? = some x) (ht : x.ts = a ++ t :: b) (hk : t.m key ≠ none) :
    Calls Try.prog 17 #[.pointer (some ⟨t.t, 0, none⟩), .string key, .int .i64 v] W fun e w' => e = .returned (.int .i64 0) ∧ ∃ F', Dct w' db seed (putS seed S key) (updM M key (some v)) F' (L + 2) ∧ Fr w w' F F' := by
  subst hD
  have hxm := List.mem_of_getElem? hx
  have htm : t ∈ x.ts := by rw [ht]; simp
  have hNd := ho.nd x hxm
  have hMk : key ∈ allK S.2 := by rw [← hp]; exact (ho.dom key).1 (by rw [ho.some_of hxm htm hk]; exact hk)
  refine (put_tb W ((hm.nd x hxm).tab t htm) (hNd.card t htm) key v (by unfold maxLen; omega) (.inl hk)).mono ?_
  rintro e w' ⟨rfl, g', hT, hP⟩
  obtain ⟨F', h1, h2⟩ := hm.put (t' := ⟨t.t, g', updM t.m key (some v), t.ks⟩) (p' := x.p) hx ht hNd.ap rfl hT hP rfl rfl
  have h3 := ho.set (t' := ⟨t.t, g', updM t.m key (some v), t.ks⟩) hx ht hk v rfl rfl rfl (others_g hm hx ht hNd.ap hP)
  have hS : putS seed S key = S := by unfold putS; rw [if_pos (inB'_iff.2 hMk)]
  have hpr : prts (nds.set (pix (prts nds) (hN seed key)) ⟨x.b, x.r, x.c, x.p, a ++ (⟨t.t, g', updM t.m key (some v), t.ks⟩ : Tb) :: b⟩) = S.2 := by
    rw [prts_set]; simp only; rw [set_self (prts_get hx), hp]
  rw [hS]
  exact ⟨rfl, F', Dct.le ⟨_, dr, dc, hpr, h1, h3⟩ (by omega), (Fr.of_below hw F).trans h2⟩

/-- A key that is not there is put into a table that has room. -/
theorem put_new {W : World} {dr dc L' : Nat} {T : Nat × List PartR} {nds : List Nd} {x : Nd} {a b : List Tb} {t : Tb} {F' : Nat → Prop} (v : Int) (hkey : key.size ≤ 20) (hS : SOk seed S.1 S.2) (hMk : M key = none) (hG : GrowI seed (hN seed key) S T) (hp : prts nds = T.2)
    (hm : DMem W db seed T.1 (allK S.2).length dr dc nds F') (ho : DOk seed T.1 nds M L') (hL : L' + 1 ≤ L) (hfr : Fr w W F F') (hx : nds[pix (prts nds) (hN seed key)]? = some x) (ht : x.ts = a ++ t :: b) (hr : t.ks.length < 112) :
    Calls Try.prog 17 #[.pointer (some ⟨t.t, 0, none⟩), .string key, .int .i64 v] (W.setCell ⟨db, 3, none⟩ (.int .i64 (((allK S.2).length + 1 : Nat) : Int))) fun e w' =>
      e = .returned (.int .i64 0) ∧ ∃ F', Dct w' db seed (putS seed S key) (updM M key (some v)) F' L ∧ Fr w w' F F' := by
  have hxm := List.mem_of_getElem? hx
  have htm : t ∈ x.ts := by rw [ht]; simp
  have hNd := ho.nd x hxm
  have h1 := hm.setN ((allK S.2).length + 1)
  have htn : t.m key = none := ho.no_of hxm hMk t htm
  refine (put_tb _ ((h1.nd x hxm).tab t htm) (hNd.card t htm) key v (by unfold maxLen; omega) (.inr hr)).mono ?_
  rintro e w' ⟨rfl, g', hT, hP⟩
  obtain ⟨F2, h2, h3⟩ := h1.put (t' := ⟨t.t, g', updM t.m key (some v), t.ks ++ [key]⟩) (p' := ⟨x.p.dep, x.p.bits, x.p.keys ++ [key]⟩) hx ht hNd.ap rfl hT hP rfl rfl
  have h4 := ho.add (t' := ⟨t.t, g', updM t.m key (some v), t.ks ++ [key]⟩) hx ht hMk hr hkey v rfl rfl rfl (others_g h1 hx ht hNd.ap hP)
  have hfull : x.p.keys.length < 112 ∨ 16 ≤ x.p.dep := by
    by_cases c : x.p.dep < 16
    · obtain ⟨t', ht', hl⟩ := hNd.one_len c
      rw [ht'] at htm
      rw [List.mem_singleton] at htm
      subst htm
      exact .inl (by omega)
    · exact .inr (by omega)
  have hpx : T.2[pix T.2 (hN seed key)]? = some x.p := by rw [← hp]; exact prts_get hx
  have hno : key ∉ allK T.2 := fun e => by rw [← hp] at e; exact ((ho.dom key).2 e) hMk
  have hnoS : key ∉ allK S.2 := fun e => hno ((hG.all key).2 e)
  have hput : putS seed S key = (T.1, T.2.set (pix T.2 (hN seed key)) ⟨x.p.dep, x.p.bits, x.p.keys ++ [key]⟩) := by
    unfold putS
    rw [if_neg (by rw [inB'_iff]; exact hnoS), hG.stop hpx hfull, addS_eq hpx]
  have hlen := hG.ok.add_len hpx hfull hno hkey
  have hpr : prts (nds.set (pix (prts nds) (hN seed key)) ⟨x.b, x.r, x.c, ⟨x.p.dep, x.p.bits, x.p.keys ++ [key]⟩, a ++ (⟨t.t, g', updM t.m key (some v), t.ks ++ [key]⟩ : Tb) :: b⟩) = T.2.set (pix T.2 (hN seed key)) ⟨x.p.dep, x.p.bits, x.p.keys ++ [key]⟩ := by
    rw [prts_set, hp]
  rw [hput]
  refine ⟨rfl, F2, Dct.le ⟨_, dr, dc, hpr, ?_, h4⟩ hL, (hfr.trans (Fr.setCell W _ _ hm.fdb)).trans h3⟩
  simp only
  rw [hlen, hG.len hS]
  exact h2

/-- A key that is not there is put into a table that is new. -/
theorem put_more {wr W w9 : World} {dr dc tb gb g cap len : Nat} {T : Nat × List PartR} {nds : List Nd} {x : Nd} {F' : Nat → Prop} (v : Int) (hkey : key.size ≤ 20) (hS : SOk seed S.1 S.2) (hMk : M key = none) (hG : GrowI seed (hN seed key) S T) (hp : prts nds = T.2)
    (hm : DMem wr db seed T.1 (allK S.2).length dr dc nds F') (ho : DOk seed T.1 nds M L) (hfr : Fr w wr F F') (hx : nds[pix (prts nds) (hN seed key)]? = some x) (hd : 16 ≤ x.p.dep) (hb : Below wr.heap.size wr W) (hT : TB W tb gb seed (fun _ => none))
    (ht : wr.heap.size ≤ tb) (hg : wr.heap.size ≤ gb) (hlen : x.ts.length = len) (h2 : w9.ownsRow 0 23 1 (.slice (some ⟨g, 0, none⟩) (len + 1) cap) (len + 1) (x.ts.map tabV ++ [.pointer (some ⟨tb, 0, none⟩)])) (h3 : W.grownBy w9 (some x.r))
    (h4 : some x.r = some g ∨ g = W.heap.size) (h5 : g < w9.heap.size) :
    Calls Try.prog 17 #[.pointer (some ⟨tb, 0, none⟩), .string key, .int .i64 v] ((w9.setCell ⟨x.b, 1, none⟩ (.slice (some ⟨g, 0, none⟩) (len + 1) cap)).setCell ⟨db, 3, none⟩ (.int .i64 (((allK S.2).length + 1 : Nat) : Int))) fun e w' =>
      e = .returned (.int .i64 0) ∧ ∃ F', Dct w' db seed (putS seed S key) (updM M key (some v)) F' (L + 2) ∧ Fr w w' F F' := by
  have hxm := List.mem_of_getElem? hx
  obtain ⟨F2, h6, h7⟩ := hm.more hx hb hT ht hg hlen h2 h3 h4 h5
  have h8 := ho.more (r := g) (c := cap) (t := ⟨tb, gb, fun _ => none, []⟩) hx hd rfl rfl (fun s hs => by
    have l1 := hm.flt _ (hm.nf x hxm s.t (.inr (.inr ⟨s, hs, .inl rfl⟩)))
    have l2 := hm.flt _ (hm.nf x hxm s.g (.inr (.inr ⟨s, hs, .inr rfl⟩)))
    simp only
    omega)
  have hpr : prts (nds.set (pix (prts nds) (hN seed key)) ⟨x.b, g, cap, x.p, x.ts ++ [⟨tb, gb, fun _ => none, []⟩]⟩) = prts nds := by
    rw [prts_set]; exact set_self (x := x.p) (prts_get hx)
  have hl := (List.getElem?_eq_some_iff.1 hx).1
  exact put_new (a := x.ts) (b := []) (t := ⟨tb, gb, fun _ => none, []⟩) (L := L + 2) v hkey hS hMk hG (hpr.trans hp) h6 h8 (by omega) (hfr.trans h7) (by rw [hpr]; exact set_here hl) rfl (by simp)

set_option maxRecDepth 100000 in
set_option maxHeartbeats 4000000 in
theorem put_d (h : Dct w db seed S M F L) (key : ByteArray) (hkey : key.size ≤ 20) (v : Int) (hL : L ≤ 1000000) :
    Calls Try.prog 34 #[.pointer (some ⟨db, 0, none⟩), .string key, .int .i64 v] w fun e w' => e = .returned (.int .i64 0) ∧ ∃ F', Dct w' db seed (putS seed S key) (updM M key (some v)) F' (L + 2) ∧ Fr w w' F F' := by
  have hS := h.sok
  have hfew := h.few
  obtain ⟨nds, dr, dc, hp, hm, ho⟩ := h
  obtain ⟨c0, _⟩ := hm.cells
  obtain ⟨x, hx, _, hxm, _⟩ := ho.node (hN seed key)
  have HH := Lib.hid (hash_hk seed key w (by unfold maxLen; omega))
  have HP := Lib.hid (place_x hm ho hx)
  cases hc : M key with
  | some u =>
    have hne : M key ≠ none := by rw [hc]; simp
    have HF := Lib.hid fun (W : World) (hb : Below w.heap.size w W) => find_yes ((hm.nd x hxm).later hb) key (by unfold maxLen; omega) (ho.yes_of hx hne)
    have HG := Lib.hid fun (W : World) (hb : Below w.heap.size w W) (a b : List Tb) (t : Tb) (ht : x.ts = a ++ t :: b) (hk : t.m key ≠ none) => put_old v hkey rfl hp (hm.step hb) ho hb hx ht hk
    clear hm ho hx hc hne hS hp hxm
    go_enter Try.func34, Try.ntmps34
    go_wp2_with (first | (go_at_call 63; refine HH.out.mono ?_; rintro e w1 ⟨rfl, rfl⟩) | (go_at_call 65; refine HP.out.mono ?_; rintro e w2 ⟨rfl, hb2⟩) | (go_at_call 66; refine (HF.out _ hb2).mono ?_; rintro e w3 ⟨⟨a, t, b, ht, hk, rfl⟩, hb3⟩; have hb4 := hb2.trans (hb3.mono hb2.size); have HT := Lib.hid ht; have HK := Lib.hid hk; clear ht hk) | (go_at_call 17; refine (HG.out _ hb4 a b t HT.out HK.out).mono ?_; rintro e w5 ⟨rfl, hE⟩))
    go_ret
    exact ⟨rfl, hE⟩
  | none =>
    have HF := Lib.hid fun (W : World) (hb : Below w.heap.size w W) => find_no ((hm.nd x hxm).later hb) key (by unfold maxLen; omega) (ho.no_of hxm hc)
    have HM := Lib.hid hm
    have HO := Lib.hid ho
    have HPR := Lib.hid hp
    have HS := Lib.hid hS
    have HC := Lib.hid hc
    clear hm ho hx hc hS hp hxm
    obtain ⟨iS, hiS, zS0, zS1, zS2⟩ := info_parts info_tabp
    generalize hq : (allK S.2).length = q at *
    have HQ := Lib.hid hq
    clear hq
    go_enter Try.func34, Try.ntmps34
    go_wp2_with (first | (go_at_call 63; refine HH.out.mono ?_; rintro e w1 ⟨rfl, rfl⟩) | (go_at_call 65; refine HP.out.mono ?_; rintro e w2 ⟨rfl, hb2⟩) | (go_at_call 66; refine (HF.out _ hb2).mono ?_; rintro e w3 ⟨rfl, hb3⟩; have hb4 := hb2.trans (hb3.mono hb2.size)))
    go_loopg [] 16 (fun k wr => ∃ T nds dr dc F' p, GrowI seed (hN seed key) S T ∧ prts nds = T.2 ∧ DMem wr db seed T.1 q dr dc nds F' ∧ DOk seed T.1 nds M L ∧ Fr w wr F F' ∧ T.2[pix T.2 (hN seed key)]? = some p ∧ 16 ≤ k + p.dep)
    case atStart =>
      obtain ⟨p, hp, _⟩ := HS.out.pix_at (hN seed key)
      exact ⟨S, nds, dr, dc, F, p, GrowI.start HS.out _, HPR.out, HM.out.step hb4, HO.out, Fr.of_below hb4 F, hp, by omega⟩
    case round =>
      obtain ⟨T, nds1, dr1, dc1, F1, p, hG, hpr, hm1, ho1, hfr, hpp, hdk⟩ := hrel
      obtain ⟨x1, hx1, _, hxm1, _⟩ := ho1.node (hN seed key)
      have hNd := ho1.nd x1 hxm1
      have HP1 := Lib.hid (place_x hm1 ho1 hx1)
      have HM1 := Lib.hid hm1
      have HO1 := Lib.hid ho1
      have HG1 := Lib.hid hG
      have HR1 := Lib.hid hpr
      have HFR := Lib.hid hfr
      have HX1 := Lib.hid hx1
      have HXM := Lib.hid hxm1
      have hpeq : x1.p = p := by
        have := prts_get hx1
        rw [hpr, hpp] at this
        simp only [Option.some.injEq] at this
        exact this.symm
      have hCd : Hid (∀ t ∈ x1.ts, Card t.m t.ks) := hNd.card
      have hCf : Hid (∀ t ∈ x1.ts, t.ks.length ≤ 112) := hNd.few
      have HND := Lib.hid hNd
      have HCE : Hid (∀ W, Below wr.heap.size wr W → (W.cell? ⟨db, 0, none⟩ = some (.int .u64 seed) ∧ W.cell? ⟨db, 3, none⟩ = some (.int .i64 q)) ∧ W.frozen? ⟨db, 3, none⟩ = false ∧ W.cell? ⟨x1.b, 0, none⟩ = some (.int .i64 (x1.p.dep : Nat)) ∧ W.cell? ⟨x1.b, 1, none⟩ = some x1.lv ∧ W.frozen? ⟨x1.b, 1, none⟩ = false) := fun W hb => by
        have h1 := HM1.out.step hb
        have h2 := (h1.nd x1 HXM.out)
        refine ⟨⟨h1.cells.1, h1.cells.2.2.2⟩, ?_, h2.cells.1, h2.cells.2, ?_⟩
        · unfold World.frozen?; rw [h1.blk]; rfl
        · unfold World.frozen?; rw [h2.blk]; rfl
      have HPQ := Lib.hid hpp
      have HPE := Lib.hid hpeq
      clear hm1 ho1 hG hpr hfr hx1 hxm1 hNd hpp hpeq
      by_cases hroom : ∃ t ∈ x1.ts, t.ks.length < 112
      · have HRM := Lib.hid fun (W : World) (hb : Below wr.heap.size wr W) => room_yes ((HM1.out.nd x1 HXM.out).later hb) hCd.out hCf.out hroom
        have HPN := Lib.hid fun (W : World) (hb : Below wr.heap.size wr W) (a b : List Tb) (t : Tb) (ht : x1.ts = a ++ t :: b) (hr : t.ks.length < 112) =>
          put_new (L := L + 2) v hkey HS.out HC.out HG1.out HR1.out (by rw [HQ.out]; exact HM1.out.step hb) HO1.out (by omega) (HFR.out.trans (Fr.of_below hb F1)) HX1.out ht hr
        rw [HQ.out] at HPN
        clear hroom
        go_wp2_with (first | (go_at_call 65; refine HP1.out.mono ?_; rintro e w6 ⟨rfl, hb6⟩) | (go_at_call 67; refine (HRM.out _ hb6).mono ?_; rintro e w7 ⟨⟨a, t, b, ht, hr, rfl⟩, rfl⟩; have HT := Lib.hid ht; have HK := Lib.hid hr; obtain ⟨⟨k0, k3⟩, kf, kx, kl, kg⟩ := HCE.out _ hb6; clear ht hr) | (go_at_call 17; refine (HPN.out _ hb6 a b t HT.out HK.out).mono ?_; rintro e w8 ⟨rfl, hE⟩))
        go_ret
        exact ⟨rfl, hE⟩
      · have hno : ∀ t ∈ x1.ts, ¬ t.ks.length < 112 := fun t ht e => hroom ⟨t, ht, e⟩
        have HRM := Lib.hid fun (W : World) (hb : Below wr.heap.size wr W) => room_no ((HM1.out.nd x1 HXM.out).later hb) hCd.out hCf.out hno
        have HNO := Lib.hid hno
        clear hroom hno
        by_cases hd : x1.p.dep < 16
        · have HSP := Lib.hid fun (W : World) (hb : Below wr.heap.size wr W) => split_d (HM1.out.step hb) HO1.out HX1.out hd
          have hd1 : ((x1.p.dep : Nat) : Int) < 16 := by omega
          go_wp2_with (first | (go_at_call 65; refine HP1.out.mono ?_; rintro e w6 ⟨rfl, hb6⟩) | (go_at_call 67; refine (HRM.out _ hb6).mono ?_; rintro e w7 ⟨rfl, rfl⟩; obtain ⟨⟨k0, k3⟩, kf, kx, kl, kg⟩ := HCE.out _ hb6) | (go_at_call 68; refine (HSP.out _ hb6).mono ?_; rintro e w8 ⟨rfl, nds2, dr2, dc2, F2, hs⟩; have HSS := Lib.hid hs; clear hs))
          go_roundg (gk - 1)
          case measure => rw [HPE.out] at hd; omega
          case rel =>
            have hpeq := HPE.out
            obtain ⟨h1, h2, h3, h4⟩ := HSS.out
            obtain ⟨t1, ht1, hl1⟩ := HND.out.one_len hd
            have hno := HNO.out t1 (by rw [ht1]; simp)
            have hpp := HPQ.out
            rw [hpeq] at h1 h2 h3 hd hl1
            rw [HR1.out] at h1
            obtain ⟨p2, hp2, hd2⟩ := HG1.out.ok.split_pix hpp hd
            exact ⟨_, nds2, dr2, dc2, F2, p2, HG1.out.step hpp (by omega) hd, h1, h2, h3, (HFR.out.trans (Fr.of_below hb6 F1)).trans h4, hp2, by omega⟩
        · obtain ⟨len, hlen⟩ : ∃ len, x1.ts.length = len := ⟨_, rfl⟩
          have hll := HO1.out.tabs x1 HXM.out
          rw [hlen] at hll
          have HLN := Lib.hid hlen
          have hlv : x1.lv = .slice (some ⟨x1.r, 0, none⟩) len x1.c := by unfold Nd.lv; rw [hlen]
          have HRW := Lib.hid fun (W : World) (hb : Below wr.heap.size wr W) => hlv ▸ hlen ▸ ((HM1.out.nd x1 HXM.out).later hb).row
          have HLV := Lib.hid hlv
          have HNT := Lib.hid fun (W : World) => new_tb seed W
          have hne : ¬ x1.b = db := ((HM1.out.apart HXM.out).1 x1.b (.inl rfl)).1
          have hne2 : ¬ db = x1.b := fun e => hne e.symm
          have hdge : 16 ≤ x1.p.dep := by omega
          have hd1 : ¬ ((x1.p.dep : Nat) : Int) < 16 := by omega
          have HG9 : Hid (∀ W, Below wr.heap.size wr W → ∀ w9, W.grownBy w9 (some x1.r) → (w9.cell? ⟨db, 3, none⟩ = some (.int .i64 q) ∧ w9.frozen? ⟨db, 3, none⟩ = false) ∧ w9.cell? ⟨x1.b, 1, none⟩ = some (.slice (some ⟨x1.r, 0, none⟩) len x1.c) ∧ w9.frozen? ⟨x1.b, 1, none⟩ = false) := by
            intro W hb w9 h3
            have h1 := HM1.out.step hb
            have h2 := h1.nd x1 HXM.out
            obtain ⟨cl, fl, hl⟩ := row_block h2.row
            have e1 := (h3.block db (h1.flt _ h1.fdb) (by simp only [ne_eq, Option.some.injEq]; exact fun e => ((h1.apart HXM.out).1 x1.r (.inr (.inl rfl))).1 e.symm)).trans h1.blk
            have e2 := (h3.block x1.b (heap_lt' h2.blk) (by simp only [ne_eq, Option.some.injEq]; exact type_ne h2.blk hl (by decide))).trans h2.blk
            refine ⟨⟨?_, ?_⟩, ?_, ?_⟩
            · rw [cell_of_row _ _ _ _ _ _ e1]; rfl
            · unfold World.frozen?; rw [e1]; rfl
            · rw [cell_of_row _ _ _ _ _ _ e2, ← HLV.out]; rfl
            · unfold World.frozen?; rw [e2]; rfl
          have HDM : Hid (DMem wr db seed T.1 (allK S.2).length dr1 dc1 nds1 F1) := by unfold Hid; rw [HQ.out]; exact HM1.out
          clear hlen hlv hd
          go_wp2_with (first | (go_at_call 65; refine HP1.out.mono ?_; rintro e w6 ⟨rfl, hb6⟩) | (go_at_call 67; refine (HRM.out _ hb6).mono ?_; rintro e w7 ⟨rfl, rfl⟩; obtain ⟨⟨k0, k3⟩, kf, kx, kl, kg⟩ := HCE.out _ hb6) | (go_at_call 15; refine (HNT.out _).mono ?_; rintro e w8 ⟨tb, gb, rfl, hgb, htb, hT, hb8⟩; have hs6 := hb6.size; have hb7 := hb6.trans (hb8.mono hs6); obtain ⟨⟨m0, m3⟩, mf, mx, ml, mg⟩ := HCE.out _ hb7; rw [HLV.out] at ml) | (at_builtin; refine wpList_append_lies _ rfl (.tmp 58) (.tmp 60) 94 rfl 0 23 iS (.pointer none) 1 8 Try.underlying94 hiS zS0 zS1 zS2 rfl (by decide) _ _ _ rfl (HRW.out _ (hb7.trans ((b_al8 w8 _).mono hb7.size))) ⟨w8.heap.size, 0, none⟩ 1 1 [.pointer (some ⟨tb, 0, none⟩)] rfl rfl (cell1 _ _ _) ptr_cell (by omega) (by unfold maxLen; omega) (by omega) (Nat.zero_le _) _ rfl ?_; intro g cap w9 h2 h3 h4 h5; obtain ⟨⟨n3, nf⟩, nl, ng⟩ := HG9.out _ (hb7.trans ((b_al8 w8 _).mono hb7.size)) w9 h3; have HPM := Lib.hid (put_more v hkey HS.out HC.out HG1.out HR1.out HDM.out HO1.out HFR.out HX1.out hdge (hb7.trans ((b_al8 w8 _).mono hb7.size)) (hT.later (b_al8 _ _)) (by omega) (by omega) HLN.out h2 h3 h4 h5); rw [HQ.out] at HPM; clear h2 h3 h4) | (go_at_call 17; refine HPM.out.mono ?_; rintro e w10 ⟨rfl, hE⟩))
          go_ret
          exact ⟨rfl, hE⟩
end
end Go.Proofs.Ytkkijcnipjojoaa
