/- Contracts of package dict: Put, New, Keys, Tables. -/
import Derived.Test.YtkkijcnipjojoaaDictSplit
import Derived.Test.YtkkijcnipjojoaaDictB
import Derived.Deep.LoopGhost
namespace Go.Proofs.Ytkkijcnipjojoaa
open Go.RowKit

section
variable {w : World} {db : Nat} {seed : Int} {S : Nat × List PartR} {F : Nat → Prop} {M : ByteArray → Option Int} {L : Nat} {key : ByteArray}
theorem info_tabp : (Try.prog.info? 23).map (fun i => (i.zero, i.size, i.bytes)) = some (some (.pointer none), 1, 8) := by kernel_rfl
theorem others_g {W W' : World} {db : Nat} {D n dr dc i : Nat} {nds : List Nd} {x : Nd} {a b : List Tb} {t : Tb} {g' : Nat} (h : DMem W db seed D n dr dc nds F) (hi : nds[i]? = some x) (hx : x.ts = a ++ t :: b) (hap : x.ts.Pairwise fun t s => t.t ≠ s.t ∧ t.g ≠ s.g)
    (hp : Puts W W' t.t t.g g') : ∀ s ∈ a ++ b, s.g ≠ g' := by
  intro s hs
  have hsx : s ∈ x.ts := by rw [hx]; rw [List.mem_append] at hs ⊢; rcases hs with hs | hs; exact .inl hs; exact .inr (List.mem_cons_of_mem _ hs)
  have hlt := h.flt _ (h.nf x (List.mem_of_getElem? hi) s.g (.inr (.inr ⟨s, hsx, .inr rfl⟩)))
  rcases hp.1 with e | e
  · rw [e]
    rw [hx, List.pairwise_append, List.pairwise_cons] at hap
    rw [List.mem_append] at hs
    rcases hs with hs | hs
    · exact (hap.2.2 s hs t (by simp)).2
    · exact fun e => (hap.2.1.1 s hs).2 e.symm
  · omega

/-- A key that is there is put. -/
theorem put_old {W : World} {D dr dc : Nat} {nds : List Nd} {x : Nd} {a b : List Tb} {t : Tb} (v : Int) (hkey : key.size ≤ 20) (hD : S.1 = D) (hp : prts nds = S.2) (hm : DMem W db seed D (allK S.2).length dr dc nds F) (ho : DOk seed D nds M L) (hw : Below w.heap.size w W)
    (hx : nds[pix (prts nds) (hN seed key)]? = some x) (ht : x.ts = a ++ t :: b) (hk : t.m key ≠ none) :
    Calls Try.prog 17 #[.pointer (some ⟨t.t, 0, none⟩), .string key, .int .i64 v] W fun e w' => e = .returned (.int .i64 0) ∧ ∃ F', Dct w' db seed (putS seed S key) (updM M key (some v)) F' (L + 2) ∧ Fr w w' F F' := by
  subst hD
  have hxm := List.mem_of_getElem? hx
  have htm : t ∈ x.ts := by rw [ht]; simp
  have hNd := ho.nd x hxm
  have hMk : key ∈ allK S.2 := by rw [← hp]; exact (ho.dom key).1 (by rw [ho.some_of hxm htm hk]; exact hk)
  refine (put_tb W ((hm.nd x hxm).tab t htm) (hNd.card t htm) key v (by unfold maxLen; omega) (.inl hk)).mono ?_
  rintro e w' ⟨rfl, g', hT, hP⟩
  obtain ⟨F', h1, h2⟩ := hm.put (t' := ⟨t.t, g', updM t.m key (some v), t.ks⟩) (p' := x.p) hx ht hNd.ap rfl hT hP rfl rfl
  have h3 := ho.set (t' := ⟨t.t, g', updM t.m key (some v), t.ks⟩) hx ht hk v rfl rfl rfl (others_g hm hx ht hNd.ap hP)
  have hS : putS seed S key = S := by unfold putS; rw [if_pos (inB'_iff.2 hMk)]
  have hpr : prts (nds.set (pix (prts nds) (hN seed key)) ⟨x.b, x.r, x.c, x.p, a ++ (⟨t.t, g', updM t.m key (some v), t.ks⟩ : Tb) :: b⟩) = S.2 := by
    rw [prts_set]; simp only; rw [set_self (prts_get hx), hp]
  rw [hS]
  exact ⟨rfl, F', Dct.le ⟨_, dr, dc, hpr, h1, h3⟩ (by omega), (Fr.of_below hw F).trans h2⟩

/-- A key that is not there is put into a table that has room. -/
theorem put_new {W : World} {dr dc L' : Nat} {T : Nat × List PartR} {nds : List Nd} {x : Nd} {a b : List Tb} {t : Tb} {F' : Nat → Prop} (v : Int) (hkey : key.size ≤ 20) (hS : SOk seed S.1 S.2) (hMk : M key = none) (hG : GrowI seed (hN seed key) S T) (hp : prts nds = T.2)
    (hm : DMem W db seed T.1 (allK S.2).length dr dc nds F') (ho : DOk seed T.1 nds M L') (hL : L' + 1 ≤ L) (hfr : Fr w W F F') (hx : nds[pix (prts nds) (hN seed key)]? = some x) (ht : x.ts = a ++ t :: b) (hr : t.ks.length < 112) :
    Calls Try.prog 17 #[.pointer (some ⟨t.t, 0, none⟩), .string key, .int .i64 v] (W.setCell ⟨db, 3, none⟩ (.int .i64 (((allK S.2).length + 1 : Nat) : Int))) fun e w' =>
      e = .returned (.int .i64 0) ∧ ∃ F', Dct w' db seed (putS seed S key) (updM M key (some v)) F' L ∧ Fr w w' F F' := by
  have hxm := List.mem_of_getElem? hx
  have htm : t ∈ x.ts := by rw [ht]; simp
  have hNd := ho.nd x hxm
  have h1 := hm.setN ((allK S.2).length + 1)
  have htn : t.m key = none := ho.no_of hxm hMk t htm
  refine (put_tb _ ((h1.nd x hxm).tab t htm) (hNd.card t htm) key v (by unfold maxLen; omega) (.inr hr)).mono ?_
  rintro e w' ⟨rfl, g', hT, hP⟩
  obtain ⟨F2, h2, h3⟩ := h1.put (t' := ⟨t.t, g', updM t.m key (some v), t.ks ++ [key]⟩) (p' := ⟨x.p.dep, x.p.bits, x.p.keys ++ [key]⟩) hx ht hNd.ap rfl hT hP rfl rfl
  have h4 := ho.add (t' := ⟨t.t, g', updM t.m key (some v), t.ks ++ [key]⟩) hx ht hMk hr hkey v rfl rfl rfl (others_g h1 hx ht hNd.ap hP)
  have hfull : x.p.keys.length < 112 ∨ 16 ≤ x.p.dep := by
    by_cases c : x.p.dep < 16
    · obtain ⟨t', ht', hl⟩ := hNd.one_len c
      rw [ht'] at htm
      rw [List.mem_singleton] at htm
      subst htm
      exact .inl (by omega)
    · exact .inr (by omega)
  have hpx : T.2[pix T.2 (hN seed key)]? = some x.p := by rw [← hp]; exact prts_get hx
  have hno : key ∉ allK T.2 := fun e => by rw [← hp] at e; exact ((ho.dom key).2 e) hMk
  have hnoS : key ∉ allK S.2 := fun e => hno ((hG.all key).2 e)
  have hput : putS seed S key = (T.1, T.2.set (pix T.2 (hN seed key)) ⟨x.p.dep, x.p.bits, x.p.keys ++ [key]⟩) := by
    unfold putS
    rw [if_neg (by rw [inB'_iff]; exact hnoS), hG.stop hpx hfull, addS_eq hpx]
  have hlen := hG.ok.add_len hpx hfull hno hkey
  have hpr : prts (nds.set (pix (prts nds) (hN seed key)) ⟨x.b, x.r, x.c, ⟨x.p.dep, x.p.bits, x.p.keys ++ [key]⟩, a ++ (⟨t.t, g', updM t.m key (some v), t.ks ++ [key]⟩ : Tb) :: b⟩) = T.2.set (pix T.2 (hN seed key)) ⟨x.p.dep, x.p.bits, x.p.keys ++ [key]⟩ := by
    rw [prts_set, hp]
  rw [hput]
  refine ⟨rfl, F2, Dct.le ⟨_, dr, dc, hpr, ?_, h4⟩ hL, (hfr.trans (Fr.setCell W _ _ hm.fdb)).trans h3⟩
  simp only
  rw [hlen, hG.len hS]
  exact h2

/-- A key that is not there is put into a table that is new. -/
theorem put_more {wr W w9 : World} {dr dc tb gb g cap len : Nat} {T : Nat × List PartR} {nds : List Nd} {x : Nd} {F' : Nat → Prop} (v : Int) (hkey : key.size ≤ 20) (hS : SOk seed S.1 S.2) (hMk : M key = none) (hG : GrowI seed (hN seed key) S T) (hp : prts nds = T.2)
    (hm : DMem wr db seed T.1 (allK S.2).length dr dc nds F') (ho : DOk seed T.1 nds M L) (hfr : Fr w wr F F') (hx : nds[pix (prts nds) (hN seed key)]? = some x) (hd : 16 ≤ x.p.dep) (hb : Below wr.heap.size wr W) (hT : TB W tb gb seed (fun _ => none))
    (ht : wr.heap.size ≤ tb) (hg : wr.heap.size ≤ gb) (hlen : x.ts.length = len) (h2 : w9.ownsRow 0 23 1 (.slice (some ⟨g, 0, none⟩) (len + 1) cap) (len + 1) (x.ts.map tabV ++ [.pointer (some ⟨tb, 0, none⟩)])) (h3 : W.grownBy w9 (some x.r))
    (h4 : some x.r = some g ∨ g = W.heap.size) (h5 : g < w9.heap.size) :
    Calls Try.prog 17 #[.pointer (some ⟨tb, 0, none⟩), .string key, .int .i64 v] ((w9.setCell ⟨x.b, 1, none⟩ (.slice (some ⟨g, 0, none⟩) (len + 1) cap)).setCell ⟨db, 3, none⟩ (.int .i64 (((allK S.2).length + 1 : Nat) : Int))) fun e w' =>
      e = .returned (.int .i64 0) ∧ ∃ F', Dct w' db seed (putS seed S key) (updM M key (some v)) F' (L + 2) ∧ Fr w w' F F' := by
  have hxm := List.mem_of_getElem? hx
  obtain ⟨F2, h6, h7⟩ := hm.more hx hb hT ht hg hlen h2 h3 h4 h5
  have h8 := ho.more (r := g) (c := cap) (t := ⟨tb, gb, fun _ => none, []⟩) hx hd rfl rfl (fun s hs => by
    have l1 := hm.flt _ (hm.nf x hxm s.t (.inr (.inr ⟨s, hs, .inl rfl⟩)))
    have l2 := hm.flt _ (hm.nf x hxm s.g (.inr (.inr ⟨s, hs, .inr rfl⟩)))
    simp only
    omega)
  have hpr : prts (nds.set (pix (prts nds) (hN seed key)) ⟨x.b, g, cap, x.p, x.ts ++ [⟨tb, gb, fun _ => none, []⟩]⟩) = prts nds := by
    rw [prts_set]; exact set_self (x := x.p) (prts_get hx)
  have hl := (List.getElem?_eq_some_iff.1 hx).1
  exact put_new (a := x.ts) (b := []) (t := ⟨tb, gb, fun _ => none, []⟩) (L := L + 2) v hkey hS hMk hG (hpr.trans hp) h6 h8 (by omega) (hfr.trans h7) (by rw [hpr]; exact set_here hl) rfl (by simp)

set_option maxRecDepth 100000 in
set_option maxHeartbeats 4000000 in
theorem put_d (h : Dct w db seed S M F L) (key : ByteArray) (hkey : key.size ≤ 20) (v : Int) (hL : L ≤ 1000000) :
    Calls Try.prog 34 #[.pointer (some ⟨db, 0, none⟩), .string key, .int .i64 v] w fun e w' => e = .returned (.int .i64 0) ∧ ∃ F', Dct w' db seed (putS seed S key) (updM M key (some v)) F' (L + 2) ∧ Fr w w' F F' := by
  have hS := h.sok
  have hfew := h.few
  obtain ⟨nds, dr, dc, hp, hm, ho⟩ := h
  obtain ⟨c0, _⟩ := hm.cells
  obtain ⟨x, hx, _, hxm, _⟩ := ho.node (hN seed key)
  have HH := Lib.hid (hash_hk seed key w (by unfold maxLen; omega))
  have HP := Lib.hid (place_x hm ho hx)
  cases hc : M key with
  | some u =>
    have hne : M key ≠ none := by rw [hc]; simp
    have HF := Lib.hid fun (W : World) (hb : Below w.heap.size w W) => find_yes ((hm.nd x hxm).later hb) key (by unfold maxLen; omega) (ho.yes_of hx hne)
    have HG := Lib.hid fun (W : World) (hb : Below w.heap.size w W) (a b : List Tb) (t : Tb) (ht : x.ts = a ++ t :: b) (hk : t.m key ≠ none) => put_old v hkey rfl hp (hm.step hb) ho hb hx ht hk
    clear hm ho hx hc hne hS hp hxm
    go_enter Try.func34, Try.ntmps34
    go_wp2_with (first | (go_at_call 63; refine HH.out.mono ?_; rintro e w1 ⟨rfl, rfl⟩) | (go_at_call 65; refine HP.out.mono ?_; rintro e w2 ⟨rfl, hb2⟩) | (go_at_call 66; refine (HF.out _ hb2).mono ?_; rintro e w3 ⟨⟨a, t, b, ht, hk, rfl⟩, hb3⟩; have hb4 := hb2.trans (hb3.mono hb2.size); have HT := Lib.hid ht; have HK := Lib.hid hk; clear ht hk) | (go_at_call 17; refine (HG.out _ hb4 a b t HT.out HK.out).mono ?_; rintro e w5 ⟨rfl, hE⟩))
    go_ret
    exact ⟨rfl, hE⟩
  | none =>
    have HF := Lib.hid fun (W : World) (hb : Below w.heap.size w W) => find_no ((hm.nd x hxm).later hb) key (by unfold maxLen; omega) (ho.no_of hxm hc)
    have HM := Lib.hid hm
    have HO := Lib.hid ho
    have HPR := Lib.hid hp
    have HS := Lib.hid hS
    have HC := Lib.hid hc
    clear hm ho hx hc hS hp hxm
    obtain ⟨iS, hiS, zS0, zS1, zS2⟩ := info_parts info_tabp
    generalize hq : (allK S.2).length = q at *
    have HQ := Lib.hid hq
    clear hq
    go_enter Try.func34, Try.ntmps34
    go_wp2_with (first | (go_at_call 63; refine HH.out.mono ?_; rintro e w1 ⟨rfl, rfl⟩) | (go_at_call 65; refine HP.out.mono ?_; rintro e w2 ⟨rfl, hb2⟩) | (go_at_call 66; refine (HF.out _ hb2).mono ?_; rintro e w3 ⟨rfl, hb3⟩; have hb4 := hb2.trans (hb3.mono hb2.size)))
    go_loopg [] 16 (fun k wr => ∃ T nds dr dc F' p, GrowI seed (hN seed key) S T ∧ prts nds = T.2 ∧ DMem wr db seed T.1 q dr dc nds F' ∧ DOk seed T.1 nds M L ∧ Fr w wr F F' ∧ T.2[pix T.2 (hN seed key)]? = some p ∧ 16 ≤ k + p.dep)
    case atStart =>
      obtain ⟨p, hp, _⟩ := HS.out.pix_at (hN seed key)
      exact ⟨S, nds, dr, dc, F, p, GrowI.start HS.out _, HPR.out, HM.out.step hb4, HO.out, Fr.of_below hb4 F, hp, by omega⟩
    case round =>
      obtain ⟨T, nds1, dr1, dc1, F1, p, hG, hpr, hm1, ho1, hfr, hpp, hdk⟩ := hrel
      obtain ⟨x1, hx1, _, hxm1, _⟩ := ho1.node (hN seed key)
      have hNd := ho1.nd x1 hxm1
      have HP1 := Lib.hid (place_x hm1 ho1 hx1)
      have HM1 := Lib.hid hm1
      have HO1 := Lib.hid ho1
      have HG1 := Lib.hid hG
      have HR1 := Lib.hid hpr
      have HFR := Lib.hid hfr
      have HX1 := Lib.hid hx1
      have HXM := Lib.hid hxm1
      have hpeq : x1.p = p := by
        have := prts_get hx1
        rw [hpr, hpp] at this
        simp only [Option.some.injEq] at this
        exact this.symm
      have hCd : Hid (∀ t ∈ x1.ts, Card t.m t.ks) := hNd.card
      have hCf : Hid (∀ t ∈ x1.ts, t.ks.length ≤ 112) := hNd.few
      have HND := Lib.hid hNd
      have HCE : Hid (∀ W, Below wr.heap.size wr W → (W.cell? ⟨db, 0, none⟩ = some (.int .u64 seed) ∧ W.cell? ⟨db, 3, none⟩ = some (.int .i64 q)) ∧ W.frozen? ⟨db, 3, none⟩ = false ∧ W.cell? ⟨x1.b, 0, none⟩ = some (.int .i64 (x1.p.dep : Nat)) ∧ W.cell? ⟨x1.b, 1, none⟩ = some x1.lv ∧ W.frozen? ⟨x1.b, 1, none⟩ = false) := fun W hb => by
        have h1 := HM1.out.step hb
        have h2 := (h1.nd x1 HXM.out)
        refine ⟨⟨h1.cells.1, h1.cells.2.2.2⟩, ?_, h2.cells.1, h2.cells.2, ?_⟩
        · unfold World.frozen?; rw [h1.blk]; rfl
        · unfold World.frozen?; rw [h2.blk]; rfl
      have HPQ := Lib.hid hpp
      have HPE := Lib.hid hpeq
      clear hm1 ho1 hG hpr hfr hx1 hxm1 hNd hpp hpeq
      by_cases hroom : ∃ t ∈ x1.ts, t.ks.length < 112
      · have HRM := Lib.hid fun (W : World) (hb : Below wr.heap.size wr W) => room_yes ((HM1.out.nd x1 HXM.out).later hb) hCd.out hCf.out hroom
        have HPN := Lib.hid fun (W : World) (hb : Below wr.heap.size wr W) (a b : List Tb) (t : Tb) (ht : x1.ts = a ++ t :: b) (hr : t.ks.length < 112) =>
          put_new (L := L + 2) v hkey HS.out HC.out HG1.out HR1.out (by rw [HQ.out]; exact HM1.out.step hb) HO1.out (by omega) (HFR.out.trans (Fr.of_below hb F1)) HX1.out ht hr
        rw [HQ.out] at HPN
        clear hroom
        go_wp2_with (first | (go_at_call 65; refine HP1.out.mono ?_; rintro e w6 ⟨rfl, hb6⟩) | (go_at_call 67; refine (HRM.out _ hb6).mono ?_; rintro e w7 ⟨⟨a, t, b, ht, hr, rfl⟩, rfl⟩; have HT := Lib.hid ht; have HK := Lib.hid hr; obtain ⟨⟨k0, k3⟩, kf, kx, kl, kg⟩ := HCE.out _ hb6; clear ht hr) | (go_at_call 17; refine (HPN.out _ hb6 a b t HT.out HK.out).mono ?_; rintro e w8 ⟨rfl, hE⟩))
        go_ret
        exact ⟨rfl, hE⟩
      · have hno : ∀ t ∈ x1.ts, ¬ t.ks.length < 112 := fun t ht e => hroom ⟨t, ht, e⟩
        have HRM := Lib.hid fun (W : World) (hb : Below wr.heap.size wr W) => room_no ((HM1.out.nd x1 HXM.out).later hb) hCd.out hCf.out hno
        have HNO := Lib.hid hno
        clear hroom hno
        by_cases hd : x1.p.dep < 16
        · have HSP := Lib.hid fun (W : World) (hb : Below wr.heap.size wr W) => split_d (HM1.out.step hb) HO1.out HX1.out hd
          have hd1 : ((x1.p.dep : Nat) : Int) < 16 := by omega
          go_wp2_with (first | (go_at_call 65; refine HP1.out.mono ?_; rintro e w6 ⟨rfl, hb6⟩) | (go_at_call 67; refine (HRM.out _ hb6).mono ?_; rintro e w7 ⟨rfl, rfl⟩; obtain ⟨⟨k0, k3⟩, kf, kx, kl, kg⟩ := HCE.out _ hb6) | (go_at_call 68; refine (HSP.out _ hb6).mono ?_; rintro e w8 ⟨rfl, nds2, dr2, dc2, F2, hs⟩; have HSS := Lib.hid hs; clear hs))
          go_roundg (gk - 1)
          case measure => rw [HPE.out] at hd; omega
          case rel =>
            have hpeq := HPE.out
            obtain ⟨h1, h2, h3, h4⟩ := HSS.out
            obtain ⟨t1, ht1, hl1⟩ := HND.out.one_len hd
            have hno := HNO.out t1 (by rw [ht1]; simp)
            have hpp := HPQ.out
            rw [hpeq] at h1 h2 h3 hd hl1
            rw [HR1.out] at h1
            obtain ⟨p2, hp2, hd2⟩ := HG1.out.ok.split_pix hpp hd
            exact ⟨_, nds2, dr2, dc2, F2, p2, HG1.out.step hpp (by omega) hd, h1, h2, h3, (HFR.out.trans (Fr.of_below hb6 F1)).trans h4, hp2, by omega⟩
        · obtain ⟨len, hlen⟩ : ∃ len, x1.ts.length = len := ⟨_, rfl⟩
          have hll := HO1.out.tabs x1 HXM.out
          rw [hlen] at hll
          have HLN := Lib.hid hlen
          have hlv : x1.lv = .slice (some ⟨x1.r, 0, none⟩) len x1.c := by unfold Nd.lv; rw [hlen]
          have HRW := Lib.hid fun (W : World) (hb : Below wr.heap.size wr W) => hlv ▸ hlen ▸ ((HM1.out.nd x1 HXM.out).later hb).row
          have HLV := Lib.hid hlv
          have HNT := Lib.hid fun (W : World) => new_tb seed W
          have hne : ¬ x1.b = db := ((HM1.out.apart HXM.out).1 x1.b (.inl rfl)).1
          have hne2 : ¬ db = x1.b := fun e => hne e.symm
          have hdge : 16 ≤ x1.p.dep := by omega
          have hd1 : ¬ ((x1.p.dep : Nat) : Int) < 16 := by omega
          have HG9 : Hid (∀ W, Below wr.heap.size wr W → ∀ w9, W.grownBy w9 (some x1.r) → (w9.cell? ⟨db, 3, none⟩ = some (.int .i64 q) ∧ w9.frozen? ⟨db, 3, none⟩ = false) ∧ w9.cell? ⟨x1.b, 1, none⟩ = some (.slice (some ⟨x1.r, 0, none⟩) len x1.c) ∧ w9.frozen? ⟨x1.b, 1, none⟩ = false) := by
            intro W hb w9 h3
            have h1 := HM1.out.step hb
            have h2 := h1.nd x1 HXM.out
            obtain ⟨cl, fl, hl⟩ := row_block h2.row
            have e1 := (h3.block db (h1.flt _ h1.fdb) (by simp only [ne_eq, Option.some.injEq]; exact fun e => ((h1.apart HXM.out).1 x1.r (.inr (.inl rfl))).1 e.symm)).trans h1.blk
            have e2 := (h3.block x1.b (heap_lt' h2.blk) (by simp only [ne_eq, Option.some.injEq]; exact type_ne h2.blk hl (by decide))).trans h2.blk
            refine ⟨⟨?_, ?_⟩, ?_, ?_⟩
            · rw [cell_of_row _ _ _ _ _ _ e1]; rfl
            · unfold World.frozen?; rw [e1]; rfl
            · rw [cell_of_row _ _ _ _ _ _ e2, ← HLV.out]; rfl
            · unfold World.frozen?; rw [e2]; rfl
          have HDM : Hid (DMem wr db seed T.1 (allK S.2).length dr1 dc1 nds1 F1) := by unfold Hid; rw [HQ.out]; exact HM1.out
          clear hlen hlv hd
          go_wp2_with (first | (go_at_call 65; refine HP1.out.mono ?_; rintro e w6 ⟨rfl, hb6⟩) | (go_at_call 67; refine (HRM.out _ hb6).mono ?_; rintro e w7 ⟨rfl, rfl⟩; obtain ⟨⟨k0, k3⟩, kf, kx, kl, kg⟩ := HCE.out _ hb6) | (go_at_call 15; refine (HNT.out _).mono ?_; rintro e w8 ⟨tb, gb, rfl, hgb, htb, hT, hb8⟩; have hs6 := hb6.size; have hb7 := hb6.trans (hb8.mono hs6); obtain ⟨⟨m0, m3⟩, mf, mx, ml, mg⟩ := HCE.out _ hb7; rw [HLV.out] at ml) | (at_builtin; refine wpList_append_lies _ rfl (.tmp 58) (.tmp 60) 94 rfl 0 23 iS (.pointer none) 1 8 Try.underlying94 hiS zS0 zS1 zS2 rfl (by decide) _ _ _ rfl (HRW.out _ (hb7.trans ((b_al8 w8 _).mono hb7.size))) ⟨w8.heap.size, 0, none⟩ 1 1 [.pointer (some ⟨tb, 0, none⟩)] rfl rfl (cell1 _ _ _) ptr_cell (by omega) (by unfold maxLen; omega) (by omega) (Nat.zero_le _) _ rfl ?_; intro g cap w9 h2 h3 h4 h5; obtain ⟨⟨n3, nf⟩, nl, ng⟩ := HG9.out _ (hb7.trans ((b_al8 w8 _).mono hb7.size)) w9 h3; have HPM := Lib.hid (put_more v hkey HS.out HC.out HG1.out HR1.out HDM.out HO1.out HFR.out HX1.out hdge (hb7.trans ((b_al8 w8 _).mono hb7.size)) (hT.later (b_al8 _ _)) (by omega) (by omega) HLN.out h2 h3 h4 h5); rw [HQ.out] at HPM; clear h2 h3 h4) | (go_at_call 17; refine HPM.out.mono ?_; rintro e w10 ⟨rfl, hE⟩))
          go_ret
          exact ⟨rfl, hE⟩
end

theorem new_mem {W : World} {seed : Int} {ra ba ca db tb gb : Nat} (hA : W.heap[ra]? = some (.cells #[.pointer (some ⟨tb, 0, none⟩)] 23 (0, 0))) (hB : W.heap[ba]? = some (.cells #[.int .i64 0, .slice (some ⟨ra, 0, none⟩) 1 1] 96 (0, 0)))
    (hC : W.heap[ca]? = some (.cells #[.pointer (some ⟨ba, 0, none⟩)] 93 (0, 0))) (hD : W.heap[db]? = some (.cells #[.int .u64 seed, .int .i64 0, .slice (some ⟨ca, 0, none⟩) 1 1, .int .i64 0] 99 (0, 0))) (hT : TB W tb gb seed (fun _ => none)) :
    Dct W db seed (0, [⟨0, 0, []⟩]) (fun _ => none) (fun k => k = ra ∨ k = ba ∨ k = ca ∨ k = db ∨ k = tb ∨ k = gb) 0 := by
  have lT := hT.lt
  have hX : NdAt W seed ⟨ba, ra, 1, ⟨0, 0, []⟩, [⟨tb, gb, fun _ => none, []⟩]⟩ := by
    refine ⟨hB, ⟨rfl, .inr ⟨ra, 1, _, rfl, Nat.zero_le _, hA, Nat.le_refl _, by unfold maxLen; omega, rfl, rfl⟩⟩, ?_⟩
    intro s hs; rw [List.mem_singleton] at hs; subst hs; exact hT
  refine ⟨[⟨ba, ra, 1, ⟨0, 0, []⟩, [⟨tb, gb, fun _ => none, []⟩]⟩], ca, 1, rfl, ⟨hD, ?_, ?_, ?_, Apart.one _ _, by simp, by simp, ?_⟩, ⟨SOk.start seed, ?_, ?_, by simp [allK], by simp⟩⟩
  · exact ⟨rfl, .inr ⟨ca, 1, _, rfl, Nat.zero_le _, hC, Nat.le_refl _, by unfold maxLen; omega, rfl, rfl⟩⟩
  · intro x hx; rw [List.mem_singleton] at hx; subst hx; exact hX
  · intro x hx; rw [List.mem_singleton] at hx; subst hx
    rintro k (e | e | ⟨s, hs, e⟩)
    · simp only at e; simp [e]
    · simp only at e; simp [e]
    · simp only [List.mem_singleton] at hs; subst hs; simp only at e; rcases e with e | e <;> simp [e]
  · rintro k (e | e | e | e | e | e) <;> subst e
    · exact heap_lt' hA
    · exact heap_lt' hB
    · exact heap_lt' hC
    · exact heap_lt' hD
    · exact lT.1
    · exact lT.2.1
  · intro x hx; rw [List.mem_singleton] at hx; subst hx
    refine ⟨?_, ?_, ?_, by simp [flatT], fun _ => rfl, by simp, by simp⟩
    · intro s hs; rw [List.mem_singleton] at hs; subst hs; exact Card.nil
    · intro s hs; rw [List.mem_singleton] at hs; subst hs; simp
    · intro s hs k v hk; rw [List.mem_singleton] at hs; subst hs; cases hk
  · intro k; simp [allK]

set_option maxRecDepth 100000 in
set_option maxHeartbeats 1000000 in
theorem new_d (seed : Int) (w : World) : Calls Try.prog 32 #[.int .u64 seed] w fun e w' =>
    ∃ db F, e = .returned (.pointer (some ⟨db, 0, none⟩)) ∧ Dct w' db seed (0, [⟨0, 0, []⟩]) (fun _ => none) F 0 ∧ Below w.heap.size w w' ∧ ∀ k, F k → w.heap.size ≤ k := by
  go_enter Try.func32, Try.ntmps32
  go_wp2_with (go_at_call 15; refine (new_tb _ _).mono ?_; rintro e w1 ⟨tb, gb, rfl, h1, h2, hT, hb⟩)
  have hs := hb.size
  have lT := hT.lt
  go_ret
  refine ⟨_, _, rfl, new_mem (tb := tb) (gb := gb) (ra := w1.heap.size) (ba := w1.heap.size + 1) (ca := w1.heap.size + 1 + 1) ?_ ?_ ?_ ?_ ?_, ?_, ?_⟩
  iterate 4 (focus (repeat (first | (refine fh_new ?_; focus (simp; done)) | (refine fh_old ?_ ?_; focus (first | (simp; done) | (simp; omega))))))
  · exact hT.later ((((b_al8 _ _).trans ((b_al8 _ _).mono (by simp))).trans ((b_al8 _ _).mono (by simp; omega))).trans ((b_al8 _ _).mono (by simp; omega)))
  · exact hb.trans (((((b_al8 w1 _).trans ((b_al8 _ _).mono (by simp))).trans ((b_al8 _ _).mono (by simp; omega))).trans ((b_al8 _ _).mono (by simp; omega))).mono hs)
  · rintro k (e | e | e | e | e | e) <;> subst e
    · omega
    · omega
    · omega
    · first | omega | (simp; omega)
    · omega
    · omega

section
variable {w : World} {db : Nat} {seed : Int} {S : Nat × List PartR} {F : Nat → Prop} {M : ByteArray → Option Int} {L : Nat}
theorem allK_eq (nds : List Nd) : allK (prts nds) = nds.flatMap fun x => x.p.keys := by unfold allK prts; rw [List.flatMap_map]
theorem upTo_len {α β : Type} {lf : Nat → List α} {g : β → List α} {l : List β} (h : ∀ j x, l[j]? = some x → (lf j).Perm (g x)) (n : Nat) (hn : n ≤ l.length) : (upTo lf n).Perm ((l.take n).flatMap g) := by
  induction n with
  | zero => simp [upTo]
  | succ n ih =>
    obtain ⟨t, ht⟩ : ∃ t, l[n]? = some t := ⟨_, List.getElem?_eq_getElem (by omega)⟩
    unfold upTo
    rw [List.take_add_one, ht]
    simp only [Option.toList_some, List.flatMap_append, List.flatMap_cons, List.flatMap_nil, List.append_nil]
    exact (ih (by omega)).append (h n t ht)
/-- All keys, node by node. -/
theorem nodes_lists {D n dr dc : Nat} {nds : List Nd} (hm : DMem w db seed D n dr dc nds F) (ho : DOk seed D nds M L) (hL : L ≤ 1000000) :
    ∃ lf : Nat → List ByteArray, (upTo lf (nlU nds (2 ^ D)).length).Perm (allK (prts nds)) ∧ (∀ j, j ≤ (nlU nds (2 ^ D)).length → (upTo lf j).length ≤ 1000000) ∧ ∀ j x, (nlU nds (2 ^ D))[j]? = some x →
      ∀ W, Below w.heap.size w W → Calls Try.prog 71 #[.pointer (some ⟨x.b, 0, none⟩)] W fun e w' => ∃ v, e = .returned v ∧ w'.ownsRow W.heap.size 9 1 v (lf j).length ((lf j).map Value.string) ∧ Below W.heap.size W w' := by
  have hperm := ho.nodes_perm
  have hmem : ∀ j x, (nlU nds (2 ^ D))[j]? = some x → x ∈ nds := fun j x hx => hperm.mem_iff.1 (List.mem_of_getElem? hx)
  have hsm : ∀ x ∈ nds, (flatT x.ts).length ≤ 1000000 := by
    intro x hx
    rw [(ho.nd x hx).perm.length_eq]
    have h1 := ho.few
    have h2 : x.p.keys.length ≤ (allK (prts nds)).length := (ho.ok.nodup _ (ho.part hx)).length_le_of_subset fun k hk => by unfold allK; exact List.mem_flatMap.2 ⟨x.p, ho.part hx, hk⟩
    omega
  have hex : ∀ j : Nat, ∃ l : List ByteArray, ∀ x : Nd, (nlU nds (2 ^ D))[j]? = some x → l.Perm x.p.keys ∧ ∀ W, Below w.heap.size w W → Calls Try.prog 71 #[.pointer (some ⟨x.b, 0, none⟩)] W fun e w' => ∃ v, e = .returned v ∧ w'.ownsRow W.heap.size 9 1 v l.length (l.map Value.string) ∧ Below W.heap.size W w' := by
    intro j
    cases hj : (nlU nds (2 ^ D))[j]? with
    | none => exact ⟨[], fun t ht => by cases ht⟩
    | some x =>
      have hx := hmem j x hj
      obtain ⟨l, h1, h2⟩ := keys_nd (hm.nd x hx) (ho.nd x hx).card (hsm x hx)
      exact ⟨l, fun x' hx' => by simp only [Option.some.injEq] at hx'; subst hx'; exact ⟨h1.trans (ho.nd x hx).perm, h2⟩⟩
  obtain ⟨lf, hlf⟩ := Classical.axiomOfChoice hex
  have hp : ∀ n, n ≤ (nlU nds (2 ^ D)).length → (upTo lf n).Perm (((nlU nds (2 ^ D)).take n).flatMap fun x => x.p.keys) := upTo_len fun j x hx => (hlf j x hx).1
  have hall : ((nlU nds (2 ^ D)).flatMap fun x => x.p.keys).Perm (allK (prts nds)) := by rw [allK_eq]; exact hperm.flatMap_right _
  refine ⟨lf, ?_, ?_, fun j x hx => (hlf j x hx).2⟩
  · have := hp _ (Nat.le_refl _)
    rw [List.take_of_length_le (Nat.le_refl _)] at this
    exact this.trans hall
  · intro j hj
    rw [(hp j hj).length_eq]
    have h1 := hall.length_eq
    conv at h1 => lhs; rw [← List.take_append_drop j (nlU nds (2 ^ D))]
    rw [List.flatMap_append, List.length_append] at h1
    have := ho.few
    omega
theorem node_ptr {W : World} {B N : Nat} {v : Value} {l : List Nd} (h : W.ownsRow B 93 1 v N (l.map ndV)) : ∃ a c, v = .slice a N c ∧ ∀ W', Below W.heap.size W W' → ∀ j x, l[j]? = some x → ∃ g, a = some ⟨g, 0, none⟩ ∧ W'.cell? ⟨g, j, none⟩ = some (.pointer (some ⟨x.b, 0, none⟩)) := by
  have hl := h.1
  rcases id h.2 with ⟨rfl, rfl⟩ | ⟨g, cap, cur, rfl, _⟩
  · refine ⟨none, 0, rfl, fun W' hW j x hx => ?_⟩
    have : l = [] := List.length_eq_zero_iff.1 (by simpa using hl)
    subst this
    simp at hx
  · refine ⟨_, cap, rfl, fun W' hW j x hx => ⟨g, rfl, ?_⟩⟩
    have hj := (List.getElem?_eq_some_iff.1 hx).1
    simp only [List.length_map] at hl
    rw [(owns_later h hW).cellAt j (by omega), List.getElem?_map, hx]
    rfl

set_option maxRecDepth 100000 in
set_option maxHeartbeats 1000000 in
theorem keys_dd (h : Dct w db seed S M F L) (hL : L ≤ 1000000) :
    Calls Try.prog 42 #[.pointer (some ⟨db, 0, none⟩)] w fun e w' => ∃ v l, e = .returned v ∧ w'.ownsRow w.heap.size 9 1 v l.length (l.map Value.string) ∧ List.Perm l (allK S.2) ∧ Below w.heap.size w w' := by
  obtain ⟨nds, dr, dc, hp, hm, ho⟩ := h
  obtain ⟨lf, h1, h2, h3⟩ := nodes_lists hm ho hL
  have HN := Lib.hid (nodes_d hm ho)
  rw [hp] at h1
  have HP := Lib.hid h1
  have HS := Lib.hid h2
  have HK := Lib.hid h3
  have hlen := nlU_len nds (2 ^ S.1)
  have hpw := pow16 ho.ok.dmax
  obtain ⟨iS, hiS, zS0, zS1, zS2⟩ := info_parts info_str
  clear h1 h2 h3 hm ho hp
  generalize nlU nds (2 ^ S.1) = nl at *
  generalize hn : nl.length = n at *
  have HE := Lib.hid hn
  clear hn
  go_enter Try.func42, Try.ntmps42
  go_wp2_with (go_at_call 75; refine HN.out.mono ?_; rintro e w1 ⟨v, rfl, o1, hb1⟩; obtain ⟨al, cl, rfl, hcl⟩ := node_ptr o1)
  have HC := Lib.hid hcl
  have HB1 := Lib.hid hb1
  have hs1 := hb1.size
  clear hcl o1 hb1
  go_loopw [3, 9] (fun v i wr => ∃ j : Nat, j ≤ n ∧ i = .int .i64 j ∧ wr.ownsRow w1.heap.size 9 1 v (upTo lf j).length ((upTo lf j).map Value.string) ∧ Below w1.heap.size w1 wr) (fun _ i _ => n - (intOf i).toNat)
  case atStart => exact ⟨0, by omega, rfl, World.ownsRow_nil _ _ _ _, Below.refl _ _⟩
  case round =>
    obtain ⟨j, hj, rfl, ho, hb⟩ := hrel
    by_cases hlt : j < n
    · obtain ⟨x, hx⟩ : ∃ x, nl[j]? = some x := ⟨_, List.getElem?_eq_getElem (by rw [HE.out]; exact hlt)⟩
      obtain ⟨g, rfl, hc⟩ := HC.out wr hb j x hx
      have hb0 : Below w.heap.size w wr := HB1.out.trans (hb.mono HB1.out.size)
      have HT := Lib.hid (HK.out j x hx wr hb0)
      have hsz := hb0.size
      have hsz1 := hb.size
      have hs1' := HS.out (j + 1) hlt
      have hs2 : (upTo lf j).length + (lf j).length = (upTo lf (j + 1)).length := by simp [upTo]
      obtain ⟨q, hq⟩ : ∃ q, q = (upTo lf (j + 1)).length := ⟨_, rfl⟩
      rw [← hq] at hs1' hs2
      have HB0 := Lib.hid hb0
      clear hx hq hb0
      go_wp2_with (first | (go_at_call 71; refine HT.out.mono ?_; rintro e w3 ⟨v2, rfl, o2, hb3⟩; have hsz3 := hb3.size) | (at_builtin; refine wpList_append_two _ rfl (.tmp 13) (.tmp 15) 39 rfl w1.heap.size 9 iS (.string ByteArray.empty) 16 Try.underlying39 hiS zS0 zS1 zS2 rfl _ _ _ rfl (owns_later ho hb3) _ _ _ _ rfl o2 (strs_one _) (by unfold maxLen; omega) (by omega) (by omega) ?_; intro v' w' o3 b3))
      go_roundw
      case rel =>
        refine ⟨j + 1, hlt, by go_num, ?_, ?_⟩
        · have e1 : (upTo lf (j + 1)).length = (upTo lf j).length + (lf j).length := by simp [upTo]
          have e2 : (upTo lf (j + 1)).map Value.string = (upTo lf j).map Value.string ++ (lf j).map Value.string := by simp [upTo]
          rw [e1, e2]
          exact o3
        · exact hb.trans ((hb3.mono hsz1).trans b3)
      case measure => simp [intOf]; omega
    · obtain rfl : j = n := by omega
      go_wp2
      go_ret
      exact ⟨_, _, rfl, owns_base ho HB1.out.size, HP.out, HB1.out.trans (hb.mono HB1.out.size)⟩

set_option maxRecDepth 100000 in
theorem tables_d (h : Dct w db seed S M F L) : Calls Try.prog 51 #[.pointer (some ⟨db, 0, none⟩)] w fun e w' => e = .returned (.int .i64 (S.2.length : Nat)) ∧ Below w.heap.size w w' := by
  obtain ⟨nds, dr, dc, hp, hm, ho⟩ := h
  have HN := Lib.hid (nodes_d hm ho)
  have hlen : (nlU nds (2 ^ S.1)).length = S.2.length := by
    rw [ho.nodes_perm.length_eq, ← hp]; simp [prts]
  have HL := Lib.hid hlen
  clear hm ho hlen
  go_enter Try.func51, Try.ntmps51
  go_wp2_with (go_at_call 75; refine HN.out.mono ?_; rintro e w1 ⟨v, rfl, o1, hb1⟩; obtain ⟨al, cl, rfl⟩ := owns_slice o1; rw [HL.out])
  go_ret
  exact ⟨rfl, hb1⟩
end

end Go.Proofs.Ytkkijcnipjojoaa
