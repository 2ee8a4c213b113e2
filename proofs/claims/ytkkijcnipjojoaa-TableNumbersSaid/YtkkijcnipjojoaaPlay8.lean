/- The walk of tallboylaw8.play: calls on a table, by the program and by plain lists. -/
import Derived.Test.YtkkijcnipjojoaaPlayR26
import Derived.Test.YtkkijcnipjojoaaPlayR33
import Derived.Test.YtkkijcnipjojoaaPlayR34
import Derived.Deep.CutBlock
namespace Go.Proofs.Ytkkijcnipjojoaa
open Go.RowKit

/-- What stands at each round's head. -/
def PlayI (w wr : World) (tb : Nat) (seed : Int) (vk vv : Value) : Prop := ∃ gb m ks vs, PM w wr tb gb seed m ks vs vk vv ∧ Rel m ks vs ∧ ks.length ≤ 112

set_option maxRecDepth 100000 in
set_option maxHeartbeats 20000000 in
theorem play8_any (seed : Int) (v : Value) (zs : List AskR) (most : Int) (w : World) (hz : AsksAt w v zs) (hm0 : 0 ≤ most) (hm1 : most ≤ 100000) :
    Calls Try.prog 31 #[.int .u64 seed, v, .int .i64 most] w fun e w' => e = .returned (.bool true) ∧ Below w.heap.size w w' := by
  have HZ := Lib.hid fun (W : World) (hb : Below w.heap.size w W) => hz.grown hb
  obtain ⟨al, c, rfl, hl, _⟩ := hz
  unfold maxLen at hl
  go_enter Try.func31, Try.ntmps31
  go_wp2_with (go_at_call 15; refine (new_tb _ _).mono ?_; rintro e w1 ⟨tb, gb, rfl, h1, h2, hT, hb1⟩)
  have h0 : PlayI w w1 tb seed (.slice none 0 0) (.slice none 0 0) := by
    have s1 := hb1.size
    have lt := hT.lt
    exact ⟨gb, _, [], [], ⟨hT, World.ownsRow_nil _ _ _ _, World.ownsRow_nil _ _ _ _, fun q h => by simp [Value.ownBlock] at h, by simp [Value.ownBlock], by omega, hb1⟩, Rel.nil, by simp⟩
  clear hT hb1 h1 h2
  go_loopg [8, 9, 10] zs.length (fun g vk vv i wr => ∃ k : Nat, k + g = zs.length ∧ i = .int .i64 k ∧ PlayI w wr tb seed vk vv)
  case atStart => exact ⟨0, by omega, rfl, h0⟩
  case round =>
    clear h0
    obtain ⟨k, hkg, rfl, gb, m, ks, vs, hP, hR, hfew⟩ := hrel
    have HKG := Lib.hid hkg
    have hk : k ≤ zs.length := by omega
    clear hkg
    obtain ⟨ak, ck, rfl⟩ := owns_slice hP.ok
    obtain ⟨av, cv, hav⟩ := owns_slice hP.ov
    have hvl := hR.len
    rw [hvl] at hav
    subst hav
    have HVL := Lib.hid hvl
    clear hvl
    by_cases hlt : k < zs.length ∧ (k : Int) < most
    · obtain ⟨hlt, hlt2⟩ := hlt
      obtain ⟨q, hq⟩ : ∃ q, zs[k]? = some q := ⟨zs[k], List.getElem?_eq_getElem hlt⟩
      obtain ⟨al', c', e1, _, hcells⟩ := HZ.out wr hP.bel
      obtain ⟨bq, oq, e2, q0, q1, q2, q3⟩ := hcells k q hq
      simp only [Value.slice.injEq] at e1
      obtain ⟨rfl, _, rfl⟩ := e1
      subst e2
      have HK : Hid (∀ W, Below w.heap.size w W → W.cell? ⟨bq, oq + k * 4, none⟩ = some (.int .i64 q.kind) ∧ W.cell? ⟨bq, oq + k * 4 + 2, none⟩ = some (.int .i64 q.v)) := fun W hW => by
        obtain ⟨al', c', e1, _, hcells⟩ := HZ.out W hW
        obtain ⟨b2, o2, e2, p0, _, p2, _⟩ := hcells k q hq
        simp only [Value.slice.injEq] at e1
        obtain ⟨rfl, _, rfl⟩ := e1
        simp only [Option.some.injEq, Addr.mk.injEq, and_true] at e2
        obtain ⟨rfl, rfl⟩ := e2
        exact ⟨p0, p2⟩
      clear hcells hq
      go_wp2_with (go_at_call 24; refine (key8_any _ _ _ _ _).mono ?_; rintro e w3 ⟨key, rfl, hks, hb3⟩; have P3 := hP.step hb3; obtain ⟨ka, kb⟩ := HK.out w3 P3.bel; have hkm : key.size ≤ maxLen := (by unfold maxLen; omega))
      have hcK : Hid (∀ j x, ks[j]? = some x → ∃ b off, ak = some ⟨b, off, none⟩ ∧ w3.cell? ⟨b, off + j, none⟩ = some (.string x)) := fun j x hj => by
        obtain ⟨a', c', e1, _, hc⟩ := (ReadsV.owns P3.ok).len
        simp only [Value.slice.injEq] at e1
        obtain ⟨rfl, _, rfl⟩ := e1
        exact hc j x hj
      go_loop [12, 13] (fun a j => ∃ n : Nat, n ≤ ks.length ∧ j = .int .i64 n ∧ a = .int .i64 (findN ks key n)) (fun _ j => ks.length - (intOf j).toNat)
      case atStart => exact ⟨0, by omega, rfl, rfl⟩
      case round =>
        obtain ⟨n, hn, rfl, rfl⟩ := hrel
        by_cases hln : n < ks.length
        · obtain ⟨x, hx⟩ : ∃ x, ks[n]? = some x := ⟨ks[n], List.getElem?_eq_getElem hln⟩
          obtain ⟨b, off, hab, hcell⟩ := hcK.out n x hx
          subst hab
          have HF : Hid (findN ks key (n + 1) = if x = key then (n : Int) else findN ks key n) := by
            unfold Hid; conv => lhs; unfold findN
            rw [hx]; simp only [Option.some.injEq]
          clear hx
          by_cases ce : x = key
          · have HE := bytes_eq ce
            go_wp2
            go_round
            case rel => exact ⟨n + 1, by omega, by go_num, by rw [HF.out, if_pos ce]⟩
            case measure => simp [intOf]; omega
          · have HE := str_ne ce
            go_wp2
            go_round
            case rel => exact ⟨n + 1, by omega, by go_num, by rw [HF.out, if_neg ce]⟩
            case measure => simp [intOf]; omega
        · obtain rfl : n = ks.length := by omega
          clear hln hn hcK
          have HR := Lib.hid hR
          obtain ⟨fa, hfa⟩ : ∃ fa, findN ks key ks.length = fa := ⟨_, rfl⟩
          rw [hfa]
          have HFA := Lib.hid hfa
          clear hfa
          go_upto_block 4 with (fail)
          go_cut [8, 9, 14, 15, 16] from 58 to 153 (fun vk vv a b c W => ∃ gb m ks vs, PM w W tb gb seed m ks vs vk vv ∧ Rel m ks vs ∧ ks.length ≤ 112)
          case first =>
            by_cases hin : key ∈ ks
            · obtain ⟨j, hj⟩ := List.mem_iff_getElem?.1 hin
              have hjl := (List.getElem?_eq_some_iff.1 hj).1
              have hfj : fa = (j : Int) := HFA.out.symm.trans (findN_some ks hR.card.1 key j hj _ hjl)
              subst hfj
              obtain ⟨x0, hx0, hmk⟩ := hR.at j key hj
              have HJ := Lib.hid hj
              have HX := Lib.hid hx0
              have HM := Lib.hid hmk
              clear hR hj hx0 hmk hin
              have hov := P3.ov
              rw [HVL.out] at hov
              obtain ⟨gv, rfl⟩ : ∃ gv, av = some ⟨gv, 0, none⟩ := by
                rcases hov.2 with ⟨_, h0⟩ | ⟨g, cap, cur, hv, _⟩
                · omega
                · simp only [Value.slice.injEq] at hv; exact ⟨g, hv.1⟩
              have cj : w3.cell? ⟨gv, j, none⟩ = some (.int .i64 x0) := by
                rw [hov.cellAt j (by omega), List.getElem?_map, HX.out]; rfl
              have fj := hov.frozenAt j
              have hbq : bq < w.heap.size := block_of_cell (HK.out w (Below.refl _ _)).1
              have hgv := (hov.lt gv rfl)
              have hne1 : ¬ bq = gv := by omega
              have hne2 : ¬ gv = bq := by omega
              have hgv3 := hgv.2
              clear hov
              by_cases hk1 : q.kind = 1
              · as_aux_lemma =>
                  have c1 : (q.kind == 1) = true := by simp [hk1]
                  have P4 := P3.setV rfl j q.v
                  clear hk1
                  go_wp2_with (first | (go_at_call 17; (with_reducible refine (put_tb _ P4.tab HR.out.card key _ hkm (.inl (by rw [HM.out]; simp))).mono ?_); rintro e w5 ⟨rfl, g5, hT5, hp5⟩; have P5 := P4.puts hT5 hp5; have R5 := HR.out.set j key HJ.out q.v))
                  go_meet
                  case rel => exact ⟨_, _, _, _, P5, R5, hfew⟩
              · have c1 : (q.kind == 1) = false := by simp [hk1]
                by_cases hk2 : q.kind = 2
                · have c2 : (q.kind == 2) = true := by simp [hk2]
                  have HD := Lib.hid (HM.out ▸ delete_tb _ P3.tab key hkm)
                  clear hk1 hk2
                  obtain ⟨gq, rfl⟩ : ∃ gq, ak = some ⟨gq, 0, none⟩ := by
                    rcases P3.ok.2 with ⟨_, h0⟩ | ⟨g, cap, cur, hv, _⟩
                    · omega
                    · simp only [Value.slice.injEq] at hv; exact ⟨g, hv.1⟩
                  have hck := owns_cap P3.ok
                  have hcv : ks.length ≤ cv := owns_cap (own_len HVL.out P3.ov)
                  have hjv : j < vs.length := by have := HVL.out; omega
                  have hjw : ks.length - 1 = vs.length - 1 := by have := HVL.out; omega
                  have HJW := Lib.hid hjw
                  clear hjw
                  obtain ⟨iS, hiS, zS0, zS1, zS2⟩ := info_parts info_str
                  obtain ⟨iI, hiI, zI0, zI1, zI2⟩ := info_parts info_int8
                  go_wp2_with (go_at_call 18; refine HD.out.mono ?_; rintro e w5 ⟨rfl, hT5, hp5⟩; have P5 := P3.puts hT5 ⟨.inl rfl, hp5⟩; have R5 := HR.out.del j key HJ.out)
                  have R7 := Lib.hid R5
                  clear R5 HD hT5 hp5 cj fj P3 ka kb
                  go_upto_region 33 with (fail)
                  go_cut [8] from 134 to 143 (fun vk W => PM w W tb gb seed (updM m key none) (ks.eraseIdx j) vs vk (.slice (some ⟨gv, 0, none⟩) ks.length cv))
                  case first =>
                    refine reg33_any P5 HVL hjl hfew ?_
                    intro x134 x135 x136 x137 x138 x139 x140 x141 x142 x143 vk W hPM
                    dsimp only
                    go_step
                    go_meet
                    case rel => exact hPM
                  case rest =>
                    clear P5
                    obtain ⟨ak2, ck2, rfl⟩ := owns_slice hcut.ok
                    have PN := hcut
                    clear hcut
                    go_upto_region 34 with (fail)
                    refine reg34_any PN HVL hjl hfew ?_
                    intro x144 x145 x146 x147 x148 x149 x150 x151 x152 x153 vv W hcut
                    dsimp only
                    go_step
                    go_meet
                    case rel => exact ⟨_, _, _, _, hcut, R7.out, by rw [List.length_eraseIdx]; split <;> omega⟩
                · as_aux_lemma =>
                    have c2 : (q.kind == 2) = false := by simp [hk2]
                    have HG := Lib.hid (HM.out ▸ get_tb _ P3.tab key hkm)
                    clear hk1 hk2
                    go_wp2_with (first | (go_at_call 22; refine HG.out.mono ?_; rintro e w5 ⟨rfl, hb5⟩; have P5 := P3.step hb5; have R5 := HR.out; have cj5 : w5.cell? ⟨gv, j, none⟩ = some (.int .i64 x0) := ((hb5.cell (p := ⟨gv, j, none⟩) hgv3).trans cj)))
                    go_meet
                    case rel => exact ⟨_, _, _, _, P5, R5, hfew⟩
            · have hfj : fa = -1 := HFA.out.symm.trans (findN_none ks key hin ks.length)
              subst hfj
              have hmk : m key = none := by
                cases h : m key with
                | none => rfl
                | some x => exact absurd ((hR.card.2 key).2 (by rw [h]; simp)) hin
              have HM := Lib.hid hmk
              clear hR hmk hin
              by_cases hk1 : q.kind = 1
              · have c1 : (q.kind == 1) = true := by simp [hk1]
                clear hk1
                by_cases hfull : 112 ≤ ks.length
                · as_aux_lemma =>
                    go_wp2_with (first | (go_at_call 17; (with_reducible refine (put_full _ P3.tab HR.out.card key _ hkm HM.out hfull).mono ?_); rintro e w5 ⟨rfl, hT5, hp5⟩; have P5 := P3.puts hT5 ⟨.inl rfl, hp5⟩; have R5 := HR.out))
                    go_meet
                    case rel => exact ⟨_, _, _, _, P5, R5, hfew⟩
                · as_aux_lemma =>
                    have hfl : ks.length < 112 := by omega
                    clear hfull
                    have hneV : Hid (∀ r, w3.heap.size ≤ r → some r ≠ (Value.slice av ks.length cv).ownBlock) := fun r hr e => by have := (P3.ov.lt r e.symm).2; omega
                    have hneK : Hid (∀ r, w3.heap.size ≤ r → some r ≠ (Value.slice ak ks.length ck).ownBlock) := fun r hr e => by have := (P3.ok.lt r e.symm).2; omega
                    obtain ⟨iS, hiS, zS0, zS1, zS2⟩ := info_parts info_str
                    obtain ⟨iI, hiI, zI0, zI1, zI2⟩ := info_parts info_int8
                    have hlo3 := P3.lo.2.2
                    have hbq3 : bq < w3.heap.size := block_of_cell ka
                    go_upto_region 26 with (fail)
                    go_cut [8, 9] from 102 to 113 (fun vk vv W => PM w W tb gb seed m (ks ++ [key]) (vs ++ [q.v]) vk vv)
                    case first =>
                      refine reg26_any P3 HVL hfl hlt (Lib.hid fun W hW => (HK.out W hW).2) ?_
                      intro x102 x103 x104 x105 x106 x107 x108 x109 x110 x111 x112 x113 vk vv W hPM
                      dsimp only
                      go_step
                      go_meet
                      case rel => exact hPM
                    case rest =>
                      as_aux_lemma =>
                        have PZ := hcut
                        clear hcut
                        obtain ⟨ak2, ck2, rfl⟩ := owns_slice PZ.ok
                        obtain ⟨av2, cv2, rfl⟩ := owns_slice PZ.ov
                        have kbz := (HK.out _ PZ.bel).2
                        go_wp2_with (first | (go_at_call 17; (with_reducible refine (put_tb _ PZ.tab HR.out.card key _ hkm (.inr hfl)).mono ?_); rintro e w5 ⟨rfl, g5, hT5, hp5⟩; have P5 := PZ.puts hT5 hp5; have R5 := HR.out.add key HM.out q.v))
                        go_meet
                        case rel =>
                          simp only [List.length_append, List.length_cons, List.length_nil, Nat.zero_add] at P5
                          exact ⟨_, _, _, _, P5, R5, by simp; omega⟩
              · have c1 : (q.kind == 1) = false := by simp [hk1]
                by_cases hk2 : q.kind = 2
                · as_aux_lemma =>
                    have c2 : (q.kind == 2) = true := by simp [hk2]
                    have HD := Lib.hid (HM.out ▸ delete_tb _ P3.tab key hkm)
                    clear hk1 hk2
                    go_wp2_with (first | (go_at_call 18; refine HD.out.mono ?_; rintro e w5 ⟨rfl, hT5, hp5⟩; have P5 := P3.puts hT5 ⟨.inl rfl, hp5⟩; have R5 := HR.out.gone key HM.out))
                    go_meet
                    case rel => exact ⟨_, _, _, _, P5, R5, hfew⟩
                · as_aux_lemma =>
                    have c2 : (q.kind == 2) = false := by simp [hk2]
                    have HG := Lib.hid (HM.out ▸ get_tb _ P3.tab key hkm)
                    clear hk1 hk2
                    go_wp2_with (first | (go_at_call 22; refine HG.out.mono ?_; rintro e w5 ⟨rfl, hb5⟩; have P5 := P3.step hb5; have R5 := HR.out))
                    go_meet
                    case rel => exact ⟨_, _, _, _, P5, R5, hfew⟩
          case rest =>
            clear P3 hP hR HR ka kb
            obtain ⟨gb9, m9, ks9, vs9, P9, R9, hf9⟩ := hcut
            have R9' := Lib.hid R9
            have S9 := Lib.hid (sound8_any _ P9.tab R9.card _ (ReadsV.owns P9.ok))
            obtain ⟨ak9, ck9, rfl⟩ := owns_slice P9.ok
            clear R9
            go_wp2_with (go_at_call 30; refine S9.out.mono ?_; rintro e w6 ⟨rfl, hb6⟩; have P10 := P9.step hb6)
            all_goals
              go_roundg (gk - 1)
              case measure => have := HKG.out; omega
              case rel =>
                have := HKG.out
                first | exact ⟨k + 1, by omega, by go_num, _, _, _, _, P10, R9'.out, hf9⟩ | exact ⟨k + 1, by omega, by go_num, _, _, _, _, P9, R9'.out, hf9⟩
    · as_aux_lemma =>
        have HR := Lib.hid hR
        have HP := Lib.hid hP
        have hx : k < zs.length → most ≤ (k : Int) := fun h => by omega
        clear hR hlt
        by_cases hlt : k < zs.length
        · have hx' := hx hlt
          have hx2 : decide ((k : Int) < most) = false := by simp; omega
          clear hx
          go_wp2
          go_loopw [17] (fun i wt => ∃ j : Nat, j ≤ ks.length ∧ i = .int .i64 j ∧ PM w wt tb gb seed m ks vs (.slice ak ks.length ck) (.slice av ks.length cv)) (fun i _ => ks.length - (intOf i).toNat)
          case atStart => exact ⟨0, by omega, rfl, HP.out⟩
          case round =>
            clear HP hP
            obtain ⟨j, hj, rfl, hQ⟩ := hrel
            by_cases hjl : j < ks.length
            · obtain ⟨x, hx⟩ : ∃ x, ks[j]? = some x := ⟨ks[j], List.getElem?_eq_getElem hjl⟩
              obtain ⟨y, hy, hm⟩ := HR.out.at j x hx
              obtain ⟨a', c', e1, _, hc⟩ := (ReadsV.owns hQ.ok).len
              simp only [Value.slice.injEq] at e1
              obtain ⟨rfl, _, rfl⟩ := e1
              obtain ⟨b, off, e2, cx⟩ := hc j x hx
              obtain ⟨a', c', e1, _, hc2⟩ := ReadsV.owns hQ.ov
              simp only [Value.slice.injEq] at e1
              obtain ⟨rfl, hh, rfl⟩ := e1
              clear hh
              obtain ⟨b2, off2, e3, cy⟩ := hc2 j (.int .i64 y) (by rw [List.getElem?_map, hy]; rfl)
              subst e2 e3
              have hxs : x.size ≤ maxLen := by
                obtain ⟨S, hS, _⟩ := hQ.tab
                exact hS.ksz x y hm
              have hb2 := block_of_cell cy
              simp only at hb2
              have HG := Lib.hid (hm ▸ get_tb _ hQ.tab x hxs)
              clear hx hy hm hc hc2
              go_wp2_with (go_at_call 22; refine HG.out.mono ?_; rintro e w5 ⟨rfl, hb5⟩; have Q5 := hQ.step hb5; have cy5 : w5.cell? ⟨b2, off2 + j, none⟩ = some (.int .i64 y) := ((hb5.cell (p := ⟨b2, off2 + j, none⟩) hb2).trans cy))
              go_roundw
              case rel => first | exact ⟨j + 1, by omega, by go_num, Q5⟩ | ((repeat apply Exists.intro); exact ⟨⟨j + 1, by omega, by go_num, Q5⟩, rfl⟩)
              case measure => simp [intOf]; omega
            · obtain rfl : j = ks.length := by omega
              have S5 := Lib.hid (sound8_any _ hQ.tab HR.out.card _ (ReadsV.owns hQ.ok))
              go_wp2_with (go_at_call 30; refine S5.out.mono ?_; rintro e w6 ⟨rfl, hb6⟩; have Q6 := hQ.step hb6)
              go_ret
              exact ⟨rfl, Q6.bel⟩
        · clear hx
          go_wp2
          go_loopw [17] (fun i wt => ∃ j : Nat, j ≤ ks.length ∧ i = .int .i64 j ∧ PM w wt tb gb seed m ks vs (.slice ak ks.length ck) (.slice av ks.length cv)) (fun i _ => ks.length - (intOf i).toNat)
          case atStart => exact ⟨0, by omega, rfl, HP.out⟩
          case round =>
            clear HP hP
            obtain ⟨j, hj, rfl, hQ⟩ := hrel
            by_cases hjl : j < ks.length
            · obtain ⟨x, hx⟩ : ∃ x, ks[j]? = some x := ⟨ks[j], List.getElem?_eq_getElem hjl⟩
              obtain ⟨y, hy, hm⟩ := HR.out.at j x hx
              obtain ⟨a', c', e1, _, hc⟩ := (ReadsV.owns hQ.ok).len
              simp only [Value.slice.injEq] at e1
              obtain ⟨rfl, _, rfl⟩ := e1
              obtain ⟨b, off, e2, cx⟩ := hc j x hx
              obtain ⟨a', c', e1, _, hc2⟩ := ReadsV.owns hQ.ov
              simp only [Value.slice.injEq] at e1
              obtain ⟨rfl, hh, rfl⟩ := e1
              clear hh
              obtain ⟨b2, off2, e3, cy⟩ := hc2 j (.int .i64 y) (by rw [List.getElem?_map, hy]; rfl)
              subst e2 e3
              have hxs : x.size ≤ maxLen := by
                obtain ⟨S, hS, _⟩ := hQ.tab
                exact hS.ksz x y hm
              have hb2 := block_of_cell cy
              simp only at hb2
              have HG := Lib.hid (hm ▸ get_tb _ hQ.tab x hxs)
              clear hx hy hm hc hc2
              go_wp2_with (go_at_call 22; refine HG.out.mono ?_; rintro e w5 ⟨rfl, hb5⟩; have Q5 := hQ.step hb5; have cy5 : w5.cell? ⟨b2, off2 + j, none⟩ = some (.int .i64 y) := ((hb5.cell (p := ⟨b2, off2 + j, none⟩) hb2).trans cy))
              go_roundw
              case rel => first | exact ⟨j + 1, by omega, by go_num, Q5⟩ | ((repeat apply Exists.intro); exact ⟨⟨j + 1, by omega, by go_num, Q5⟩, rfl⟩)
              case measure => simp [intOf]; omega
            · obtain rfl : j = ks.length := by omega
              have S5 := Lib.hid (sound8_any _ hQ.tab HR.out.card _ (ReadsV.owns hQ.ok))
              go_wp2_with (go_at_call 30; refine S5.out.mono ?_; rintro e w6 ⟨rfl, hb6⟩; have Q6 := hQ.step hb6)
              go_ret
              exact ⟨rfl, Q6.bel⟩
end Go.Proofs.Ytkkijcnipjojoaa
