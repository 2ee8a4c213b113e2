/- The walk of DictDeletes: a dict is filled, emptied, filled again. -/
import Derived.Test.YtkkijcnipjojoaaNames10
namespace Go.Proofs.Ytkkijcnipjojoaa
open Go.RowKit

/-- A dict of a call's own. -/
structure OneD (w wr : World) (db : Nat) (seed : Int) (S : Nat × List PartR) (M : ByteArray → Option Int) (F : Nat → Prop) (L : Nat) : Prop where
  d : Dct wr db seed S M F L
  bel : Below w.heap.size w wr
  lo : w.heap.size ≤ wr.heap.size
  f : ∀ k, F k → w.heap.size ≤ k
section
variable {w wr w' : World} {db : Nat} {seed : Int} {S S' : Nat × List PartR} {M M' : ByteArray → Option Int} {F F' : Nat → Prop} {L L' : Nat}
theorem OneD.step (h : OneD w wr db seed S M F L) (hb : Below wr.heap.size wr w') : OneD w w' db seed S M F L :=
  ⟨h.d.step hb, h.bel.trans (hb.mono h.lo), Nat.le_trans h.lo hb.size, h.f⟩
theorem OneD.put (h : OneD w wr db seed S M F L) (hd : Dct w' db seed S' M' F' L') (hf : Fr wr w' F F') : OneD w w' db seed S' M' F' L' := by
  obtain ⟨b1, b2⟩ := hf.below h.lo h.f
  exact ⟨hd, h.bel.trans b1, Nat.le_trans h.lo hf.size, b2⟩
theorem OneD.le (h : OneD w wr db seed S M F L) (hL : L ≤ L') : OneD w wr db seed S M F L' := ⟨h.d.le hL, h.bel, h.lo, h.f⟩
theorem OneD.perm {g : Nat → ByteArray} {f : Nat → Int} {N hi : Nat} (h : OneD w wr db seed S M F L) (hn : NamesM g M 0 hi f) (hg : ∀ a b, a < N → b < N → g a = g b → a = b) (hN : hi ≤ N) : (allK S.2).Perm (namesL g hi) :=
  hn.perm hg hN h.d.sok.allK_nodup h.d.dom
end
theorem updM_twice (M : ByteArray → Option Int) (k : ByteArray) : updM (updM M k none) k none = updM M k none := by
  funext x; unfold updM; by_cases c : x = k
  · rw [if_pos c]; simp [c]
  · rw [if_neg c, if_neg c]
theorem nameInj : ∀ a b, a < 456976 → b < 456976 → nameS a = nameS b → a = b := fun _ _ ha hb h => nameS_inj ha hb h

set_option maxRecDepth 100000 in
set_option maxHeartbeats 4000000 in
theorem ddel_walk (seed n : Int) (w : World) : Calls Try.prog 13 #[.int .u64 seed, .int .i64 n] w fun e w' => e = .returned (.bool true) ∧ Below w.heap.size w w' := by
  have hb := within_bd n 0 400 (by omega)
  generalize hk : within n 0 400 = kk at *
  have HK := Lib.hid hk
  clear hk
  obtain ⟨hb0, hb1⟩ := hb
  obtain ⟨k, rfl⟩ := Int.eq_ofNat_of_zero_le hb0
  have hk4 : k ≤ 400 := by omega
  go_enter Try.func13, Try.ntmps13
  go_wp2_with (first | (go_at_call 32; refine (new_d _ _).mono ?_; rintro e w1 ⟨db, F, rfl, hD1, hb1, hF1⟩; have O1 : OneD w w1 db seed _ _ F 0 := ⟨hD1, hb1, hb1.size, hF1⟩; clear hD1 hb1 hF1) | (go_at_call 16; refine (within_any _ _ _ _ (by omega) (by omega) (by omega)).mono ?_; rintro e w' ⟨rfl, rfl⟩; rw [HK.out]))
  go_loopw [7] (fun i wr => ∃ j : Nat, j ≤ k ∧ i = .int .i64 j ∧ ∃ S M F, OneD w wr db seed S M F (2 * j) ∧ NamesM nameS M 0 j (fun i => (i : Int))) (fun i _ => k - (intOf i).toNat)
  case atStart => exact ⟨0, by omega, rfl, _, _, _, O1, NamesM.start _ _ _⟩
  case round =>
    clear O1
    obtain ⟨j, hj, rfl, S1, M1, F1, hO, hN⟩ := hrel
    have HNM := Lib.hid hN
    clear hN
    by_cases hlt : j < k
    · have hj4 : j ≤ 400 := by omega
      have HPU := Lib.hid fun (W : World) (F : Nat → Prop) (h : Dct W db seed S1 M1 F (2 * j)) => put_d h (nameS j) (nameS_size j) (j : Int) (by omega)
      go_wp2_with (first | (go_at_call 33; refine (name_any j _ (by omega)).mono ?_; rintro e w3 ⟨rfl, rfl⟩) | (go_at_call 34; refine (HPU.out _ _ hO.d).mono ?_; rintro e w4 ⟨rfl, F4, hD4, hf4⟩; have O4 := hO.put hD4 hf4))
      go_roundw
      case rel => exact ⟨j + 1, by omega, by go_num, _, _, _, O4, HNM.out.put nameInj (by omega) (by omega)⟩
      case measure => simp [intOf]; omega
    · obtain rfl : j = k := by omega
      have hS1 := hO.d.sok
      have hdom1 : Hid (∀ i, i < j → nameS i ∈ allK S1.2) := fun i hi => (hO.d.dom _).1 (by rw [HNM.out.has i (by omega) hi]; simp)
      have HS1 := Lib.hid hS1
      have HDE := Lib.hid fun (W : World) (F : Nat → Prop) (ps : List PartR) (M : ByteArray → Option Int) (L : Nat) (h : Dct W db seed (S1.1, ps) M F L) => depth_d h
      have HDE0 := Lib.hid (depth_d hO.d)
      have HTA0 := Lib.hid (tables_d hO.d)
      have h0 : ∃ ps M F, OneD w wr db seed (S1.1, ps) M F (2 * j) ∧ NamesM nameS M 0 j (fun i => (i : Int)) ∧ SubP ps S1.2 := ⟨S1.2, M1, F1, hO, HNM.out, SubP.refl _⟩
      have H0 := Lib.hid h0
      clear hS1 hO h0 HNM
      obtain ⟨D, PP⟩ := S1
      simp only at *
      obtain ⟨tn, htn⟩ : ∃ tn, tn = PP.length := ⟨_, rfl⟩
      have HTN := Lib.hid htn
      rw [← htn] at HTA0
      clear htn
      go_wp2_with (first | (go_at_call 35; refine HDE0.out.mono ?_; rintro e w5 ⟨rfl, rfl⟩) | (go_at_call 51; refine HTA0.out.mono ?_; rintro e w6 ⟨rfl, hb6⟩))
      go_loopw [10] (fun i wr => ∃ q : Nat, q ≤ j ∧ i = .int .i64 q ∧ ∃ ps M F, OneD w wr db seed (D, ps) M F (2 * j) ∧ NamesM nameS M q j (fun i => (i : Int)) ∧ SubP ps PP) (fun i _ => j - (intOf i).toNat)
      case atStart =>
        obtain ⟨ps, M, F, h1, h2, h3⟩ := H0.out
        exact ⟨0, by omega, rfl, ps, M, F, h1.step hb6, h2, h3⟩
      case round =>
        clear H0 hb6 HDE0 HTA0
        obtain ⟨q, hq, rfl, ps2, M2, F2, hO, hN, hP⟩ := hrel
        have HNM := Lib.hid hN
        have HSP := Lib.hid hP
        clear hN hP
        by_cases hlt2 : q < j
        · have hm1 := HNM.out.has q (Nat.le_refl _) hlt2
          have hm2 : updM M2 (nameS q) none (nameS q) = none := by simp [updM]
          have HD1 := Lib.hid fun (W : World) (F : Nat → Prop) (h : Dct W db seed (D, ps2) M2 F (2 * j)) => hm1 ▸ delete_d h (nameS q) (by have := nameS_size q; unfold maxLen; omega) (by omega)
          have HD2 := Lib.hid fun (W : World) (F : Nat → Prop) (h : Dct W db seed (D, delS seed ps2 (nameS q)) (updM M2 (nameS q) none) F (2 * j)) => updM_twice M2 (nameS q) ▸ hm2 ▸ delete_d h (nameS q) (by have := nameS_size q; unfold maxLen; omega) (by omega)
          have hs1 : Hid (SubP (delS seed (delS seed ps2 (nameS q)) (nameS q)) PP) := (HSP.out.del hO.d.sok _).del (hO.d.sok.del _).1 _
          clear hm1 hm2
          have tok1 : True := trivial
          have tok2 : True := trivial
          go_wp2_with (first | (go_at_call 33; refine (name_any q _ (by omega)).mono ?_; rintro e w3 ⟨rfl, rfl⟩) | (go_at_call 47; have _t := tok1; refine (HD1.out _ _ hO.d).mono ?_; rintro e w4 ⟨rfl, F4, hD4, hf4⟩; have O4 := hO.put hD4 hf4; clear tok1) | (go_at_call 47; have _t := tok2; refine (HD2.out _ _ O4.d).mono ?_; rintro e w5 ⟨rfl, F5, hD5, hf5⟩; have O5 := O4.put hD5 hf5; clear tok2))
          go_roundw
          case rel => exact ⟨q + 1, by omega, by go_num, _, _, _, O5, HNM.out.del nameInj (by omega) hlt2, hs1.out⟩
          case measure => simp [intOf]; omega
        · obtain rfl : q = j := by omega
          have hall : allK ps2 = [] := by
            rw [List.eq_nil_iff_forall_not_mem]
            intro x hx
            exact ((hO.d.dom x).2 hx) (HNM.out.gone x)
          have hlen0 : (allK ps2).length = 0 := by rw [hall]; rfl
          have HLE := Lib.hid (hlen0 ▸ len_d hO.d)
          have HDE1 := Lib.hid (HDE.out _ _ _ _ _ hO.d)
          have HTA := Lib.hid ((HSP.out.len.trans HTN.out.symm) ▸ tables_d hO.d)
          have HKE : Hid (∀ (W : World) (F : Nat → Prop), Dct W db seed (D, ps2) M2 F (2 * q) → Calls Try.prog 42 #[.pointer (some ⟨db, 0, none⟩)] W fun e w' => ∃ a c, e = .returned (.slice a 0 c) ∧ Below W.heap.size W w') := fun W F h => by
            refine (keys_dd h (by omega)).mono ?_
            rintro e w' ⟨v, l, rfl, ok, pk, bk⟩
            have hl : l.length = 0 := pk.length_eq.trans hlen0
            obtain ⟨a, c, rfl⟩ := owns_slice ok
            rw [hl]
            exact ⟨a, c, rfl, bk⟩
          have HN0 : Hid (NamesM nameS M2 0 0 (fun i => -(i : Int))) := ⟨fun j h1 h2 => by omega, fun k hk => absurd (HNM.out.gone k) hk⟩
          clear hall hlen0
          go_wp2_with (first | (go_at_call 50; refine HLE.out.mono ?_; rintro e w5 ⟨rfl, rfl⟩) | (go_at_call 35; refine HDE1.out.mono ?_; rintro e w5 ⟨rfl, rfl⟩) | (go_at_call 51; refine HTA.out.mono ?_; rintro e w6 ⟨rfl, hb6⟩; have O6 := hO.step hb6) | (go_at_call 42; refine (HKE.out _ _ O6.d).mono ?_; rintro e w7 ⟨ak, ck, rfl, hb7⟩; have O7 := O6.step hb7; clear O6 hO))
          go_loopg [11] q (fun g i wr => ∃ t : Nat, t + g = q ∧ i = .int .i64 t ∧ ∃ ps M F, OneD w wr db seed (D, ps) M F (2 * q + 2 * t) ∧ NamesM nameS M 0 t (fun i => -(i : Int)) ∧ SubP ps PP)
          case atStart => exact ⟨0, by omega, rfl, ps2, M2, F2, O7, HN0.out, HSP.out⟩
          case round =>
            clear O7 HKE HTA HDE1 HLE HSP HNM
            obtain ⟨t, ht, rfl, ps3, M3, F3, hO, hN, hP⟩ := hrel
            have HNM := Lib.hid hN
            have HT := Lib.hid ht
            have htq : t ≤ q := by omega
            clear hN ht
            by_cases hlt3 : t < q
            · have hno : nameS t ∉ allK ps3 := fun e => ((hO.d.dom _).2 e) (HNM.out.fresh nameInj (by omega))
              obtain ⟨ps4, hps, hP4⟩ := hP.put hO.d.sok HS1.out (hdom1.out t hlt3) hno
              have HP4 := Lib.hid hP4
              have HPU := Lib.hid fun (W : World) (F : Nat → Prop) (h : Dct W db seed (D, ps3) M3 F (2 * q + 2 * t)) => hps ▸ put_d h (nameS t) (nameS_size t) (-(t : Int)) (by omega)
              clear hno hps hP4 hP
              go_wp2_with (first | (go_at_call 33; refine (name_any t _ (by omega)).mono ?_; rintro e w3 ⟨rfl, rfl⟩) | (go_at_call 34; refine (HPU.out _ _ hO.d).mono ?_; rintro e w4 ⟨rfl, F4, hD4, hf4⟩; have O4 := hO.put hD4 hf4))
              go_roundg (gk - 1)
              case measure => have := HT.out; omega
              case rel => exact ⟨t + 1, by have := HT.out; omega, by go_num, _, _, _, O4, HNM.out.put nameInj (by omega) (by omega), HP4.out⟩
            · obtain rfl : t = q := by omega
              have HLE := Lib.hid fun (W : World) (F : Nat → Prop) (h : Dct W db seed (D, ps3) M3 F (2 * t + 2 * t)) => (((hO.perm HNM.out nameInj (by omega)).length_eq).trans (namesL_len _ _)) ▸ len_d h
              have HDE := Lib.hid fun (W : World) (F : Nat → Prop) (h : Dct W db seed (D, ps3) M3 F (2 * t + 2 * t)) => depth_d h
              clear hP
              go_wp2
              go_loopg [12] t (fun g i wr => ∃ u : Nat, u + g = t ∧ i = .int .i64 u ∧ OneD w wr db seed (D, ps3) M3 F3 (2 * t + 2 * t))
              case atStart => exact ⟨0, by omega, rfl, hO⟩
              case round =>
                clear hO
                obtain ⟨u, hu, rfl, hO⟩ := hrel
                have HU := Lib.hid hu
                have hut : u ≤ t := by omega
                clear hu
                by_cases hlt4 : u < t
                · have hm := HNM.out.has u (Nat.zero_le _) hlt4
                  have HGE := Lib.hid (hm ▸ get_d hO.d (nameS u) (by have := nameS_size u; unfold maxLen; omega))
                  clear hm
                  go_wp2_with (first | (go_at_call 33; refine (name_any u _ (by omega)).mono ?_; rintro e w3 ⟨rfl, rfl⟩) | (go_at_call 49; refine HGE.out.mono ?_; rintro e w4 ⟨rfl, hb4⟩; have O4 := hO.step hb4))
                  go_roundg (gk - 1)
                  case measure => have := HU.out; omega
                  case rel => exact ⟨u + 1, by have := HU.out; omega, by go_num, O4⟩
                · obtain rfl : u = t := by omega
                  go_wp2_with (first | (go_at_call 50; refine (HLE.out _ _ hO.d).mono ?_; rintro e w5 ⟨rfl, rfl⟩) | (go_at_call 35; refine (HDE.out _ _ hO.d).mono ?_; rintro e w5 ⟨rfl, rfl⟩) | (go_at_call 36; refine (known10_any _).mono ?_; rintro e w6 ⟨rfl, hb6⟩; have O6 := hO.step hb6))
                  go_ret
                  exact ⟨rfl, O6.bel⟩
end Go.Proofs.Ytkkijcnipjojoaa
