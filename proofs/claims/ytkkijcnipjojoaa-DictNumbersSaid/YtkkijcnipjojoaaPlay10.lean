/- The walks of tallboylaw10.play, DictPlays and DictNumbers. -/
import Derived.Test.YtkkijcnipjojoaaTells10
import Derived.Deep.CutBlock
import Derived.Test.YtkkijcnipjojoaaNames10
namespace Go.Proofs.Ytkkijcnipjojoaa
open Go.RowKit

/-- A dict and the document's, apart. -/
structure Both (w wr : World) (db rb : Nat) (seed : Int) (Sd Sr : Nat × List PartR) (M : ByteArray → Option Int) (F G : Nat → Prop) (L : Nat) : Prop where
  d : Dct wr db seed Sd M F L
  r : Rct wr rb seed Sr G L
  bel : Below w.heap.size w wr
  lo : w.heap.size ≤ wr.heap.size
  f : ∀ k, F k → w.heap.size ≤ k
  g : ∀ k, G k → w.heap.size ≤ k
  ap : ∀ k, F k → ¬ G k
section
variable {w wr w' : World} {db rb : Nat} {seed : Int} {Sd Sr Sd' Sr' S : Nat × List PartR} {M M' : ByteArray → Option Int} {F G F' G' : Nat → Prop} {L L' : Nat}
theorem Both.step (h : Both w wr db rb seed Sd Sr M F G L) (hb : Below wr.heap.size wr w') : Both w w' db rb seed Sd Sr M F G L :=
  ⟨h.d.step hb, h.r.step hb, h.bel.trans (hb.mono h.lo), Nat.le_trans h.lo hb.size, h.f, h.g, h.ap⟩
theorem Both.putD (h : Both w wr db rb seed Sd Sr M F G L) (hd : Dct w' db seed Sd' M' F' L') (hf : Fr wr w' F F') (hL : L ≤ L') : Both w w' db rb seed Sd' Sr M' F' G L' := by
  obtain ⟨b1, b2⟩ := hf.below h.lo h.f
  refine ⟨hd, (h.r.stay hf.size fun k hk => hf.block k (h.r.lt k hk) fun e => h.ap k e hk).le hL, h.bel.trans b1, Nat.le_trans h.lo hf.size, b2, h.g, fun k hk hy => ?_⟩
  rcases hf.new k hk with e | e
  · exact h.ap k e hy
  · have := h.r.lt k hy; omega
theorem Both.putR (h : Both w wr db rb seed Sd Sr M F G L) (hr : Rct w' rb seed Sr' G' L') (hf : Fr wr w' G G') (hL : L ≤ L') : Both w w' db rb seed Sd Sr' M F G' L' := by
  obtain ⟨b1, b2⟩ := hf.below h.lo h.g
  refine ⟨(h.d.stay hf.size fun k hk => hf.block k (h.d.lt.1 k hk) fun e => h.ap k hk e).le hL, hr, h.bel.trans b1, Nat.le_trans h.lo hf.size, h.f, b2, fun k hk hy => ?_⟩
  rcases hf.new k hy with e | e
  · exact h.ap k hk e
  · have := h.d.lt.1 k hk; omega
theorem Both.le (h : Both w wr db rb seed Sd Sr M F G L) (hL : L ≤ L') : Both w wr db rb seed Sd Sr M F G L' := ⟨h.d.le hL, h.r.le hL, h.bel, h.lo, h.f, h.g, h.ap⟩
theorem Both.has (h : Both w wr db rb seed S S M F G L) (key : ByteArray) : inB' S.2 key = (M key).isSome := by
  have hd := h.d.dom key
  cases hc : M key with
  | none =>
    cases hb : inB' S.2 key with
    | false => rfl
    | true => exact absurd hc (hd.2 (inB'_iff.1 hb))
  | some v =>
    exact inB'_iff.2 (hd.1 (by rw [hc]; simp))
end
def BothS (w wr : World) (db rb : Nat) (seed : Int) (L : Nat) : Prop := ∃ S M F G, Both w wr db rb seed S S M F G L
section
variable {w wr : World} {db rb : Nat} {seed : Int} {S : Nat × List PartR} {M : ByteArray → Option Int} {F G : Nat → Prop} {L : Nat} {key : ByteArray}
/-- The document's Put, then the dict's. -/
theorem both_putR (h : Both w wr db rb seed S S M F G L) (hkey : key.size ≤ 20) (hL : L ≤ 100000) : Calls Try.prog 44 #[.pointer (some ⟨rb, 0, none⟩), .string key] wr fun e w' => e = .returned (.tuple #[]) ∧ ∃ G', Both w w' db rb seed S (putS seed S key) M F G' (L + 1) := by
  refine (put_r h.r hkey (by omega)).mono ?_
  rintro e w' ⟨rfl, G', hr, hf⟩
  exact ⟨rfl, G', h.putR hr hf (by omega)⟩
theorem both_putD (h : Both w wr db rb seed S (putS seed S key) M F G (L + 1)) (hkey : key.size ≤ 20) (hL : L ≤ 100000) (v : Int) : Calls Try.prog 34 #[.pointer (some ⟨db, 0, none⟩), .string key, .int .i64 v] wr fun e w' => e = .returned (.int .i64 0) ∧ ∃ F', Both w w' db rb seed (putS seed S key) (putS seed S key) (updM M key (some v)) F' G (L + 2 + 1) := by
  refine (put_d h.d key hkey v (by omega)).mono ?_
  rintro e w' ⟨rfl, F', hd, hf⟩
  exact ⟨rfl, F', h.putD (hd.le (by omega)) hf (by omega)⟩
theorem both_delD {b : Bool} (h : Both w wr db rb seed S S M F G L) (hkey : key.size ≤ 20) (hL : L ≤ 100000) (hb : (M key).isSome = b) : Calls Try.prog 47 #[.pointer (some ⟨db, 0, none⟩), .string key] wr fun e w' => e = .returned (.bool b) ∧ ∃ F', Both w w' db rb seed (S.1, delS seed S.2 key) S (updM M key none) F' G L := by
  subst hb
  refine (delete_d h.d key (by unfold maxLen; omega) (by omega)).mono ?_
  rintro e w' ⟨rfl, F', hd, hf⟩
  exact ⟨rfl, F', h.putD hd hf (Nat.le_refl _)⟩
theorem both_delR {b : Bool} {S' : Nat × List PartR} {M' : ByteArray → Option Int} (h : Both w wr db rb seed S' S M' F G L) (hkey : key.size ≤ 20) (hL : L ≤ 100000) (hb : inB' S.2 key = b) : Calls Try.prog 84 #[.pointer (some ⟨rb, 0, none⟩), .string key] wr fun e w' => e = .returned (.bool b) ∧ ∃ G', Both w w' db rb seed S' (S.1, delS seed S.2 key) M' F G' L := by
  subst hb
  refine (delete_r h.r hkey (by omega)).mono ?_
  rintro e w' ⟨rfl, G', hr, hf⟩
  exact ⟨rfl, G', h.putR hr hf (Nat.le_refl _)⟩
theorem both_getN {v : Int} (h : Both w wr db rb seed S S (updM M key (some v)) F G L) (hkey : key.size ≤ 20) : Calls Try.prog 49 #[.pointer (some ⟨db, 0, none⟩), .string key] wr fun e w' => e = .returned (.tuple #[.int .i64 v, .bool true]) ∧ Below wr.heap.size wr w' := by
  have hm : updM M key (some v) key = some v := by simp [updM]
  have h1 := get_d h.d key (by unfold maxLen; omega)
  rw [hm] at h1
  exact h1
theorem both_get {b : Bool} (h : Both w wr db rb seed S S M F G L) (hkey : key.size ≤ 20) (hb : (M key).isSome = b) : Calls Try.prog 49 #[.pointer (some ⟨db, 0, none⟩), .string key] wr fun e w' => (∃ v : Int, e = .returned (.tuple #[.int .i64 v, .bool b])) ∧ Below wr.heap.size wr w' := by
  subst hb
  refine (get_d h.d key (by unfold maxLen; omega)).mono ?_
  rintro e w' ⟨rfl, hb⟩
  exact ⟨⟨_, rfl⟩, hb⟩
theorem both_has {b : Bool} (h : Both w wr db rb seed S S M F G L) (hkey : key.size ≤ 20) (hb : inB' S.2 key = b) : Calls Try.prog 82 #[.pointer (some ⟨rb, 0, none⟩), .string key] wr fun e w' => e = .returned (.bool b) ∧ IsDrew wr w' := by
  subst hb
  exact has_r h.r key (by unfold maxLen; omega)
end

set_option maxRecDepth 100000 in
set_option maxHeartbeats 4000000 in
theorem play10_any (seed : Int) (v : Value) (zs : List AskR) (most : Int) (w : World) (hz : AsksAt w v zs) (hm0 : 0 ≤ most) (hm1 : most ≤ 60) :
    Calls Try.prog 52 #[.int .u64 seed, v, .int .i64 most] w fun e w' => e = .returned (.bool true) ∧ Below w.heap.size w w' := by
  have HZ := Lib.hid fun (W : World) (hb : Below w.heap.size w W) => hz.grown hb
  obtain ⟨al, c, rfl, hl, _⟩ := hz
  unfold maxLen at hl
  go_enter Try.func52, Try.ntmps52
  go_wp2_with (first | (go_at_call 32; refine (new_d _ _).mono ?_; rintro e w1 ⟨db, F, rfl, hD, hb1, hf1⟩) | (go_at_call 43; refine (new_r _ _).mono ?_; rintro e w2 ⟨rb, G, rfl, hR, hb2, hg2⟩))
  have h0 : BothS w w2 db rb seed 0 := by
    have s1 := hb1.size
    have s2 := hb2.size
    refine ⟨_, _, F, G, hD.step hb2, hR, hb1.trans (hb2.mono s1), by omega, hf1, fun k hk => by have := hg2 k hk; omega, fun k hk hk2 => ?_⟩
    have := hD.lt.1 k hk
    have := hg2 k hk2
    omega
  clear hD hR hb1 hb2 hf1 hg2
  go_loopg [9, 10] zs.length (fun g av iv wr => ∃ k x : Nat, k + g = zs.length ∧ k ≤ 60 ∧ (k : Int) ≤ most ∧ iv = .int .i64 k ∧ av = .int .i64 x ∧ x ≤ 20 * k ∧ BothS w wr db rb seed (63 * k))
  case atStart => exact ⟨0, 0, by omega, by omega, by omega, rfl, rfl, by omega, h0⟩
  case round =>
    clear h0
    obtain ⟨k, x, hkg, hk60, hkm, rfl, rfl, hx20, S, M, F, G, hT⟩ := hrel
    have HKG := Lib.hid hkg
    have hk : k ≤ zs.length := by omega
    clear hkg
    by_cases hlt : k < zs.length ∧ (k : Int) < most
    · obtain ⟨hlt, hlt2⟩ := hlt
      obtain ⟨q, hq⟩ : ∃ q, zs[k]? = some q := ⟨zs[k], List.getElem?_eq_getElem hlt⟩
      obtain ⟨al', c', e1, _, hcells⟩ := HZ.out wr hT.bel
      obtain ⟨bq, oq, e2, q0, q1, q2, q3⟩ := hcells k q hq
      simp only [Value.slice.injEq] at e1
      obtain ⟨rfl, _, rfl⟩ := e1
      subst e2
      have HK : Hid (∀ W, Below w.heap.size w W → W.cell? ⟨bq, oq + k * 4, none⟩ = some (.int .i64 q.kind) ∧ W.cell? ⟨bq, oq + k * 4 + 2, none⟩ = some (.int .i64 q.v)) := fun W hW => by
        obtain ⟨al', c', e1, _, hcells⟩ := HZ.out W hW
        obtain ⟨b2, o2, e2, p0, _, p2, _⟩ := hcells k q hq
        simp only [Value.slice.injEq] at e1
        obtain ⟨rfl, _, rfl⟩ := e1
        simp only [Option.some.injEq, Addr.mk.injEq, and_true] at e2
        obtain ⟨rfl, rfl⟩ := e2
        exact ⟨p0, p2⟩
      clear hcells hq
      have HT := Lib.hid hT
      have hbl : Hid (63 * k ≤ 100000) := by unfold Hid; omega
      clear hT
      go_upto_block 1 with (fail)
      go_cut [9, 11, 12, 13, 14, 15, 16] from 34 to 110 (fun a _ _ _ _ _ _ W => ∃ x : Nat, a = .int .i64 x ∧ x ≤ 20 * (k + 1) ∧ BothS w W db rb seed (63 * (k + 1)))
      case first =>
        by_cases hk1 : q.kind = 1
        · have c1 : (q.kind == 1) = true := by simp [hk1]
          clear hk1
          go_wp2_with (first | (go_at_call 48; refine (key10_any _ _ _ _ _).mono ?_; rintro e w3 ⟨key, rfl, hks, hb3⟩; have T3 := Lib.hid (HT.out.step hb3); obtain ⟨ka, kb⟩ := HK.out w3 T3.out.bel; clear hb3) | (go_at_call 44; refine (both_putR T3.out hks hbl.out).mono ?_; rintro e w4 ⟨rfl, G4, hT4⟩; have T4 := Lib.hid hT4; clear hT4) | (go_at_call 34; refine (both_putD T4.out hks hbl.out _).mono ?_; rintro e w5 ⟨rfl, F5, hT5⟩; have T5 := Lib.hid hT5; clear hT5) | (go_at_call 49; refine (both_getN T5.out hks).mono ?_; rintro e w6 ⟨rfl, hb6⟩; have T6 := Lib.hid (T5.out.step hb6); clear hb6))
          go_meet
          case rel => exact ⟨x, rfl, by omega, _, _, _, _, T6.out.le (by omega)⟩
        · have c1 : (q.kind == 1) = false := by simp [hk1]
          by_cases hk2 : q.kind = 2
          · have c2 : (q.kind == 2) = true := by simp [hk2]
            clear hk1 hk2
            go_wp2_with (first | (go_at_call 48; refine (key10_any _ _ _ _ _).mono ?_; rintro e w3 ⟨key, rfl, hks, hb3⟩; have T3 := Lib.hid (HT.out.step hb3); obtain ⟨ka, kb⟩ := HK.out w3 T3.out.bel; obtain ⟨b, hb⟩ : ∃ b, (M key).isSome = b := ⟨_, rfl⟩; have HB := Lib.hid hb; have HB2 := Lib.hid ((HT.out.has key).trans hb); clear hb3 hb) | (go_at_call 47; refine (both_delD T3.out hks hbl.out HB.out).mono ?_; rintro e w4 ⟨rfl, F4, hT4⟩; have T4 := Lib.hid hT4; clear hT4) | (go_at_call 84; refine (both_delR T4.out hks hbl.out HB2.out).mono ?_; rintro e w5 ⟨rfl, G5, hT5⟩; have T5 := Lib.hid hT5; clear hT5))
            go_meet
            case rel => exact ⟨x, rfl, by omega, _, _, _, _, T5.out.le (by omega)⟩
          · have c2 : (q.kind == 2) = false := by simp [hk2]
            by_cases hk4 : q.kind = 4
            · have c4 : (q.kind == 4) = true := by simp [hk4]
              have hwb := within_bd q.v 0 20 (by omega)
              obtain ⟨wb0, wb1⟩ := hwb
              obtain ⟨jj, hjj⟩ := Int.eq_ofNat_of_zero_le wb0
              rw [hjj] at wb1
              have HJJ := Lib.hid hjj
              have hjl : jj ≤ 20 := by omega
              clear hk1 hk2 hk4 wb0 wb1 hjj
              go_wp2_with (first | (go_at_call 48; refine (key10_any _ _ _ _ _).mono ?_; rintro e w3 ⟨key, rfl, hks, hb3⟩; have T3 := Lib.hid (HT.out.step hb3); obtain ⟨ka, kb⟩ := HK.out w3 T3.out.bel; clear hb3) | (go_at_call 16; refine (within_any _ _ _ _ (by omega) (by omega) (by omega)).mono ?_; rintro e w4 ⟨rfl, rfl⟩; rw [HJJ.out]))
              go_loopg [9, 14] jj (fun g av jv wr => ∃ x2 : Nat, jv = .int .i64 (g : Nat) ∧ av = .int .i64 x2 ∧ x2 + g = x + jj ∧ g ≤ jj ∧ BothS w wr db rb seed (63 * k + 3 * (jj - g)))
              case atStart => exact ⟨x, rfl, rfl, rfl, Nat.le_refl _, by rw [Nat.sub_self]; exact ⟨_, _, _, _, T3.out⟩⟩
              case round =>
                obtain ⟨x2, rfl, rfl, hx2, hgj, S2, M2, F2, G2, hT2⟩ := hrel
                have HT2 := Lib.hid hT2
                have hx2b : x2 ≤ 1300 := by omega
                have HX2 := Lib.hid hx2
                clear hT2 hx2
                by_cases hg0 : 0 < gk
                · have hg1 : (0 : Int) < ((gk : Nat) : Int) := by omega
                  obtain ⟨y, hy⟩ : ∃ y, y = x2 + 1 := ⟨_, rfl⟩
                  have hxy : (x2 : Int) + 1 = (y : Int) := by omega
                  have HY := Lib.hid hy
                  have hyb : y ≤ 1400 := by omega
                  have hns := nameS_size y
                  have HNA := Lib.hid fun (W : World) => name_any y W (by omega)
                  have hb2 : Hid (63 * k + 3 * (jj - gk) ≤ 100000) := by unfold Hid; omega
                  clear hy
                  generalize nameS y = nk at *
                  have tok1 : True := trivial
                  have tok2 : True := trivial
                  go_wp2_with (first | (go_at_call 33; have _t := tok1; refine (HNA.out _).mono ?_; rintro e w5 ⟨rfl, rfl⟩; clear tok1) | (go_at_call 33; have _t := tok2; refine (HNA.out _).mono ?_; rintro e w5 ⟨rfl, rfl⟩; clear tok2) | (go_at_call 44; refine (both_putR HT2.out hns hb2.out).mono ?_; rintro e w6 ⟨rfl, G6, hT6⟩; have T6 := Lib.hid hT6; clear hT6) | (go_at_call 34; refine (both_putD T6.out hns hb2.out _).mono ?_; rintro e w7 ⟨rfl, F7, hT7⟩; have T7 := Lib.hid hT7; clear hT7))
                  go_roundg (gk - 1)
                  case measure => omega
                  case rel => exact ⟨y, by go_num, rfl, by have := HX2.out; have := HY.out; omega, by omega, _, _, _, _, T7.out.le (by omega)⟩
                · obtain rfl : gk = 0 := by omega
                  go_wp2
                  go_meet
                  case rel => exact ⟨x2, rfl, by have := HX2.out; omega, _, _, _, _, HT2.out.le (by omega)⟩
            · have c4 : (q.kind == 4) = false := by simp [hk4]
              clear hk1 hk2 hk4
              go_wp2_with (first | (go_at_call 48; refine (key10_any _ _ _ _ _).mono ?_; rintro e w3 ⟨key, rfl, hks, hb3⟩; have T3 := Lib.hid (HT.out.step hb3); obtain ⟨ka, kb⟩ := HK.out w3 T3.out.bel; obtain ⟨b, hb⟩ : ∃ b, (M key).isSome = b := ⟨_, rfl⟩; have HB := Lib.hid hb; have HB2 := Lib.hid ((HT.out.has key).trans hb); clear hb3 hb) | (go_at_call 49; refine (both_get T3.out hks HB.out).mono ?_; rintro e w4 ⟨⟨v4, rfl⟩, hb4⟩; have T4 := Lib.hid (T3.out.step hb4); clear hb4) | (go_at_call 82; refine (both_has T4.out hks HB2.out).mono ?_; rintro e w5 ⟨rfl, n5, rfl⟩; have T5 := Lib.hid (T4.out.step ((IsDrew.one _ n5).below _))))
              go_meet
              case rel => exact ⟨x, rfl, by omega, _, _, _, _, T5.out.le (by omega)⟩
      case rest =>
        obtain ⟨x2, rfl, hx2, S2, M2, F2, G2, hT2⟩ := hcut
        go_wp2
        go_roundg (gk - 1)
        case measure => have := HKG.out; omega
        case rel => exact ⟨k + 1, x2, by have := HKG.out; omega, by omega, by omega, by go_num, rfl, hx2, S2, M2, F2, G2, hT2⟩
    · have HT := Lib.hid hT
      have hbl : Hid (63 * k ≤ 1000000) := by unfold Hid; omega
      have hx : k < zs.length → most ≤ (k : Int) := fun h => by omega
      clear hT hlt
      have tok1 : True := trivial
      have tok2 : True := trivial
      by_cases hlt : k < zs.length
      · have hx2 : decide ((k : Int) < most) = false := by have := hx hlt; simp; omega
        clear hx
        go_wp2_with (first | (go_at_call 45; refine (tells_any HT.out.d HT.out.r hbl.out ((zs.length : Nat) : Int) (by omega) (by omega)).mono ?_; rintro e w3 ⟨rfl, hb3⟩; have T3 := Lib.hid (HT.out.step hb3); clear hb3) | (go_at_call 46; have _t := tok1; refine (scans_any T3.out.d T3.out.r hbl.out 0 (by omega) (by omega) 5 (by omega) (by omega)).mono ?_; rintro e w4 ⟨rfl, hb4⟩; have T4 := Lib.hid (T3.out.step hb4); clear hb4 tok1) | (go_at_call 46; have _t := tok2; refine (scans_any T4.out.d T4.out.r hbl.out most hm0 (by omega) 1 (by omega) (by omega)).mono ?_; rintro e w5 ⟨rfl, hb5⟩; have T5 := Lib.hid (T4.out.step hb5); clear hb5 tok2) | (go_at_call 42; refine (keys_dd T5.out.d hbl.out).mono ?_; rintro e w6 ⟨v6, l6, rfl, o6, p6, hb6⟩; have T6 := Lib.hid (T5.out.step hb6); have O6 := Lib.hid (And.intro o6 p6); clear o6 p6 hb6) | (go_at_call 79; refine (all_r T6.out.r hbl.out).mono ?_; rintro e w7 ⟨v7, rfl, o7, hb7⟩; have T7 := Lib.hid (T6.out.step hb7); have O7 := Lib.hid (And.intro (owns_later O6.out.1 hb7) o7); clear o7 hb7) | (go_at_call 25; refine (bag_yes _ _ _ l6 (allK S.2) (ReadsV.owns O7.out.1) (ReadsV.owns O7.out.2) O6.out.2).mono ?_; rintro e w8 ⟨rfl, n8, rfl⟩; have T8 := Lib.hid (T7.out.step ((IsDrew.one _ n8).below _))))
        go_ret
        exact ⟨rfl, T8.out.bel⟩
      · clear hx
        go_wp2_with (first | (go_at_call 45; refine (tells_any HT.out.d HT.out.r hbl.out ((zs.length : Nat) : Int) (by omega) (by omega)).mono ?_; rintro e w3 ⟨rfl, hb3⟩; have T3 := Lib.hid (HT.out.step hb3); clear hb3) | (go_at_call 46; have _t := tok1; refine (scans_any T3.out.d T3.out.r hbl.out 0 (by omega) (by omega) 5 (by omega) (by omega)).mono ?_; rintro e w4 ⟨rfl, hb4⟩; have T4 := Lib.hid (T3.out.step hb4); clear hb4 tok1) | (go_at_call 46; have _t := tok2; refine (scans_any T4.out.d T4.out.r hbl.out most hm0 (by omega) 1 (by omega) (by omega)).mono ?_; rintro e w5 ⟨rfl, hb5⟩; have T5 := Lib.hid (T4.out.step hb5); clear hb5 tok2) | (go_at_call 42; refine (keys_dd T5.out.d hbl.out).mono ?_; rintro e w6 ⟨v6, l6, rfl, o6, p6, hb6⟩; have T6 := Lib.hid (T5.out.step hb6); have O6 := Lib.hid (And.intro o6 p6); clear o6 p6 hb6) | (go_at_call 79; refine (all_r T6.out.r hbl.out).mono ?_; rintro e w7 ⟨v7, rfl, o7, hb7⟩; have T7 := Lib.hid (T6.out.step hb7); have O7 := Lib.hid (And.intro (owns_later O6.out.1 hb7) o7); clear o7 hb7) | (go_at_call 25; refine (bag_yes _ _ _ l6 (allK S.2) (ReadsV.owns O7.out.1) (ReadsV.owns O7.out.2) O6.out.2).mono ?_; rintro e w8 ⟨rfl, n8, rfl⟩; have T8 := Lib.hid (T7.out.step ((IsDrew.one _ n8).below _))))
        go_ret
        exact ⟨rfl, T8.out.bel⟩

set_option maxRecDepth 100000 in
set_option maxHeartbeats 1000000 in
theorem plays10_walk (seed : Int) (v : Value) (zs : List AskR) (w : World) (hz : AsksAt w v zs) :
    Calls Try.prog 14 #[.int .u64 seed, v] w fun e w' => e = .returned (.bool true) ∧ Below w.heap.size w w' := by
  have HP := Lib.hid (play10_any seed v zs 60 w hz (by omega) (by omega))
  obtain ⟨al, c, rfl, hl, _⟩ := hz
  go_enter Try.func14, Try.ntmps14
  go_wp2_with (first | (go_at_call 52; refine HP.out.mono ?_; rintro e w1 ⟨rfl, hb1⟩; have hs1 := hb1.size) | (go_at_call 36; refine (known10_any _).mono ?_; rintro e w2 ⟨rfl, hb2⟩))
  go_ret
  exact ⟨rfl, hb1.trans (hb2.mono hs1)⟩

theorem nameInj10 : ∀ a b, a < 456976 → b < 456976 → nameS a = nameS b → a = b := fun _ _ ha hb h => nameS_inj ha hb h
theorem allK_le {ps : List PartR} {N : Nat} (h : ∀ p ∈ ps, p.keys.length ≤ N) : (allK ps).length ≤ N * ps.length := by
  induction ps with
  | nil => simp [allK]
  | cons a l ih =>
    have h1 := h a (by simp)
    have h2 := ih fun p hp => h p (by simp [hp])
    have e : allK (a :: l) = a.keys ++ allK l := rfl
    rw [e, List.length_append, List.length_cons, Nat.mul_succ]
    omega
/-- Many keys ask for depth. -/
theorem deep3 {seed : Int} {S : Nat × List PartR} (h : SOk seed S.1 S.2) (hn : 1000 ≤ (allK S.2).length) : 3 ≤ S.1 := by
  by_cases c : 3 ≤ S.1
  · exact c
  · have h1 := h.len_le
    have h2 : 2 ^ S.1 ≤ 2 ^ 2 := Nat.pow_le_pow_right (by omega) (by omega)
    have h3 := allK_le (ps := S.2) (N := 112) fun p hp => h.few p hp (by have := h.dep p hp; omega)
    have h4 : 112 * S.2.length ≤ 112 * 4 := Nat.mul_le_mul_left _ (by omega)
    omega

set_option maxRecDepth 100000 in
set_option maxHeartbeats 4000000 in
theorem numbers10_walk (w : World) : Calls Try.prog 10 #[] w fun e w' => e = .returned (.bool true) ∧ Below w.heap.size w w' := by
  go_enter Try.func10, Try.ntmps10
  go_wp2_with (first | (go_at_call 32; refine (new_d _ _).mono ?_; rintro e w1 ⟨db, F, rfl, hD, hb1, hf1⟩) | (go_at_call 43; refine (new_r _ _).mono ?_; rintro e w2 ⟨rb, G, rfl, hR, hb2, hg2⟩))
  have h0 : Both w w2 db rb 7 (0, [⟨0, 0, []⟩]) (0, [⟨0, 0, []⟩]) (fun _ => none) F G 0 := by
    have s1 := hb1.size
    have s2 := hb2.size
    refine ⟨hD.step hb2, hR, hb1.trans (hb2.mono s1), by omega, hf1, fun k hk => by have := hg2 k hk; omega, fun k hk hk2 => ?_⟩
    have := hD.lt.1 k hk
    have := hg2 k hk2
    omega
  have H0 := Lib.hid h0
  clear hD hR hb1 hb2 hf1 hg2 h0
  go_loopg [3] 1000 (fun g iv wr => ∃ (j : Nat) (S : Nat × List PartR) (M : ByteArray → Option Int) (F G : Nat → Prop), j + g = 1000 ∧ iv = .int .i64 j ∧ Both w wr db rb 7 S S M F G (3 * j) ∧ NamesM nameS M 0 j (fun i => (i : Int)))
  case atStart => exact ⟨0, _, _, F, G, by omega, rfl, H0.out, NamesM.start _ _ _⟩
  case round =>
    clear H0
    obtain ⟨j, S, M, F1, G1, hj, rfl, hT, hN⟩ := hrel
    have HT := Lib.hid hT
    have HJ := Lib.hid hj
    have hjk : j ≤ 1000 := by omega
    by_cases hlt : j < 1000
    · have HKN := Lib.hid (NamesM.put hN nameInj10 (by omega) (Nat.zero_le j))
      have hns := nameS_size j
      have HNA := Lib.hid fun (W : World) => name_any j W (by omega)
      have hbl : Hid (3 * j ≤ 100000) := by unfold Hid; omega
      clear hT hN hj
      generalize nameS j = nk at *
      have tok1 : True := trivial
      have tok2 : True := trivial
      go_wp2_with (first | (go_at_call 33; have _t := tok1; refine (HNA.out _).mono ?_; rintro e w5 ⟨rfl, rfl⟩; clear tok1) | (go_at_call 33; have _t := tok2; refine (HNA.out _).mono ?_; rintro e w5 ⟨rfl, rfl⟩; clear tok2) | (go_at_call 44; refine (both_putR HT.out hns hbl.out).mono ?_; rintro e w6 ⟨rfl, G6, hT6⟩; have T6 := Lib.hid hT6; clear hT6) | (go_at_call 34; refine (both_putD T6.out hns hbl.out _).mono ?_; rintro e w7 ⟨rfl, F7, hT7⟩; have T7 := Lib.hid hT7; clear hT7) | (go_at_call 45; refine (tells_any T7.out.d T7.out.r (by omega) ((j : Nat) : Int) (by omega) (by omega)).mono ?_; rintro e w8 ⟨rfl, hb8⟩; have T8 := Lib.hid (T7.out.step hb8); clear hb8))
      all_goals
        go_roundg (gk - 1)
        case measure => have := HJ.out; omega
        case rel =>
          have := HJ.out
          first | exact ⟨j + 1, _, _, _, _, by omega, by go_num, T8.out.le (by omega), HKN.out⟩ | exact ⟨j + 1, _, _, _, _, by omega, by go_num, T7.out.le (by omega), HKN.out⟩
    · obtain rfl : j = 1000 := by omega
      have hperm := hN.perm nameInj10 (by omega) hT.d.sok.allK_nodup hT.d.dom
      have hd3 := deep3 hT.d.sok (by rw [hperm.length_eq, namesL_len]; exact Nat.le_refl _)
      have HDE := Lib.hid fun (W : World) (h : Below wr.heap.size wr W) => depth_d (hT.d.step h)
      have hd3' : (3 : Int) ≤ ((S.1 : Nat) : Int) := by omega
      clear hN hj hT hperm hd3
      generalize S.1 = D at *
      go_wp2
      go_loopg [4] 9 (fun g cv wt => ∃ c : Nat, c + g = 9 ∧ cv = .int .u64 (c : Nat) ∧ Below wr.heap.size wr wt)
      case atStart => exact ⟨0, by omega, rfl, Below.refl _ _⟩
      case round =>
        obtain ⟨c, hc, rfl, hb⟩ := hrel
        have HC := Lib.hid hc
        have hc9 : c ≤ 9 := by omega
        have T1 := Lib.hid (HT.out.step hb)
        have HB := Lib.hid hb
        have hsz := hb.size
        clear hc hb
        by_cases hlt2 : c < 9
        · have HS := Lib.hid fun (W : World) (hW : Below wr.heap.size wr W) (n : Int) (n0 : -9223372036854775808 ≤ n) (n1 : n < 9223372036854775808) => scans_any (T1.out.step hW).d (T1.out.step hW).r (by omega) ((c : Nat) : Int) (by omega) (by omega) n n0 n1
          have tok1 : True := trivial
          have tok2 : True := trivial
          have tok3 : True := trivial
          go_wp2_with (first | (go_at_call 46; have _t := tok1; refine (HS.out _ (Below.refl _ _) 10 (by omega) (by omega)).mono ?_; rintro e w4 ⟨rfl, hb4⟩; have B4 := Lib.hid hb4; clear hb4 tok1) | (go_at_call 46; have _t := tok2; refine (HS.out _ B4.out (-1) (by omega) (by omega)).mono ?_; rintro e w5 ⟨rfl, hb5⟩; have B5 := Lib.hid (B4.out.trans (hb5.mono B4.out.size)); clear hb5 tok2) | (go_at_call 46; have _t := tok3; refine (HS.out _ B5.out 5000 (by omega) (by omega)).mono ?_; rintro e w6 ⟨rfl, hb6⟩; have B6 := Lib.hid (B5.out.trans (hb6.mono B5.out.size)); clear hb6 tok3))
          go_roundg (gk - 1)
          case measure => have := HC.out; omega
          case rel => exact ⟨c + 1, by have := HC.out; omega, by go_num, HB.out.trans (B6.out.mono hsz)⟩
        · obtain rfl : c = 9 := by omega
          go_wp2_with (first | (go_at_call 35; refine (HDE.out _ HB.out).mono ?_; rintro e w5 ⟨rfl, rfl⟩) | (go_at_call 36; refine (known10_any _).mono ?_; rintro e w6 ⟨rfl, hb6⟩; have T6 := T1.out.step hb6))
          go_ret
          exact ⟨rfl, T6.bel⟩
end Go.Proofs.Ytkkijcnipjojoaa
