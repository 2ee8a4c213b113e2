/- tallboylaw10.tells and .scans: a dict tells what the document's has. -/
import Derived.Test.YtkkijcnipjojoaaRefC
import Derived.Test.YtkkijcnipjojoaaPlayR
import Derived.Deep.RegionHeld3
namespace Go.Proofs.Ytkkijcnipjojoaa
open Go.RowKit

noncomputable def regT : Code := (((Try.f45.body).bind (findRegion 2)).getD .skip)
set_option maxRecDepth 1000000 in
set_option maxHeartbeats 20000000 in
theorem regT_any {w1 : World} {db rb n t D k1 : Nat} {c : Int} {a1 ar : Option Addr} {cr : Nat} {bl : List ByteArray} {K K2 : Act → World → Prop} {R : Ending → World → Prop} {y3 y4 y5 y6 y8 y9 y10 y11 y12 y13 y14 y15 y16 y17 y18 y19 y20 y21 y22 y23 y24 y25 y26 y27 y28 y29 y30 y31 y32 y33 y34 y35 y36 y37 y38 y39 y40 y41 y42 y43 y44 y45 y46 y48 y49 y50 y51 y52 y53 y54 y55 y56 y57 y58 y59 y60 y61 y62 y63 y64 y65 y66 y67 y68 y69 y70 y71 y72 y73 y74 y75 y76 y77 y78 y79 y80 y81 y82 y83 y84 y47 : Value} (hrl : rb < w1.heap.size)
    (d0 : w1.cell? ⟨rb, 1, none⟩ = some (.int .i64 (D : Nat))) (d2 : w1.cell? ⟨rb, 2, none⟩ = some (.slice ar (t : Nat) cr))
    (HLE : Hid (∀ W, Below w1.heap.size w1 W → Calls Try.prog 50 #[.pointer (some ⟨db, 0, none⟩)] W fun e w' => e = .returned (.int .i64 (n : Nat)) ∧ W = w'))
    (HDE : Hid (∀ W, Below w1.heap.size w1 W → Calls Try.prog 35 #[.pointer (some ⟨db, 0, none⟩)] W fun e w' => e = .returned (.int .i64 (D : Nat)) ∧ W = w'))
    (HTA : Hid (∀ W, Below w1.heap.size w1 W → Calls Try.prog 51 #[.pointer (some ⟨db, 0, none⟩)] W fun e w' => e = .returned (.int .i64 (t : Nat)) ∧ Below W.heap.size W w'))
    (HBU : Hid (∀ W, Below w1.heap.size w1 W → Calls Try.prog 37 #[.pointer (some ⟨db, 0, none⟩), .int .u64 c] W fun e w' => ∃ v l, e = .returned v ∧ w'.ownsRow W.heap.size 9 1 v l.length (l.map Value.string) ∧ List.Perm l bl ∧ Below W.heap.size W w'))
    (HBR : Hid (∀ W, Below w1.heap.size w1 W → Calls Try.prog 80 #[.pointer (some ⟨rb, 0, none⟩), .int .u64 c] W fun e w' => ∃ v, e = .returned v ∧ w'.ownsRow W.heap.size 9 1 v bl.length (bl.map Value.string) ∧ Below W.heap.size W w'))
    (hK : ∀ (x14 x15 x16 x17 x18 x19 x20 x21 x22 x23 x24 x25 x26 x27 x28 x29 x30 x31 x32 x33 x34 x35 x36 x37 x38 x39 x40 x41 x42 x43 x44 x45 x46 : Value) (W : World), Below w1.heap.size w1 W → K ⟨#[.pointer (some ⟨db, 0, none⟩), .pointer (some ⟨rb, 0, none⟩), .int .u64 c, y3, y4, y5, y6, .slice a1 n k1, y8, y9, y10, y11, y12, y13, x14, x15, x16, x17, x18, x19, x20, x21, x22, x23, x24, x25, x26, x27, x28, x29, x30, x31, x32, x33, x34, x35, x36, x37, x38, x39, x40, x41, x42, x43, x44, x45, x46, .bool false, y48, y49, y50, y51, y52, y53, y54, y55, y56, y57, y58, y59, y60, y61, y62, y63, y64, y65, y66, y67, y68, y69, y70, y71, y72, y73, y74, y75, y76, y77, y78, y79, y80, y81, y82, y83, y84], []⟩ W) :
    Code.wp Try.prog regT (Exit.then K (Exit.then K2 (bodyPost Try.prog Try.f45 R))) ⟨#[.pointer (some ⟨db, 0, none⟩), .pointer (some ⟨rb, 0, none⟩), .int .u64 c, y3, y4, y5, y6, .slice a1 n k1, y8, y9, y10, y11, y12, y13, y14, y15, y16, y17, y18, y19, y20, y21, y22, y23, y24, y25, y26, y27, y28, y29, y30, y31, y32, y33, y34, y35, y36, y37, y38, y39, y40, y41, y42, y43, y44, y45, y46, y47, y48, y49, y50, y51, y52, y53, y54, y55, y56, y57, y58, y59, y60, y61, y62, y63, y64, y65, y66, y67, y68, y69, y70, y71, y72, y73, y74, y75, y76, y77, y78, y79, y80, y81, y82, y83, y84], []⟩ w1 := by
  have HKK := Lib.hid hK
  clear hK
  conv => arg 2; whnf
  have HCE : Hid (∀ W, Below w1.heap.size w1 W → W.cell? ⟨rb, 1, none⟩ = some (.int .i64 (D : Nat)) ∧ W.cell? ⟨rb, 2, none⟩ = some (.slice ar (t : Nat) cr)) := fun W hb => ⟨(hb.cell (p := ⟨rb, 1, none⟩) hrl).trans d0, (hb.cell (p := ⟨rb, 2, none⟩) hrl).trans d2⟩
  go_region_held3 (fun W => W.cell? ⟨rb, 1, none⟩ = some (.int .i64 (D : Nat)) ∧ W.cell? ⟨rb, 2, none⟩ = some (.slice ar (t : Nat) cr))
    ((first | with_reducible exact HCE.out _ (Below.refl _ _) | with_reducible exact HCE.out _ ((Below.refl _ _).drew) | with_reducible exact HCE.out _ ((IsDrew.one w1 _).below _) | with_reducible exact HCE.out _ H9.out | with_reducible exact HCE.out _ H8.out.1 | with_reducible exact HCE.out _ H7.out.1 | with_reducible exact HCE.out _ H6.out))
    (first | (go_at_call 50; refine (HLE.out _ (by first | exact Below.refl _ _ | exact (Below.refl _ _).drew)).mono ?_; rintro e w5 ⟨rfl, rfl⟩) | (go_at_call 35; refine (HDE.out _ (by first | exact Below.refl _ _ | exact (Below.refl _ _).drew)).mono ?_; rintro e w5 ⟨rfl, rfl⟩) | (go_at_call 51; refine (HTA.out _ (by first | exact Below.refl _ _ | exact (Below.refl _ _).drew)).mono ?_; rintro e w6 ⟨rfl, hb6⟩; have B6 := (((Below.refl w1.heap.size w1).drew).trans hb6); obtain ⟨e1, e2⟩ := HCE.out _ B6; have H6 := Lib.hid B6; clear B6 hb6) | (go_at_call 37; refine (HBU.out _ H6.out).mono ?_; rintro e w7 ⟨v7, l7, rfl, o7, p7, b7⟩; have H7 := Lib.hid (And.intro (H6.out.trans (b7.mono H6.out.size)) (And.intro o7 p7)); clear o7 p7 b7) | (go_at_call 80; refine (HBR.out _ H7.out.1).mono ?_; rintro e w8 ⟨v8, rfl, o8, b8⟩; have H8 := Lib.hid (And.intro (H7.out.1.trans (b8.mono H7.out.1.size)) (And.intro o8 (owns_later H7.out.2.1 b8))); clear o8 b8) | (go_at_call 25; refine (bag_yes _ _ _ l7 bl (ReadsV.owns H8.out.2.2) (ReadsV.owns H8.out.2.1) H7.out.2.2).mono ?_; rintro e w9 ⟨rfl, n9, rfl⟩; have H9 := Lib.hid (H8.out.1.trans ((IsDrew.one _ n9).below _))))
  all_goals exact HKK.out _ _ _ _ _ _ _ _ _ _ _ _ _ _ _ _ _ _ _ _ _ _ _ _ _ _ _ _ _ _ _ _ _ _ H9.out

section
variable {w : World} {db rb : Nat} {seed : Int} {S : Nat × List PartR} {M : ByteArray → Option Int} {F G : Nat → Prop} {L : Nat}
theorem Rct.cells (h : Rct w rb seed S G L) : w.cell? ⟨rb, 1, none⟩ = some (.int .i64 (S.1 : Nat)) ∧ ∃ a c, w.cell? ⟨rb, 2, none⟩ = some (.slice a (S.2.length : Nat) c) := by
  obtain ⟨qs, rr, rc, hq, hm, _, _⟩ := h
  obtain ⟨_, c1, c2⟩ := hm.cells
  rw [qs_len hq] at c2
  exact ⟨c1, _, _, c2⟩
theorem Rct.lt' (h : Rct w rb seed S G L) : rb < w.heap.size := by
  obtain ⟨qs, rr, rc, hq, hm, _, _⟩ := h
  exact hm.glt _ hm.grb
set_option maxRecDepth 100000 in
set_option maxHeartbeats 4000000 in
theorem tells_any (hd : Dct w db seed S M F L) (hr : Rct w rb seed S G L) (hL : L ≤ 1000000) (c : Int) (h0 : 0 ≤ c) (h1 : c < 18446744073709551616) :
    Calls Try.prog 45 #[.pointer (some ⟨db, 0, none⟩), .pointer (some ⟨rb, 0, none⟩), .int .u64 c] w fun e w' => e = .returned (.bool true) ∧ Below w.heap.size w w' := by
  have HAL := Lib.hid (all_r hr hL)
  have HD := Lib.hid hd
  have HR := Lib.hid hr
  have hfew := hd.few
  obtain ⟨n, hn⟩ : ∃ n, (allK S.2).length = n := ⟨_, rfl⟩
  rw [hn] at HAL hfew
  have HN := Lib.hid hn
  clear hd hr hn
  go_enter Try.func45, Try.ntmps45
  go_wp2_with (go_at_call 79; refine HAL.out.mono ?_; rintro e w1 ⟨v1, rfl, o1, b1⟩; obtain ⟨a1, k1, rfl⟩ := owns_slice o1)
  have HB1 := Lib.hid b1
  have hs1 := b1.size
  clear o1 b1
  have HD1 := Lib.hid fun (W : World) (hb : Below w1.heap.size w1 W) => (HD.out.step HB1.out).step hb
  have HR1 := Lib.hid fun (W : World) (hb : Below w1.heap.size w1 W) => (HR.out.step HB1.out).step hb
  have hrl := (HR.out.step HB1.out).lt'
  obtain ⟨d0, ar, cr, d2⟩ := (HR.out.step HB1.out).cells
  have HLE := Lib.hid fun (W : World) (hb : Below w1.heap.size w1 W) => HN.out ▸ len_d (HD1.out W hb)
  have HDE := Lib.hid fun (W : World) (hb : Below w1.heap.size w1 W) => depth_d (HD1.out W hb)
  have HTA := Lib.hid fun (W : World) (hb : Below w1.heap.size w1 W) => tables_d (HD1.out W hb)
  have HBU := Lib.hid fun (W : World) (hb : Below w1.heap.size w1 W) => bucket_d (HD1.out W hb) hL c h0 h1
  have HBR := Lib.hid fun (W : World) (hb : Below w1.heap.size w1 W) => bucket_r (HR1.out W hb) hL c h0 h1
  obtain ⟨t, ht⟩ : ∃ t, S.2.length = t := ⟨_, rfl⟩
  rw [ht] at d2 HTA
  clear ht
  generalize S.1 = D at *
  go_upto_region 2 with (fail)
  go_cut [47] from 14 to 46 (fun v W => v = .bool false ∧ Below w1.heap.size w1 W)
  case first =>
    refine regT_any hrl d0 d2 HLE HDE HTA HBU HBR ?_
    intro x14 x15 x16 x17 x18 x19 x20 x21 x22 x23 x24 x25 x26 x27 x28 x29 x30 x31 x32 x33 x34 x35 x36 x37 x38 x39 x40 x41 x42 x43 x44 x45 x46 W hW
    dsimp only
    go_step
    go_meet
    case rel => exact ⟨rfl, hW⟩
  case rest =>
    obtain ⟨rfl, hb⟩ := hcut
    have HB := Lib.hid hb
    have hs := hb.size
    clear hb HLE HDE HTA HBU HBR
    by_cases hz : n = 0
    · subst hz
      have HPI := Lib.hid fun (W : World) (hb : Below w1.heap.size w1 W) => pick_no (HD1.out W hb) HN.out c
      go_wp2_with (go_at_call 81; refine (HPI.out _ HB.out).mono ?_; rintro e w5 ⟨rfl, rfl⟩)
      go_ret
      exact ⟨rfl, HB1.out.trans (HB.out.mono hs1)⟩
    · obtain ⟨k, hk, hp⟩ := pick_yes (HD1.out _ HB.out) hL (by rw [HN.out]; omega) c h0 h1
      have HPI := Lib.hid hp
      have hks : k.size ≤ maxLen := by have := (HD.out.sok).all_size hk; unfold maxLen; omega
      have HHA := Lib.hid fun (W : World) (hb : Below w1.heap.size w1 W) => inB'_iff.2 hk ▸ has_r (HR1.out W hb) k hks
      have hpos : (0 : Int) < (n : Int) := by omega
      clear hp hk
      go_wp2_with (first | (go_at_call 81; refine (HPI.out _ (Below.refl _ _)).mono ?_; rintro e w5 ⟨rfl, b5⟩; have B5 := Lib.hid b5; have hs5 := b5.size; clear b5) | (go_at_call 82; refine (HHA.out _ (HB.out.trans (B5.out.mono hs))).mono ?_; rintro e w6 ⟨rfl, n6, rfl⟩; have B6 := Lib.hid (B5.out.trans ((IsDrew.one w5 n6).below _))) | (go_at_call 81; refine (HPI.out _ B6.out).mono ?_; rintro e w7 ⟨rfl, b7⟩; have B7 := Lib.hid (B6.out.trans (b7.mono B6.out.size))))
      go_ret
      exact ⟨rfl, HB1.out.trans ((HB.out.trans (B7.out.mono hs)).mono hs1)⟩
set_option maxRecDepth 100000 in
set_option maxHeartbeats 1000000 in
theorem scans_any (hd : Dct w db seed S M F L) (hr : Rct w rb seed S G L) (hL : L ≤ 1000000) (c : Int) (h0 : 0 ≤ c) (h1 : c < 18446744073709551616) (count : Int) (n0 : -9223372036854775808 ≤ count) (n1 : count < 9223372036854775808) :
    Calls Try.prog 46 #[.pointer (some ⟨db, 0, none⟩), .pointer (some ⟨rb, 0, none⟩), .int .u64 c, .int .i64 count] w fun e w' => e = .returned (.bool true) ∧ Below w.heap.size w w' := by
  have HS := Lib.hid (scan_d hd hL c h0 h1 count n0 n1)
  have HR := Lib.hid fun (W : World) (hb : Below w.heap.size w W) => scan_r (hr.step hb) hL c h0 h1 count
  clear hd hr
  generalize scanR seed S c.toNat count = R at *
  go_enter Try.func46, Try.ntmps46
  go_wp2_with (first | (go_at_call 41; refine HS.out.mono ?_; rintro e w3 ⟨v3, l3, rfl, o3, p3, b3⟩) | (go_at_call 83; refine (HR.out _ b3).mono ?_; rintro e w4 ⟨v4, l4, rfl, o4, p4, b4⟩; have O3 := owns_later o3 b4) | (go_at_call 25; refine (bag_yes _ _ _ l3 l4 (ReadsV.owns O3) (ReadsV.owns o4) (p3.trans p4.symm)).mono ?_; rintro e w5 ⟨rfl, n5, rfl⟩))
  go_ret
  exact ⟨rfl, (b3.trans (b4.mono b3.size)).trans ((IsDrew.one _ n5).below _)⟩
end
end Go.Proofs.Ytkkijcnipjojoaa
