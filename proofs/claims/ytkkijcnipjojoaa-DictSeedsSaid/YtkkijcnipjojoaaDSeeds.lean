/- The walk of DictSeeds: two dicts of unlike seeds, the same calls. -/
import Derived.Test.YtkkijcnipjojoaaLaw10
namespace Go.Proofs.Ytkkijcnipjojoaa
open Go.RowKit

/-- Two dicts that lie apart. -/
structure TwoD (w wr : World) (dx dy : Nat) (a b : Int) (Sx Sy : Nat × List PartR) (Mx My : ByteArray → Option Int) (Fx Fy : Nat → Prop) (L : Nat) : Prop where
  x : Dct wr dx a Sx Mx Fx L
  y : Dct wr dy b Sy My Fy L
  bel : Below w.heap.size w wr
  lo : w.heap.size ≤ wr.heap.size
  fx : ∀ k, Fx k → w.heap.size ≤ k
  fy : ∀ k, Fy k → w.heap.size ≤ k
  ap : ∀ k, Fx k → ¬ Fy k
section
variable {w wr w' : World} {dx dy : Nat} {a b : Int} {Sx Sy Sx' Sy' : Nat × List PartR} {Mx My Mx' My' : ByteArray → Option Int} {Fx Fy Fx' Fy' : Nat → Prop} {L L' : Nat}
theorem TwoD.step (h : TwoD w wr dx dy a b Sx Sy Mx My Fx Fy L) (hb : Below wr.heap.size wr w') : TwoD w w' dx dy a b Sx Sy Mx My Fx Fy L :=
  ⟨h.x.step hb, h.y.step hb, h.bel.trans (hb.mono h.lo), Nat.le_trans h.lo hb.size, h.fx, h.fy, h.ap⟩
theorem TwoD.putX (h : TwoD w wr dx dy a b Sx Sy Mx My Fx Fy L) (hx : Dct w' dx a Sx' Mx' Fx' L') (hf : Fr wr w' Fx Fx') (hL : L ≤ L') : TwoD w w' dx dy a b Sx' Sy Mx' My Fx' Fy L' := by
  obtain ⟨b1, b2⟩ := hf.below h.lo h.fx
  refine ⟨hx, (h.y.stay hf.size fun k hk => hf.block k (h.y.lt.1 k hk) fun e => h.ap k e hk).le hL, h.bel.trans b1, Nat.le_trans h.lo hf.size, b2, h.fy, fun k hk hy => ?_⟩
  rcases hf.new k hk with e | e
  · exact h.ap k e hy
  · have := h.y.lt.1 k hy; omega
theorem TwoD.putY (h : TwoD w wr dx dy a b Sx Sy Mx My Fx Fy L) (hy : Dct w' dy b Sy' My' Fy' L') (hf : Fr wr w' Fy Fy') (hL : L ≤ L') : TwoD w w' dx dy a b Sx Sy' Mx My' Fx Fy' L' := by
  obtain ⟨b1, b2⟩ := hf.below h.lo h.fy
  refine ⟨(h.x.stay hf.size fun k hk => hf.block k (h.x.lt.1 k hk) fun e => h.ap k hk e).le hL, hy, h.bel.trans b1, Nat.le_trans h.lo hf.size, h.fx, b2, fun k hk hy => ?_⟩
  rcases hf.new k hy with e | e
  · exact h.ap k hk e
  · have := h.x.lt.1 k hk; omega
theorem TwoD.same {M : ByteArray → Option Int} (h : TwoD w wr dx dy a b Sx Sy M M Fx Fy L) : (allK Sx.2).Perm (allK Sy.2) := by
  rw [List.perm_ext_iff_of_nodup h.x.sok.allK_nodup h.y.sok.allK_nodup]
  intro k
  rw [← h.x.dom k, ← h.y.dom k]
theorem TwoD.lenY {M : ByteArray → Option Int} (h : TwoD w wr dx dy a b Sx Sy M M Fx Fy L) : Calls Try.prog 50 #[.pointer (some ⟨dy, 0, none⟩)] wr fun e w' => e = .returned (.int .i64 ((allK Sx.2).length : Nat)) ∧ wr = w' := by
  rw [h.same.length_eq]; exact len_d h.y
end
def TwinD (w wr : World) (dx dy : Nat) (a b : Int) (L : Nat) : Prop := ∃ Sx Sy M Fx Fy, TwoD w wr dx dy a b Sx Sy M M Fx Fy L

set_option maxRecDepth 100000 in
set_option maxHeartbeats 4000000 in
theorem dseeds_walk (a b : Int) (v : Value) (zs : List AskR) (w : World) (hz : AsksAt w v zs) :
    Calls Try.prog 12 #[.int .u64 a, .int .u64 b, v] w fun e w' => e = .returned (.bool true) ∧ Below w.heap.size w w' := by
  have HZ := Lib.hid fun (W : World) (hb : Below w.heap.size w W) => hz.grown hb
  obtain ⟨al, c, rfl, hl, _⟩ := hz
  unfold maxLen at hl
  have tok1 : True := trivial
  have tok2 : True := trivial
  go_enter Try.func12, Try.ntmps12
  go_wp2_with (first | (go_at_call 32; have _t := tok1; refine (new_d _ _).mono ?_; rintro e w1 ⟨dx, Fx, rfl, hX, hb1, hfx⟩; clear tok1) | (go_at_call 32; have _t := tok2; refine (new_d _ _).mono ?_; rintro e w2 ⟨dy, Fy, rfl, hY, hb2, hfy⟩; clear tok2))
  have h0 : TwinD w w2 dx dy a b 0 := by
    have s1 := hb1.size
    have s2 := hb2.size
    refine ⟨_, _, _, Fx, Fy, hX.step hb2, hY, hb1.trans (hb2.mono s1), by omega, hfx, fun k hk => ?_, fun k hk hk2 => ?_⟩
    · have := hfy k hk; omega
    · have := hX.lt.1 k hk; have := hfy k hk2; omega
  clear hX hY hb1 hb2 hfx hfy
  go_loopw [9] (fun i wr => ∃ k : Nat, k ≤ zs.length ∧ k ≤ 150 ∧ i = .int .i64 k ∧ TwinD w wr dx dy a b (4 * k)) (fun i _ => zs.length - (intOf i).toNat)
  case atStart => exact ⟨0, by omega, by omega, rfl, h0⟩
  case round =>
    clear h0
    obtain ⟨k, hk, hk2, rfl, Sx, Sy, M, Fx1, Fy1, hT⟩ := hrel
    have hL : 4 * k ≤ 1000000 := by omega
    by_cases hlt : k < zs.length
    · by_cases hlt2 : k < 150
      · obtain ⟨q, hq⟩ : ∃ q, zs[k]? = some q := ⟨zs[k], List.getElem?_eq_getElem hlt⟩
        obtain ⟨al', c', e1, _, hcells⟩ := HZ.out wr hT.bel
        obtain ⟨bq, oq, e2, q0, q1, q2, q3⟩ := hcells k q hq
        simp only [Value.slice.injEq] at e1
        obtain ⟨rfl, _, rfl⟩ := e1
        subst e2
        have HK : Hid (∀ W, Below w.heap.size w W → W.cell? ⟨bq, oq + k * 4, none⟩ = some (.int .i64 q.kind)) := fun W hW => by
          obtain ⟨al', c', e1, _, hcells⟩ := HZ.out W hW
          obtain ⟨b2, o2, e2, p0, _⟩ := hcells k q hq
          simp only [Value.slice.injEq] at e1
          obtain ⟨rfl, _, rfl⟩ := e1
          simp only [Option.some.injEq, Addr.mk.injEq, and_true] at e2
          obtain ⟨rfl, rfl⟩ := e2
          exact p0
        clear hcells hq
        have HL := Lib.hid hL
        clear hL
        by_cases hk1 : q.kind = 1 ∨ q.kind = 4
        · rcases hk1 with hk1 | hk1
          · have c1 : (q.kind == 1) = true := by simp [hk1]
            clear hk1
            go_wp2_with (first | (go_at_call 48; refine (key10_any _ _ _ _ _).mono ?_; rintro e w3 ⟨key, rfl, hks, hb3⟩; have T3 := hT.step hb3; have hk3 := HK.out w3 T3.bel; have hkm : key.size ≤ maxLen := (by unfold maxLen; omega)) | (go_at_call 34; (with_reducible refine (put_d T3.x key hks _ HL.out).mono ?_); rintro e w4 ⟨rfl, F4, hX4, hp4⟩; have T4 := T3.putX hX4 hp4 (by omega)) | (go_at_call 34; (with_reducible refine (put_d (T3.putX hX4 hp4 (Nat.le_add_right _ 2)).y key hks _ (by have := HL.out; omega)).mono ?_); rintro e w5 ⟨rfl, F5, hY5, hp5⟩; have T5 := T4.putY hY5 hp5 (by omega)) | (go_at_call 50; (with_reducible refine (len_d T5.x).mono ?_); rintro e w6 ⟨rfl, rfl⟩) | (go_at_call 50; (with_reducible refine (TwoD.lenY T5).mono ?_); rintro e w6 ⟨rfl, rfl⟩))
            go_roundw
            case rel => exact ⟨k + 1, by omega, by omega, by go_num, _, _, _, _, _, T5⟩
            case measure => simp [intOf]; omega
          · have c1 : (q.kind == 1) = false := by simp [hk1]
            have c4 : (q.kind == 4) = true := by simp [hk1]
            clear hk1
            go_wp2_with (first | (go_at_call 48; refine (key10_any _ _ _ _ _).mono ?_; rintro e w3 ⟨key, rfl, hks, hb3⟩; have T3 := hT.step hb3; have hk3 := HK.out w3 T3.bel; have hkm : key.size ≤ maxLen := (by unfold maxLen; omega)) | (go_at_call 34; (with_reducible refine (put_d T3.x key hks _ HL.out).mono ?_); rintro e w4 ⟨rfl, F4, hX4, hp4⟩; have T4 := T3.putX hX4 hp4 (by omega)) | (go_at_call 34; (with_reducible refine (put_d (T3.putX hX4 hp4 (Nat.le_add_right _ 2)).y key hks _ (by have := HL.out; omega)).mono ?_); rintro e w5 ⟨rfl, F5, hY5, hp5⟩; have T5 := T4.putY hY5 hp5 (by omega)) | (go_at_call 50; (with_reducible refine (len_d T5.x).mono ?_); rintro e w6 ⟨rfl, rfl⟩) | (go_at_call 50; (with_reducible refine (TwoD.lenY T5).mono ?_); rintro e w6 ⟨rfl, rfl⟩))
            go_roundw
            case rel => exact ⟨k + 1, by omega, by omega, by go_num, _, _, _, _, _, T5⟩
            case measure => simp [intOf]; omega
        · have c1 : (q.kind == 1) = false := by simp only [beq_eq_false_iff_ne, ne_eq]; exact fun e => hk1 (.inl e)
          have c4 : (q.kind == 4) = false := by simp only [beq_eq_false_iff_ne, ne_eq]; exact fun e => hk1 (.inr e)
          by_cases hk2' : q.kind = 2
          · have c2 : (q.kind == 2) = true := by simp [hk2']
            clear hk1 hk2'
            go_wp2_with (first | (go_at_call 48; refine (key10_any _ _ _ _ _).mono ?_; rintro e w3 ⟨key, rfl, hks, hb3⟩; have T3 := hT.step hb3; have hk3 := HK.out w3 T3.bel; have hkm : key.size ≤ maxLen := (by unfold maxLen; omega)) | (go_at_call 47; (with_reducible refine (delete_d T3.x key hkm HL.out).mono ?_); rintro e w4 ⟨rfl, F4, hX4, hp4⟩; have T4 := T3.putX hX4 hp4 (Nat.le_refl _)) | (go_at_call 47; (with_reducible refine (delete_d T4.y key hkm HL.out).mono ?_); rintro e w5 ⟨rfl, F5, hY5, hp5⟩; have T5 := T4.putY hY5 hp5 (Nat.le_refl _)) | (go_at_call 50; (with_reducible refine (len_d T5.x).mono ?_); rintro e w6 ⟨rfl, rfl⟩) | (go_at_call 50; (with_reducible refine (TwoD.lenY T5).mono ?_); rintro e w6 ⟨rfl, rfl⟩))
            go_roundw
            case rel => exact ⟨k + 1, by omega, by omega, by go_num, _, _, _, _, _, ⟨T5.x.le (by omega), T5.y.le (by omega), T5.bel, T5.lo, T5.fx, T5.fy, T5.ap⟩⟩
            case measure => simp [intOf]; omega
          · have c2 : (q.kind == 2) = false := by simp [hk2']
            clear hk1 hk2'
            go_wp2_with (first | (go_at_call 48; refine (key10_any _ _ _ _ _).mono ?_; rintro e w3 ⟨key, rfl, hks, hb3⟩; have T3 := hT.step hb3; have hk3 := HK.out w3 T3.bel; have hkm : key.size ≤ maxLen := (by unfold maxLen; omega)) | (go_at_call 49; (with_reducible refine (get_d T3.x key hkm).mono ?_); rintro e w4 ⟨rfl, hb4⟩; have T4 := T3.step hb4) | (go_at_call 49; (with_reducible refine (get_d T4.y key hkm).mono ?_); rintro e w5 ⟨rfl, hb5⟩; have T5 := (T4.step hb5)) | (go_at_call 50; (with_reducible refine (len_d T5.x).mono ?_); rintro e w6 ⟨rfl, rfl⟩) | (go_at_call 50; (with_reducible refine (TwoD.lenY T5).mono ?_); rintro e w6 ⟨rfl, rfl⟩))
            go_roundw
            case rel => exact ⟨k + 1, by omega, by omega, by go_num, _, _, _, _, _, ⟨T5.x.le (by omega), T5.y.le (by omega), T5.bel, T5.lo, T5.fx, T5.fy, T5.ap⟩⟩
            case measure => simp [intOf]; omega
      · go_wp2_with (first | (go_at_call 42; (with_reducible refine (keys_dd hT.x hL).mono ?_); rintro e w3 ⟨vx, lx, rfl, ox, px, bx⟩; have T3 := hT.step bx) | (go_at_call 42; (with_reducible refine (keys_dd T3.y hL).mono ?_); rintro e w4 ⟨vy, ly, rfl, oy, py, by4⟩; have T4 := T3.step by4; have ox4 := owns_later ox by4) | (go_at_call 25; refine (bag_yes _ vx vy lx ly (ReadsV.owns ox4) (ReadsV.owns oy) (px.trans (hT.same.trans py.symm))).mono ?_; rintro e w5 ⟨rfl, n5, rfl⟩; have T5 := T4.step ((IsDrew.one _ n5).below _)) | (go_at_call 36; refine (known10_any _).mono ?_; rintro e w6 ⟨rfl, hb6⟩; have T6 := T5.step hb6))
        go_ret
        exact ⟨rfl, T6.bel⟩
    · go_wp2_with (first | (go_at_call 42; (with_reducible refine (keys_dd hT.x hL).mono ?_); rintro e w3 ⟨vx, lx, rfl, ox, px, bx⟩; have T3 := hT.step bx) | (go_at_call 42; (with_reducible refine (keys_dd T3.y hL).mono ?_); rintro e w4 ⟨vy, ly, rfl, oy, py, by4⟩; have T4 := T3.step by4; have ox4 := owns_later ox by4) | (go_at_call 25; refine (bag_yes _ vx vy lx ly (ReadsV.owns ox4) (ReadsV.owns oy) (px.trans (hT.same.trans py.symm))).mono ?_; rintro e w5 ⟨rfl, n5, rfl⟩; have T5 := T4.step ((IsDrew.one _ n5).below _)) | (go_at_call 36; refine (known10_any _).mono ?_; rintro e w6 ⟨rfl, hb6⟩; have T6 := T5.step hb6))
      go_ret
      exact ⟨rfl, T6.bel⟩
end Go.Proofs.Ytkkijcnipjojoaa
