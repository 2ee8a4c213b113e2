/- The walk of TableSeeds: two tables of unlike seeds, the same calls. -/
import Derived.Test.YtkkijcnipjojoaaKey8
import Derived.Test.YtkkijcnipjojoaaAsks
namespace Go.Proofs.Ytkkijcnipjojoaa
open Go.RowKit

/-- What Put answers, and leaves. -/
def putCode (m : ByteArray → Option Int) (ks : List ByteArray) (k : ByteArray) : Int := if m k = none ∧ 112 ≤ ks.length then 23 else 0
def putMap (m : ByteArray → Option Int) (ks : List ByteArray) (k : ByteArray) (v : Int) : ByteArray → Option Int := if m k = none ∧ 112 ≤ ks.length then m else updM m k (some v)
def putKeys (m : ByteArray → Option Int) (ks : List ByteArray) (k : ByteArray) : List ByteArray := if m k ≠ none then ks else if 112 ≤ ks.length then ks else ks ++ [k]
theorem Card.put {m : ByteArray → Option Int} {ks : List ByteArray} (h : Card m ks) (k : ByteArray) (v : Int) : Card (putMap m ks k v) (putKeys m ks k) := by
  unfold putMap putKeys
  by_cases c : m k = none
  · by_cases d : 112 ≤ ks.length
    · rw [if_pos ⟨c, d⟩, if_neg (by simp [c]), if_pos d]; exact h
    · rw [if_neg (fun e => d e.2), if_neg (by simp [c]), if_neg d]; exact h.snoc c v
  · rw [if_neg (fun e => c e.1), if_pos c]; exact h.same c v
theorem put_g {tb gb : Nat} {seed : Int} {m : ByteArray → Option Int} {ks : List ByteArray} (w : World) (hT : TB w tb gb seed m) (hc : Card m ks) (key : ByteArray) (v : Int) (hkey : key.size ≤ maxLen) :
    Calls Try.prog 17 #[.pointer (some ⟨tb, 0, none⟩), .string key, .int .i64 v] w fun e w' => e = .returned (.int .i64 (putCode m ks key)) ∧ ∃ gb', TB w' tb gb' seed (putMap m ks key v) ∧ Puts w w' tb gb gb' := by
  unfold putCode putMap
  by_cases c : m key = none ∧ 112 ≤ ks.length
  · rw [if_pos c, if_pos c]
    refine (put_full w hT hc key v hkey c.1 c.2).mono ?_
    rintro e w' ⟨rfl, h1, h2⟩
    exact ⟨rfl, gb, h1, .inl rfl, h2⟩
  · rw [if_neg c, if_neg c]
    exact put_tb w hT hc key v hkey (by by_cases d : m key = none; exact .inr (by have : ¬ 112 ≤ ks.length := fun e => c ⟨d, e⟩; omega); exact .inl d)
theorem filter_card {m : ByteArray → Option Int} {ks : List ByteArray} (h : Card m ks) (key : ByteArray) : Card (updM m key none) (ks.filter fun x => decide (x ≠ key)) := by
  refine ⟨h.1.filter _, fun k => ?_⟩
  rw [List.mem_filter, h.2 k]
  unfold updM
  by_cases c : k = key
  · simp [c]
  · simp [c]

/-- Two tables that lie apart. -/
structure Two (w wr : World) (tx gx ty gy : Nat) (a b : Int) (mx my : ByteArray → Option Int) : Prop where
  x : TB wr tx gx a mx
  y : TB wr ty gy b my
  bel : Below w.heap.size w wr
  lo : w.heap.size ≤ tx ∧ w.heap.size ≤ gx ∧ w.heap.size ≤ ty ∧ w.heap.size ≤ gy ∧ w.heap.size ≤ wr.heap.size
  ap : tx ≠ ty ∧ tx ≠ gy ∧ gx ≠ ty ∧ gx ≠ gy
section
variable {w wr w' : World} {tx gx ty gy g' : Nat} {a b : Int} {mx my mx' my' : ByteArray → Option Int}
theorem Two.step (h : Two w wr tx gx ty gy a b mx my) (hb : Below wr.heap.size wr w') : Two w w' tx gx ty gy a b mx my :=
  ⟨h.x.later hb, h.y.later hb, h.bel.trans (hb.mono h.lo.2.2.2.2), by have := hb.size; have := h.lo; omega, h.ap⟩
theorem Two.putX (h : Two w wr tx gx ty gy a b mx my) (hx : TB w' tx g' a mx') (hp : Puts wr w' tx gx g') : Two w w' tx g' ty gy a b mx' my := by
  obtain ⟨l1, l2, l3, l4, l5⟩ := h.lo
  obtain ⟨p1, p2, p3, p4⟩ := h.ap
  have ly := h.y.lt
  have hs := hp.2.size
  have hg := hp.1
  exact ⟨hx, h.y.touch hp.2 (by omega) (by omega) (by omega) (by omega), h.bel.trans (hp.2.below l5 l1 l2), by omega, by omega⟩
theorem Two.putY (h : Two w wr tx gx ty gy a b mx my) (hy : TB w' ty g' b my') (hp : Puts wr w' ty gy g') : Two w w' tx gx ty g' a b mx my' := by
  obtain ⟨l1, l2, l3, l4, l5⟩ := h.lo
  obtain ⟨p1, p2, p3, p4⟩ := h.ap
  have lx := h.x.lt
  have hs := hp.2.size
  have hg := hp.1
  exact ⟨h.x.touch hp.2 (by omega) (by omega) (by omega) (by omega), hy, h.bel.trans (hp.2.below l5 l3 l4), by omega, by omega⟩
end
/-- .. with the same keys. -/
def Twin (w wr : World) (tx ty : Nat) (a b : Int) : Prop := ∃ gx gy m ks, Two w wr tx gx ty gy a b m m ∧ Card m ks

set_option maxRecDepth 100000 in
set_option maxHeartbeats 2000000 in
theorem seeds8_walk (a b : Int) (v : Value) (zs : List AskR) (w : World) (hz : AsksAt w v zs) :
    Calls Try.prog 4 #[.int .u64 a, .int .u64 b, v] w fun e w' => e = .returned (.bool true) ∧ Below w.heap.size w w' := by
  have HZ := Lib.hid fun (W : World) (hb : Below w.heap.size w W) => hz.grown hb
  obtain ⟨al, c, rfl, hl, _⟩ := hz
  unfold maxLen at hl
  have tok1 : True := trivial
  have tok2 : True := trivial
  go_enter Try.func4, Try.ntmps4
  go_wp2_with (first | (go_at_call 15; have _t := tok1; refine (new_tb _ _).mono ?_; rintro e w1 ⟨tx, gx, rfl, h1, h2, hX, hb1⟩; clear tok1) | (go_at_call 15; have _t := tok2; refine (new_tb _ _).mono ?_; rintro e w2 ⟨ty, gy, rfl, h3, h4, hY, hb2⟩; clear tok2))
  have hb2' := hb1.trans (hb2.mono hb1.size)
  have h0 : Twin w w2 tx ty a b := by
    have s1 := hb1.size
    have s2 := hb2.size
    have lx := hX.lt
    exact ⟨gx, gy, _, [], ⟨hX.later hb2, hY, hb2', by omega, by omega⟩, Card.nil⟩
  clear hX hY hb1 hb2 hb2' h1 h2 h3 h4
  go_loopw [9] (fun i wr => ∃ k : Nat, k ≤ zs.length ∧ k ≤ 200 ∧ i = .int .i64 k ∧ Twin w wr tx ty a b) (fun i _ => zs.length - (intOf i).toNat)
  case atStart => exact ⟨0, by omega, by omega, rfl, h0⟩
  case round =>
    clear h0
    obtain ⟨k, hk, hk2, rfl, gx', gy', m, ks, hT, hC⟩ := hrel
    by_cases hlt : k < zs.length
    · by_cases hlt2 : k < 200
      · obtain ⟨q, hq⟩ : ∃ q, zs[k]? = some q := ⟨zs[k], List.getElem?_eq_getElem hlt⟩
        obtain ⟨al', c', e1, _, hcells⟩ := HZ.out wr hT.bel
        obtain ⟨bq, oq, e2, q0, q1, q2, q3⟩ := hcells k q hq
        simp only [Value.slice.injEq] at e1
        obtain ⟨rfl, _, rfl⟩ := e1
        subst e2
        have HK : Hid (∀ W, Below w.heap.size w W → W.cell? ⟨bq, oq + k * 4, none⟩ = some (.int .i64 q.kind)) := fun W hW => by
          obtain ⟨al', c', e1, _, hcells⟩ := HZ.out W hW
          obtain ⟨b2, o2, e2, p0, _⟩ := hcells k q hq
          simp only [Value.slice.injEq] at e1
          obtain ⟨rfl, _, rfl⟩ := e1
          simp only [Option.some.injEq, Addr.mk.injEq, and_true] at e2
          obtain ⟨rfl, rfl⟩ := e2
          exact p0
        clear hcells hq
        by_cases hk1 : q.kind = 1
        · have c1 : (q.kind == 1) = true := by simp [hk1]
          clear hk1
          go_wp2_with (first | (go_at_call 24; refine (key8_any _ _ _ _ _).mono ?_; rintro e w3 ⟨key, rfl, hks, hb3⟩; have T3 := hT.step hb3; have hk3 := HK.out w3 T3.bel; have hkm : key.size ≤ maxLen := (by unfold maxLen; omega)) | (go_at_call 17; (with_reducible refine (put_g _ T3.x hC key _ hkm).mono ?_); rintro e w4 ⟨rfl, g4, hX4, hp4⟩; have T4 := T3.putX hX4 hp4) | (go_at_call 17; (with_reducible refine (put_g _ T4.y hC key _ hkm).mono ?_); rintro e w5 ⟨rfl, g5, hY5, hp5⟩; have T5 := T4.putY hY5 hp5; have C5 := hC.put key (k : Int)) | (go_at_call 19; (with_reducible refine (len_tb _ T5.x C5).mono ?_); rintro e w6 ⟨rfl, rfl⟩) | (go_at_call 19; (with_reducible refine (len_tb _ T5.y C5).mono ?_); rintro e w6 ⟨rfl, rfl⟩))
          go_roundw
          case rel => exact ⟨k + 1, by omega, by omega, by go_num, _, _, _, _, T5, C5⟩
          case measure => simp [intOf]; omega
        · have c1 : (q.kind == 1) = false := by simp [hk1]
          by_cases hk2' : q.kind = 2
          · have c2 : (q.kind == 2) = true := by simp [hk2']
            clear hk1 hk2'
            go_wp2_with (first | (go_at_call 24; refine (key8_any _ _ _ _ _).mono ?_; rintro e w3 ⟨key, rfl, hks, hb3⟩; have T3 := hT.step hb3; have hk3 := HK.out w3 T3.bel; have hkm : key.size ≤ maxLen := (by unfold maxLen; omega)) | (go_at_call 18; (with_reducible refine (delete_tb _ T3.x key hkm).mono ?_); rintro e w4 ⟨rfl, hX4, hp4⟩; have T4 := T3.putX hX4 ⟨.inl rfl, hp4⟩) | (go_at_call 18; (with_reducible refine (delete_tb _ T4.y key hkm).mono ?_); rintro e w5 ⟨rfl, hY5, hp5⟩; have T5 := T4.putY hY5 ⟨.inl rfl, hp5⟩; have C5 := filter_card hC key) | (go_at_call 19; (with_reducible refine (len_tb _ T5.x C5).mono ?_); rintro e w6 ⟨rfl, rfl⟩) | (go_at_call 19; (with_reducible refine (len_tb _ T5.y C5).mono ?_); rintro e w6 ⟨rfl, rfl⟩))
            go_roundw
            case rel => exact ⟨k + 1, by omega, by omega, by go_num, _, _, _, _, T5, C5⟩
            case measure => simp [intOf]; omega
          · have c2 : (q.kind == 2) = false := by simp [hk2']
            clear hk1 hk2'
            go_wp2_with (first | (go_at_call 24; refine (key8_any _ _ _ _ _).mono ?_; rintro e w3 ⟨key, rfl, hks, hb3⟩; have T3 := hT.step hb3; have hk3 := HK.out w3 T3.bel; have hkm : key.size ≤ maxLen := (by unfold maxLen; omega)) | (go_at_call 22; (with_reducible refine (get_tb _ T3.x key hkm).mono ?_); rintro e w4 ⟨rfl, hb4⟩; have T4 := T3.step hb4) | (go_at_call 22; (with_reducible refine (get_tb _ T4.y key hkm).mono ?_); rintro e w5 ⟨rfl, hb5⟩; have T5 := T4.step hb5; have C5 := hC) | (go_at_call 19; (with_reducible refine (len_tb _ T5.x C5).mono ?_); rintro e w6 ⟨rfl, rfl⟩) | (go_at_call 19; (with_reducible refine (len_tb _ T5.y C5).mono ?_); rintro e w6 ⟨rfl, rfl⟩))
            go_roundw
            case rel => exact ⟨k + 1, by omega, by omega, by go_num, _, _, _, _, T5, C5⟩
            case measure => simp [intOf]; omega
      · go_wp2_with (first | (go_at_call 26; (with_reducible refine (keys_tb _ hT.x hC).mono ?_); rintro e w3 ⟨vx, lx, rfl, ox, px, bx⟩; have T3 := hT.step bx) | (go_at_call 26; (with_reducible refine (keys_tb _ T3.y hC).mono ?_); rintro e w4 ⟨vy, ly, rfl, oy, py, by4⟩; have T4 := T3.step by4; have ox4 := owns_later ox by4) | (go_at_call 25; refine (bag_yes _ vx vy lx ly (ReadsV.owns ox4) (ReadsV.owns oy) (px.trans py.symm)).mono ?_; rintro e w5 ⟨rfl, n5, rfl⟩; have T5 := T4.step ((IsDrew.one _ n5).below _)) | (go_at_call 23; refine (known8_any _).mono ?_; rintro e w6 ⟨rfl, hb6⟩; have T6 := T5.step hb6))
        go_ret
        exact ⟨rfl, T6.bel⟩
    · go_wp2_with (first | (go_at_call 26; (with_reducible refine (keys_tb _ hT.x hC).mono ?_); rintro e w3 ⟨vx, lx, rfl, ox, px, bx⟩; have T3 := hT.step bx) | (go_at_call 26; (with_reducible refine (keys_tb _ T3.y hC).mono ?_); rintro e w4 ⟨vy, ly, rfl, oy, py, by4⟩; have T4 := T3.step by4; have ox4 := owns_later ox by4) | (go_at_call 25; refine (bag_yes _ vx vy lx ly (ReadsV.owns ox4) (ReadsV.owns oy) (px.trans py.symm)).mono ?_; rintro e w5 ⟨rfl, n5, rfl⟩; have T5 := T4.step ((IsDrew.one _ n5).below _)) | (go_at_call 23; refine (known8_any _).mono ?_; rintro e w6 ⟨rfl, hb6⟩; have T6 := T5.step hb6))
      go_ret
      exact ⟨rfl, T6.bel⟩
end Go.Proofs.Ytkkijcnipjojoaa
