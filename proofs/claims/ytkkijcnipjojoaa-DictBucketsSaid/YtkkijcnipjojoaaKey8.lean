/- Contracts of tallboylaw8: key, known. -/
import Derived.Test.YtkkijcnipjojoaaTabSplit2
import Derived.Test.YtkkijcnipjojoaaKeep
namespace Go.Proofs.Ytkkijcnipjojoaa
open Go.RowKit

def SomeKey (w w' : World) (e : Ending) : Prop := ∃ k : ByteArray, e = .returned (.string k) ∧ k.size ≤ 20 ∧ Below w.heap.size w w'
theorem encode_size (r : Int) : (Utf8.encode r).size ≤ 4 := by
  unfold Utf8.encode
  simp only
  generalize (if Utf8.valid r = true then r.toNat else Utf8.runeError) = c
  split
  · show 1 ≤ 4; decide
  · split
    · show 2 ≤ 4; decide
    · split
      · show 3 ≤ 4; decide
      · show 4 ≤ 4; decide
theorem cutB_size (s : ByteArray) (n : Nat) : (cutB s n).size ≤ n := by
  unfold cutB
  split
  · simp; omega
  · omega
set_option maxRecDepth 100000 in
set_option maxHeartbeats 1000000 in
theorem key8_any (w : World) (K N V : Int) (S : ByteArray) : Calls Try.prog 24 #[.agg #[.int .i64 K, .int .i64 N, .int .i64 V, .string S]] w fun e w' => SomeKey w w' e := by
  have hb := within_bd N 0 1048576 (by omega)
  by_cases c : N.tmod 3 = 0
  · have c1 : (N.tmod 3 == 0) = true := by simp [c]
    have hc := cutB_size S 20
    go_enter Try.func24, Try.ntmps24
    go_wp2_with (go_at_call 59; refine (cut_any S 20 _).mono ?_; rintro e w' ⟨rfl, rfl⟩)
    go_ret
    exact ⟨_, rfl, hc, (Below.refl _ _).alloc (Nat.le_refl _) _⟩
  · have c1 : (N.tmod 3 == 0) = false := by simp [c]
    generalize hn : within N 0 1048576 = n at *
    have HN := Lib.hid hn
    clear hn c
    have e1 := encode_size (48 + n % 150 / 50)
    have e2 := encode_size (48 + n % 50)
    obtain ⟨hb0, hb1⟩ := hb
    go_enter Try.func24, Try.ntmps24
    go_wp2_with (go_at_call 16; refine (within_any _ _ _ _ (by omega) (by omega) (by omega)).mono ?_; rintro e w' ⟨rfl, rfl⟩; rw [HN.out])
    go_ret
    refine ⟨_, rfl, ?_, (Below.refl _ _).alloc (Nat.le_refl _) _⟩
    have : (({ data := #[107] } : ByteArray) ++ Utf8.encode (48 + n % 150 / 50) ++ Utf8.encode (48 + n % 50)).size = 1 + (Utf8.encode (48 + n % 150 / 50)).size + (Utf8.encode (48 + n % 50)).size := by
      rw [ByteArray.size_append, ByteArray.size_append]; rfl
    show (({ data := #[107] } : ByteArray) ++ Utf8.encode (48 + n % 150 / 50) ++ Utf8.encode (48 + n % 50)).size ≤ 20
    omega

/-- A table that has what a function says. -/
def TB (w : World) (tb gb : Nat) (seed : Int) (m : ByteArray → Option Int) : Prop := ∃ S, Tab w tb gb seed S m ∧ Pow S.G
/-- A list of all keys, each once. -/
def Card (m : ByteArray → Option Int) (ks : List ByteArray) : Prop := ks.Nodup ∧ ∀ k, k ∈ ks ↔ m k ≠ none
theorem Card.nil : Card (fun _ => none) [] := ⟨List.nodup_nil, fun k => by simp⟩
theorem Card.snoc {m : ByteArray → Option Int} {ks : List ByteArray} (h : Card m ks) {key : ByteArray} (hk : m key = none) (v : Int) : Card (updM m key (some v)) (ks ++ [key]) := by
  refine ⟨List.nodup_append.2 ⟨h.1, by simp, fun a ha b hb => ?_⟩, fun k => ?_⟩
  · rw [List.mem_singleton] at hb; subst hb; rintro rfl; exact (h.2 a).1 ha hk
  · unfold updM
    by_cases c : k = key
    · subst c; simp
    · rw [if_neg c]; simp [c, h.2 k]
theorem Card.same {m : ByteArray → Option Int} {ks : List ByteArray} (h : Card m ks) {key : ByteArray} (hk : m key ≠ none) (v : Int) : Card (updM m key (some v)) ks := by
  refine ⟨h.1, fun k => ?_⟩
  unfold updM
  by_cases c : k = key
  · subst c; simp [h.2 k, hk]
  · rw [if_neg c]; exact h.2 k

theorem TB.lt {w : World} {tb gb : Nat} {seed : Int} {m : ByteArray → Option Int} (h : TB w tb gb seed m) : tb < w.heap.size ∧ gb < w.heap.size ∧ tb ≠ gb := by
  obtain ⟨S, h1, _⟩ := h; exact ⟨h1.at'.lt.1, h1.at'.lt.2, h1.at'.ne⟩
theorem TB.later {w w' : World} {tb gb : Nat} {seed : Int} {m : ByteArray → Option Int} (h : TB w tb gb seed m) (hb : Below w.heap.size w w') : TB w' tb gb seed m := by
  obtain ⟨S, h1, h2⟩ := h; exact ⟨S, h1.later hb, h2⟩
theorem TB.kept {w w' : World} {tb gb : Nat} {seed : Int} {m : ByteArray → Option Int} (h : TB w tb gb seed m) (h1 : w'.heap[tb]? = w.heap[tb]?) (h2 : w'.heap[gb]? = w.heap[gb]?) : TB w' tb gb seed m := by
  obtain ⟨S, h3, h4⟩ := h; exact ⟨S, ⟨h3.at'.later h1 h2, h3.good, h3.sum, h3.gle, h3.ksz⟩, h4⟩
theorem TB.touch {w w' : World} {ta ga tb gb : Nat} {seed : Int} {m : ByteArray → Option Int} (h : TB w tb gb seed m) (ht : Touch w w' ta ga) (h1 : tb ≠ ta) (h2 : tb ≠ ga) (h3 : gb ≠ ta) (h4 : gb ≠ ga) : TB w' tb gb seed m := by
  obtain ⟨S, h5, h6⟩ := h; exact ⟨S, h5.touch ht h1 h2 h3 h4, h6⟩

theorem new_tb (seed : Int) (w : World) : Calls Try.prog 15 #[.int .u64 seed] w fun e w' =>
    ∃ tb gb, e = .returned (.pointer (some ⟨tb, 0, none⟩)) ∧ w.heap.size ≤ gb ∧ gb < tb ∧ TB w' tb gb seed (fun _ => none) ∧ Below w.heap.size w w' := by
  refine (new8_any seed w).mono ?_
  rintro e w' ⟨tb, gb, rfl, h1, h2, h3, h4⟩
  exact ⟨tb, gb, rfl, h1, h2, ⟨emptyG 1, Tab.empty (by omega) (by omega) h3, .inl rfl⟩, h4⟩

/-- A call that touched a table alone: its groups may lie in a new block. -/
def Puts (w w' : World) (tb gb gb' : Nat) : Prop := (gb' = gb ∨ w.heap.size ≤ gb') ∧ Touch w w' tb gb
theorem put_tb {tb gb : Nat} {seed : Int} {m : ByteArray → Option Int} {ks : List ByteArray} (w : World) (hT : TB w tb gb seed m) (hc : Card m ks) (key : ByteArray) (v : Int) (hkey : key.size ≤ maxLen) (hr : m key ≠ none ∨ ks.length < 112) :
    Calls Try.prog 17 #[.pointer (some ⟨tb, 0, none⟩), .string key, .int .i64 v] w fun e w' => e = .returned (.int .i64 0) ∧ ∃ gb', TB w' tb gb' seed (updM m key (some v)) ∧ Puts w w' tb gb gb' := by
  obtain ⟨S, h1, h2⟩ := hT
  have hn := (h1.good.count ks hc.1 hc.2).1
  refine (put_any w h1 h2 key v hkey).mono ?_
  rintro e w' (⟨h3, h4, _⟩ | ⟨_, rfl, gb', S', h5, h6, h7, h8⟩)
  · rcases hr with hr | hr
    · exact absurd h3 hr
    · omega
  · exact ⟨rfl, gb', ⟨S', h6, h7⟩, h5, h8⟩
theorem put_full {tb gb : Nat} {seed : Int} {m : ByteArray → Option Int} {ks : List ByteArray} (w : World) (hT : TB w tb gb seed m) (hc : Card m ks) (key : ByteArray) (v : Int) (hkey : key.size ≤ maxLen) (hm : m key = none) (hr : 112 ≤ ks.length) :
    Calls Try.prog 17 #[.pointer (some ⟨tb, 0, none⟩), .string key, .int .i64 v] w fun e w' => e = .returned (.int .i64 23) ∧ TB w' tb gb seed m ∧ Touch w w' tb gb := by
  obtain ⟨S, h1, h2⟩ := hT
  have hn := (h1.good.count ks hc.1 hc.2).1
  refine (put_any w h1 h2 key v hkey).mono ?_
  rintro e w' (⟨_, _, rfl, h3, h4⟩ | ⟨h3, _⟩)
  · exact ⟨rfl, ⟨S, h3, h2⟩, h4⟩
  · rcases h3 with h3 | h3
    · exact absurd hm h3
    · omega
theorem get_tb {tb gb : Nat} {seed : Int} {m : ByteArray → Option Int} (w : World) (hT : TB w tb gb seed m) (key : ByteArray) (hkey : key.size ≤ maxLen) :
    Calls Try.prog 22 #[.pointer (some ⟨tb, 0, none⟩), .string key] w fun e w' => e = .returned (.tuple #[.int .i64 ((m key).getD 0), .bool (m key).isSome]) ∧ Below w.heap.size w w' := by
  obtain ⟨S, h1, h2⟩ := hT
  exact get_any w h1.at' h1.good h1.gle key hkey
theorem delete_tb {tb gb : Nat} {seed : Int} {m : ByteArray → Option Int} (w : World) (hT : TB w tb gb seed m) (key : ByteArray) (hkey : key.size ≤ maxLen) :
    Calls Try.prog 18 #[.pointer (some ⟨tb, 0, none⟩), .string key] w fun e w' => e = .returned (.bool (m key).isSome) ∧ TB w' tb gb seed (updM m key none) ∧ Touch w w' tb gb := by
  obtain ⟨S, h1, h2⟩ := hT
  refine (delete_any w h1 key hkey).mono ?_
  rintro e w' ⟨rfl, S', h3, h4, h5⟩
  exact ⟨rfl, ⟨S', h3, by rw [h4]; exact h2⟩, h5⟩
theorem len_tb {tb gb : Nat} {seed : Int} {m : ByteArray → Option Int} {ks : List ByteArray} (w : World) (hT : TB w tb gb seed m) (hc : Card m ks) :
    Calls Try.prog 19 #[.pointer (some ⟨tb, 0, none⟩)] w fun e w' => e = .returned (.int .i64 (ks.length : Nat)) ∧ w = w' := by
  obtain ⟨S, h1, h2⟩ := hT
  have hn := (h1.good.count ks hc.1 hc.2).1
  have := len8_any h1.at'
  rw [hn] at this
  exact this
theorem keys_tb {tb gb : Nat} {seed : Int} {m : ByteArray → Option Int} {ks : List ByteArray} (w : World) (hT : TB w tb gb seed m) (hc : Card m ks) :
    Calls Try.prog 26 #[.pointer (some ⟨tb, 0, none⟩)] w fun e w' => ∃ v l, e = .returned v ∧ w'.ownsRow w.heap.size 9 1 v l.length (l.map Value.string) ∧ List.Perm l ks ∧ Below w.heap.size w w' := by
  obtain ⟨S, h1, h2⟩ := hT
  refine (keys_any w h1).mono ?_
  rintro e w' ⟨v, rfl, h3, h4⟩
  exact ⟨v, _, rfl, h3, (h1.good.count ks hc.1 hc.2).2, h4⟩

def kA : ByteArray := { data := #[97] }
theorem kA_size : kA.size ≤ maxLen := by decide
theorem puts_below {w w' : World} {tb gb gb' B : Nat} (h : Puts w w' tb gb gb') (h0 : B ≤ w.heap.size) (h1 : B ≤ tb) (h2 : B ≤ gb) : Below B w w' ∧ B ≤ gb' := ⟨h.2.below h0 h1 h2, by have := h.1; omega⟩

set_option maxRecDepth 100000 in
set_option maxHeartbeats 1000000 in
theorem known8_any (w : World) : Calls Try.prog 23 #[] w fun e w' => e = .returned (.bool true) ∧ Below w.heap.size w w' := by
  have hm1 : updM (fun _ => none) kA (some 1) kA = some 1 := by simp [updM]
  have hm2 : updM (updM (fun _ => none) kA (some 1)) kA (some 2) kA = some 2 := by simp [updM]
  have hc1 : Card (updM (fun _ => none) kA (some 1)) [kA] := Card.nil.snoc (key := kA) rfl 1
  have hc2 : Card (updM (updM (fun _ => none) kA (some 1)) kA (some 2)) [kA] := hc1.same (by rw [hm1]; simp) 2
  have hh1 : updM (fun _ => none) kA (some 1) kA ≠ none := by rw [hm1]; simp
  have HM2 := Lib.hid hm2
  have HH1 := Lib.hid hh1
  clear hm1 hm2 hh1
  have tok1 : True := trivial
  have tok2 : True := trivial
  have H2 := Lib.hid fun (W : World) tb gb (hT : TB W tb gb 1 (updM (fun _ => none) kA (some 1))) => put_tb W hT hc1 kA 2 kA_size (.inl HH1.out)
  have H3 := Lib.hid fun (W : World) tb gb (hT : TB W tb gb 1 (updM (updM (fun _ => none) kA (some 1)) kA (some 2))) => HM2.out ▸ get_tb W hT kA kA_size
  have H4 := Lib.hid fun (W : World) tb gb (hT : TB W tb gb 1 (updM (updM (fun _ => none) kA (some 1)) kA (some 2))) => len_tb W hT hc2
  have H1 := Lib.hid fun (W : World) tb gb (hT : TB W tb gb 1 (fun _ => none)) => put_tb W hT Card.nil kA 1 kA_size (.inr (by simp))
  clear hc1 hc2
  go_enter Try.func23, Try.ntmps23
  go_wp2_with (first | (go_at_call 15; refine (new_tb _ _).mono ?_; rintro e w1 ⟨tb, gb, rfl, h1, h2, hT, hb⟩; have hsz := hb.size) | (go_at_call 17; have _t := tok1; refine (H1.out _ _ _ hT).mono ?_; rintro e w2 ⟨rfl, g2, hT2, hp2⟩; obtain ⟨b2, l2⟩ := puts_below hp2 hsz (by omega) h1; have hsz2 := hp2.2.size; clear tok1) | (go_at_call 17; have _t := tok2; refine (H2.out _ _ _ hT2).mono ?_; rintro e w3 ⟨rfl, g3, hT3, hp3⟩; obtain ⟨b3, l3⟩ := puts_below (B := w.heap.size) hp3 (by omega) (by omega) l2; have hsz3 := hp3.2.size; clear tok2) | (go_at_call 22; refine (H3.out _ _ _ hT3).mono ?_; rintro e w4 ⟨rfl, hb4⟩; have hT4 := hT3.later hb4; have hsz4 := hb4.size; have HG := Lib.hid hT4; obtain ⟨S4, hS4, hP4⟩ := hT4; have hg4 := hS4.good.pos) | (go_at_call 19; refine (H4.out _ _ _ HG.out).mono ?_; rintro e w5 ⟨rfl, rfl⟩) | (go_at_call 21; refine (groups8_any hS4.at').mono ?_; rintro e w6 ⟨rfl, rfl⟩))
  have hbe : Below w.heap.size w w4 := ((hb.trans b2).trans b3).trans (hb4.mono (by omega))
  go_ret
  exact ⟨by simp; omega, hbe⟩
end Go.Proofs.Ytkkijcnipjojoaa
