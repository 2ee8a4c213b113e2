/- The walk of DictBuckets: a dict's buckets, all cursors through, are its keys. -/
import Derived.Test.YtkkijcnipjojoaaDDel
import Derived.Deep.CutBlock
namespace Go.Proofs.Ytkkijcnipjojoaa
open Go.RowKit

theorem rbucket_any (c d : Int) (w : World) (h0 : 0 ≤ c) (h1 : c < 18446744073709551616) :
    Calls Try.prog 39 #[.int .u64 c, .int .i64 d] w fun e w' => e = .returned (.int .u64 (lowI c d)) ∧ w = w' := by
  go_enter Try.func39, Try.ntmps39
  go_wp2_with (go_at_call 38; refine (rlow_any _ _ _ (by omega) (by omega)).mono ?_; rintro e w' ⟨rfl, rfl⟩)
  go_ret
  exact ⟨rfl, rfl⟩
theorem filter_upto {α : Type} (f : α → Nat) (l : List α) (n : Nat) : (upTo (fun i => l.filter fun k => decide (f k = i)) n).Perm (l.filter fun k => decide (f k < n)) := by
  induction n with
  | zero => simp [upTo]
  | succ n ih =>
    unfold upTo
    refine (ih.append_right _).trans ?_
    clear ih
    induction l with
    | nil => exact List.Perm.refl _
    | cons a l ih =>
      by_cases c1 : f a < n
      · rw [List.filter_cons_of_pos (by simpa using c1), List.filter_cons_of_neg (by simp; omega), List.filter_cons_of_pos (by simp; omega)]
        exact ih.cons a
      · by_cases c2 : f a = n
        · rw [List.filter_cons_of_neg (by simpa using c1), List.filter_cons_of_pos (by simpa using c2), List.filter_cons_of_pos (by simp; omega)]
          exact List.perm_middle.trans (ih.cons a)
        · rw [List.filter_cons_of_neg (by simpa using c1), List.filter_cons_of_neg (by simpa using c2), List.filter_cons_of_neg (by simp; omega)]
          exact ih
theorem bucket_trn (seed : Int) (S : Nat × List PartR) (i : Nat) (hi : i < 2 ^ S.1) : bucketL seed S (trn i S.1) = (allK S.2).filter fun k => decide (trn (hN seed k) S.1 = i) := by
  unfold bucketL
  refine List.filter_congr fun k _ => ?_
  rw [Nat.mod_eq_of_lt (trn_lt i S.1)]
  refine decide_eq_decide.2 ⟨fun h => ?_, fun h => ?_⟩
  · rw [← trn_mod, h, trn_trn, Nat.mod_eq_of_lt hi]
  · rw [← h, trn_trn]
theorem upTo_congr {α : Type} {f g : Nat → List α} {n : Nat} (h : ∀ i, i < n → f i = g i) : upTo f n = upTo g n := by
  induction n with
  | zero => rfl
  | succ n ih => unfold upTo; rw [ih fun i hi => h i (by omega), h n (by omega)]
theorem all_buckets (seed : Int) (S : Nat × List PartR) : (upTo (fun i => bucketL seed S (trn i S.1)) (2 ^ S.1)).Perm (allK S.2) := by
  rw [upTo_congr fun i hi => bucket_trn seed S i hi]
  refine (filter_upto (fun k => trn (hN seed k) S.1) _ _).trans ?_
  have : ((allK S.2).filter fun k => decide (trn (hN seed k) S.1 < 2 ^ S.1)) = allK S.2 := by
    rw [List.filter_eq_self]
    intro k _
    simpa using trn_lt _ _
  rw [this]

theorem owns_fr {w w' : World} {B : Nat} {e : TypeId} {s : Nat} {v : Value} {n : Nat} {xs : List Value} {F F' : Nat → Prop} (h : w.ownsRow B e s v n xs) (hf : Fr w w' F F') (hq : ∀ q, v.ownBlock = some q → ¬ F q) : w'.ownsRow B e s v n xs := by
  rcases id h.2 with ⟨rfl, rfl⟩ | ⟨g, cap, cur, rfl, _, hg, _⟩
  · exact ⟨h.1, .inl ⟨rfl, rfl⟩⟩
  · exact row_kept h (hf.block g (heap_lt' hg) (hq g rfl))
/-- A dict of a call's own, and a list of texts apart from it. -/
structure KeyD (w wr : World) (db : Nat) (seed : Int) (S : Nat × List PartR) (M : ByteArray → Option Int) (F : Nat → Prop) (L : Nat) (v : Value) (ks : List ByteArray) : Prop where
  o : OneD w wr db seed S M F L
  row : wr.ownsRow w.heap.size 9 1 v ks.length (ks.map Value.string)
  ap : ∀ q, v.ownBlock = some q → ¬ F q
section
variable {w wr w' : World} {db : Nat} {seed : Int} {S S' : Nat × List PartR} {M M' : ByteArray → Option Int} {F F' : Nat → Prop} {L L' : Nat} {v : Value} {ks : List ByteArray}
theorem KeyD.step (h : KeyD w wr db seed S M F L v ks) (hb : Below wr.heap.size wr w') : KeyD w w' db seed S M F L v ks := ⟨h.o.step hb, owns_later h.row hb, h.ap⟩
theorem KeyD.put (h : KeyD w wr db seed S M F L v ks) (hd : Dct w' db seed S' M' F' L') (hf : Fr wr w' F F') : KeyD w w' db seed S' M' F' L' v ks := by
  refine ⟨h.o.put hd hf, owns_fr h.row hf h.ap, fun q hq hF => ?_⟩
  rcases hf.new q hF with e | e
  · exact h.ap q hq e
  · have := (h.row.lt q hq).2; omega
theorem KeyD.grow {g cap H : Nat} {k : ByteArray} (h : KeyD w wr db seed S M F L v ks) (h2 : w'.ownsRow w.heap.size 9 1 (.slice (some ⟨g, 0, none⟩) (ks.length + 1) cap) (ks.length + 1) (ks.map Value.string ++ [.string k])) (h3 : wr.grownBy w' v.ownBlock)
    (h4 : v.ownBlock = some g ∨ g = H) (hH : wr.heap.size ≤ H) : KeyD w w' db seed S M F L (.slice (some ⟨g, 0, none⟩) (ks.length + 1) cap) (ks ++ [k]) := by
  have hd : Dct w' db seed S M F L := h.o.d.stay h3.size fun q hq => h3.block q (h.o.d.lt.1 q hq) fun e => h.ap q e.symm hq
  have hb := grown_below h.row h3 h.o.lo
  refine ⟨⟨hd, h.o.bel.trans hb, Nat.le_trans h.o.lo h3.size, h.o.f⟩, by rw [List.length_append, List.length_singleton, List.map_append]; exact h2, fun q hq hF => ?_⟩
  have e5 : g = q := by simpa [Value.ownBlock] using hq
  subst e5
  rcases h4 with h4 | h4
  · exact h.ap _ h4 hF
  · have := h.o.d.lt.1 _ hF; omega
end
theorem own_len2 {w : World} {B : Nat} {e : TypeId} {s : Nat} {v : Value} {n n' : Nat} {xs : List Value} (h : n = n') (ho : w.ownsRow B e s v n xs) : w.ownsRow B e s v n' xs := h ▸ ho
theorem KeyD.grow' {w wr w' : World} {db : Nat} {seed : Int} {S : Nat × List PartR} {M : ByteArray → Option Int} {F : Nat → Prop} {L n : Nat} {v : Value} {ks : List ByteArray} {g cap H : Nat} {k : ByteArray} (hn : ks.length = n) (h : KeyD w wr db seed S M F L v ks) (h2 : w'.ownsRow w.heap.size 9 1 (.slice (some ⟨g, 0, none⟩) (n + 1) cap) (n + 1) (ks.map Value.string ++ [.string k])) (h3 : wr.grownBy w' v.ownBlock)
    (h4 : v.ownBlock = some g ∨ g = H) (hH : wr.heap.size ≤ H) : KeyD w w' db seed S M F L (.slice (some ⟨g, 0, none⟩) (n + 1) cap) (ks ++ [k]) := by
  subst hn
  exact h.grow h2 h3 h4 hH
def g3 (j : Nat) : ByteArray := nameS (j * 3)
theorem g3_inj : ∀ a b, a < 1000 → b < 1000 → g3 a = g3 b → a = b := fun a b ha hb h => by
  have := nameS_inj (by omega) (by omega) h
  omega
theorem namesL_snoc (g : Nat → ByteArray) (j : Nat) : namesL g (j + 1) = namesL g j ++ [g j] := by unfold namesL; rw [List.range_succ]; simp

theorem upTo_le {α : Type} (f : Nat → List α) (i k : Nat) : (upTo f i).length ≤ (upTo f (i + k)).length := by
  induction k with
  | zero => exact Nat.le_refl _
  | succ k ih =>
    show _ ≤ (upTo f (i + k) ++ f (i + k)).length
    rw [List.length_append]; omega
theorem bucketL_hash {seed : Int} {S : Nat × List PartR} {c : Nat} {y : ByteArray} (h : y ∈ bucketL seed S c) : hN seed y % 2 ^ S.1 = c % 2 ^ S.1 := by
  unfold bucketL at h
  rw [List.mem_filter] at h
  simpa using h.2
set_option maxRecDepth 100000 in
set_option maxHeartbeats 4000000 in
theorem dbuck_walk (seed n : Int) (w : World) : Calls Try.prog 8 #[.int .u64 seed, .int .i64 n] w fun e w' => e = .returned (.bool true) ∧ Below w.heap.size w w' := by
  have hb := within_bd n 0 500 (by omega)
  generalize hk : within n 0 500 = kk at *
  have HK := Lib.hid hk
  clear hk
  obtain ⟨hb0, hb1⟩ := hb
  obtain ⟨k, rfl⟩ := Int.eq_ofNat_of_zero_le hb0
  have hk4 : k ≤ 500 := by omega
  obtain ⟨iS, hiS, zS0, zS1, zS2⟩ := info_parts info_str
  go_enter Try.func8, Try.ntmps8
  go_upto_block 0 with (first | (go_at_call 32; refine (new_d _ _).mono ?_; rintro e w1 ⟨db, F, rfl, hD1, hb1, hF1⟩; have O1 : KeyD w w1 db seed _ _ F 0 (.slice none 0 0) [] := ⟨⟨hD1, hb1, hb1.size, hF1⟩, World.ownsRow_nil _ _ _ _, fun q hq => by simp [Value.ownBlock] at hq⟩; clear hD1 hb1 hF1) | (go_at_call 16; refine (within_any _ _ _ _ (by omega) (by omega) (by omega)).mono ?_; rintro e w' ⟨rfl, rfl⟩; rw [HK.out]))
  go_cut [7, 8] from 20 to 37 (fun v _ W => ∃ S M F a c, v = .slice a k c ∧ KeyD w W db seed S M F (2 * k) v (namesL g3 k) ∧ NamesM g3 M 0 k (fun i => (i : Int)))
  case first =>
    go_wp2
    go_loopg [7, 8] k (fun g v i wr => ∃ j : Nat, j + g = k ∧ i = .int .i64 j ∧ ∃ S M F, KeyD w wr db seed S M F (2 * j) v (namesL g3 j) ∧ NamesM g3 M 0 j (fun i => (i : Int)))
    case atStart => exact ⟨0, by omega, rfl, _, _, _, O1, NamesM.start _ _ _⟩
    case round =>
      clear O1
      obtain ⟨j, hj, rfl, S1, M1, F1, hO, hN⟩ := hrel
      have HNM := Lib.hid hN
      have HJ := Lib.hid hj
      have hjk : j ≤ k := by omega
      clear hN hj
      have hnl := namesL_len g3 j
      obtain ⟨ak, ck, rfl⟩ := owns_slice hO.row
      by_cases hlt : j < k
      · have hj4 : j ≤ 500 := by omega
        have HPU := Lib.hid fun (W : World) (F : Nat → Prop) (h : Dct W db seed S1 M1 F (2 * j)) => put_d h (g3 j) (nameS_size _) (j : Int) (by omega)
        obtain ⟨t, ht⟩ : ∃ t, t = j * 3 := ⟨_, rfl⟩
        have HNA := Lib.hid fun (W : World) => name_any t W (by omega)
        have hj3 : (j : Int) * 3 = (t : Int) := by omega
        have HGE : Hid (nameS t = g3 j) := by unfold Hid; rw [ht]; rfl
        have HKN := Lib.hid (NamesM.put HNM.out g3_inj (by omega) (Nat.zero_le j))
        have HSN := Lib.hid (namesL_snoc g3 j)
        rw [HGE.out] at HNA
        rw [hnl] at *
        have hlo := hO.o.lo
        clear ht hnl
        generalize g3 j = key at *
        have tok1 : True := trivial
        have tok2 : True := trivial
        go_wp2_with (first | (go_at_call 33; have _t := tok1; refine (HNA.out _).mono ?_; rintro e w3 ⟨rfl, rfl⟩; clear tok1) | (go_at_call 33; have _t := tok2; refine (HNA.out _).mono ?_; rintro e w3 ⟨rfl, rfl⟩; clear tok2) | (at_builtin; refine wpList_append_lies _ rfl (.tmp 25) (.tmp 29) 39 rfl w.heap.size 9 iS (.string ByteArray.empty) 1 16 Try.underlying39 hiS zS0 zS1 zS2 rfl (by decide) _ _ _ rfl (own_len2 (namesL_len g3 j) (hO.step (b_al8 _ _)).row) ⟨wr.heap.size, 0, none⟩ 1 1 [.string key] rfl rfl (cell1 _ _ _) str_cell (by omega) (by unfold maxLen; omega) (by omega) (by simp; omega) _ rfl ?_; intro g cap w4 h2 h3 h4 h5; have O4 := KeyD.grow' (namesL_len g3 j) (hO.step (b_al8 _ _)) h2 h3 h4 (by simp); clear h2 h3 h4) | (go_at_call 34; refine (HPU.out _ _ O4.o.d).mono ?_; rintro e w5 ⟨rfl, F5, hD5, hf5⟩; have O5 := O4.put hD5 hf5))
        go_roundg (gk - 1)
        case measure => have := HJ.out; omega
        case rel => exact ⟨j + 1, by have := HJ.out; omega, by go_num, _, _, _, HSN.out ▸ O5, HKN.out⟩
      · obtain rfl : j = k := by omega
        rw [hnl] at *
        go_wp2
        go_meet
        case rel => exact ⟨S1, M1, F1, ak, ck, rfl, hO, HNM.out⟩
  case rest =>
    obtain ⟨S1, M1, F1, ak, ck, rfl, hO, hNM⟩ := hcut
    have HNM := Lib.hid hNM
    clear hNM
    have hperm := hO.o.perm HNM.out g3_inj (by omega)
    have hdm := hO.o.d.sok.dmax
    have HDE := Lib.hid fun (W : World) (F : Nat → Prop) (L : Nat) (h : Dct W db seed S1 M1 F L) => depth_d h
    have HO := Lib.hid hO
    have hfew := hperm.length_eq
    rw [namesL_len] at hfew
    have HFW := Lib.hid hfew
    have HPE := Lib.hid hperm
    have HSZ : Hid (∀ y ∈ allK S1.2, y.size ≤ maxLen) := fun y hy => by have := hO.o.d.sok.all_size hy; unfold maxLen; omega
    clear hO hperm hfew HNM
    by_cases hdep : 10 < S1.1
    · have hd1 : (10 : Int) < ((S1.1 : Nat) : Int) := by omega
      go_wp2_with (first | (go_at_call 35; refine (HDE.out _ _ _ HO.out.o.d).mono ?_; rintro e w5 ⟨rfl, rfl⟩) | (go_at_call 36; refine (known10_any _).mono ?_; rintro e w6 ⟨rfl, hb6⟩; have O6 := HO.out.step hb6))
      go_ret
      exact ⟨rfl, O6.o.bel⟩
    · have hd1 : ¬ (10 : Int) < ((S1.1 : Nat) : Int) := by omega
      have hpw := pow16 hdm
      have hpos := Nat.two_pow_pos S1.1
      obtain ⟨N, hN⟩ : ∃ N, N = 2 ^ S1.1 := ⟨_, rfl⟩
      have HSH : Hid (wrap64 (2 ^ S1.1) = (N : Int)) := by
        have := wrap_pow64 (S1.1 : Int) (by omega) (by omega)
        unfold Hid
        rw [hN]
        simpa using this
      rw [← hN] at hpw hpos
      have HN := Lib.hid hN
      clear hN
      have HF0 : Hid (trn 0 S1.1 = 0) := trn_zero _
      go_wp2_with (go_at_call 35; refine (HDE.out _ _ _ HO.out.o.d).mono ?_; rintro e w5 ⟨rfl, rfl⟩)
      go_loopg [9, 10, 11] N (fun g va cv iv wt => ∃ (i : Nat) (la : List ByteArray), i + g = N ∧ iv = .int .i64 i ∧ cv = .int .u64 (trn i S1.1 : Nat) ∧ wt.ownsRow wc.heap.size 9 1 va la.length (la.map Value.string) ∧ la.Perm (upTo (fun i => bucketL seed S1 (trn i S1.1)) i) ∧ Below wc.heap.size wc wt)
      case atStart => exact ⟨0, [], by omega, rfl, by rw [HF0.out]; rfl, World.ownsRow_nil _ _ _ _, List.Perm.refl _, Below.refl _ _⟩
      case round =>
        obtain ⟨i, la, hi, rfl, rfl, ho, hp, hb⟩ := hrel
        have HI := Lib.hid hi
        have hiN : i ≤ N := by omega
        clear hi
        have hT := HO.out.step hb
        have hall := (all_buckets seed S1).length_eq
        rw [← HN.out] at hall
        have hlal := hp.length_eq
        have hle := upTo_le (fun i => bucketL seed S1 (trn i S1.1)) i (N - i)
        rw [show i + (N - i) = N by omega, hall, HFW.out, ← hlal] at hle
        have hll : la.length ≤ 500 := by omega
        have HP := Lib.hid hp
        have HT := Lib.hid hT
        have HB := Lib.hid hb
        have htl := trn_lt i S1.1
        rw [← HN.out] at htl
        have htb : ((trn i S1.1 : Nat) : Int) < 18446744073709551616 := by omega
        clear htl
        have hsz := hb.size
        by_cases hlt2 : i < N
        · have HBU := Lib.hid (bucket_d hT.o.d (by omega) ((trn i S1.1 : Nat) : Int) (by omega) htb)
          have HNX := Lib.hid fun (W : World) => rnext_any ((trn i S1.1 : Nat) : Int) (S1.1 : Int) W (by omega) htb
          have hn0 : nxt ((trn i S1.1 : Nat) : Int).toNat (clampI (S1.1 : Int)).toNat = trn (i + 1) S1.1 := by
            rw [clamp_in _ (by omega) (by omega)]
            simp only [Int.toNat_natCast]
            exact nxt_trn i S1.1 (HN.out ▸ hlt2)
          rw [hn0] at HNX
          have hst : (upTo (fun i => bucketL seed S1 (trn i S1.1)) (i + 1)) = upTo (fun i => bucketL seed S1 (trn i S1.1)) i ++ bucketL seed S1 (trn i S1.1) := rfl
          have hbl := bucketL_len seed S1 (trn i S1.1)
          rw [HFW.out] at hbl
          have HST := Lib.hid hst
          have HLW := Lib.hid fun (W : World) (y : ByteArray) (hd : S1.1 ≤ 16) => low_hk seed y S1.1 hd ▸ rlow_any (hk seed y) S1.1 W (hk_bd seed y).1 (hk_bd seed y).2
          have HRB := Lib.hid fun (W : World) (hd : S1.1 ≤ 16) => low_nat ((trn i S1.1 : Nat) : Int) S1.1 (by omega) hd ▸ rbucket_any ((trn i S1.1 : Nat) : Int) S1.1 W (by omega) htb
          clear hp hT hall hlal hle hb hn0 hst htb
          have hsh := HSH.out
          go_upto_block 4 with (first | (go_at_call 35; refine (HDE.out _ _ _ HT.out.o.d).mono ?_; rintro e w5 ⟨rfl, rfl⟩) | (go_at_call 37; refine HBU.out.mono ?_; rintro e w3 ⟨v2, l2, rfl, o2, p2, hb3⟩; simp only [Int.toNat_natCast] at p2; obtain ⟨a2, c2, e2, _, hcc2⟩ := (ReadsV.owns o2).len; subst e2))
          have hl2 := p2.length_eq
          have T3 := Lib.hid (HT.out.step hb3)
          have HO3 := Lib.hid (owns_later ho hb3)
          have HP2 := Lib.hid p2
          have HCC := Lib.hid hcc2
          have HO2 := Lib.hid o2
          have HB3 := Lib.hid hb3
          have hsz3 := hb3.size
          rw [← hl2] at hbl
          clear p2 hcc2 o2 hb3 hl2 ho
          simp only [Int.toNat_natCast] at HRB
          go_cut [13] from 53 to 72 (fun _ W => W = w3)
          case first =>
            go_wp2
            go_loop [13] (fun jv => ∃ m : Nat, m ≤ l2.length ∧ jv = .int .i64 m) (fun jv => l2.length - (intOf jv).toNat)
            case atStart => exact ⟨0, by omega, rfl⟩
            case round =>
              obtain ⟨m, hm, rfl⟩ := hrel
              by_cases hml : m < l2.length
              · obtain ⟨y, hy⟩ : ∃ y, l2[m]? = some y := ⟨_, List.getElem?_eq_getElem hml⟩
                obtain ⟨b2, off2, hab, hcy⟩ := HCC.out m y hy
                subst hab
                have hyb := HP2.out.mem_iff.1 (List.mem_of_getElem? hy)
                have hys : y.size ≤ maxLen := HSZ.out y (by unfold bucketL at hyb; exact (List.mem_filter.1 hyb).1)
                have HHY := Lib.hid fun (W : World) => rhash_hk seed y W hys
                have HLY := Lib.hid fun (W : World) => bucketL_hash hyb ▸ HLW.out W y hdm
                have HRY := Lib.hid fun (W : World) => HRB.out W hdm
                clear hy hyb
                generalize trn i S1.1 % 2 ^ S1.1 = z at *
                go_wp2_with (first | (go_at_call 29; refine (HHY.out _).mono ?_; rintro e w5 ⟨rfl, rfl⟩) | (go_at_call 35; refine (HDE.out _ _ _ T3.out.o.d).mono ?_; rintro e w5 ⟨rfl, rfl⟩) | (go_at_call 38; refine (HLY.out _).mono ?_; rintro e w5 ⟨rfl, rfl⟩) | (go_at_call 39; refine (HRY.out _).mono ?_; rintro e w5 ⟨rfl, rfl⟩))
                go_round
                case rel => exact ⟨m + 1, by omega, by go_num⟩
                case measure => simp [intOf]; omega
              · obtain rfl : m = l2.length := by omega
                go_wp2
                go_meet
                case rel => rfl
          case rest =>
            subst hcut
            go_wp2_with (first | (go_at_call 35; refine (HDE.out _ _ _ T4.out.o.d).mono ?_; rintro e w5 ⟨rfl, rfl⟩) | (go_at_call 40; refine (HNX.out _).mono ?_; rintro e w5 ⟨rfl, rfl⟩) | (at_builtin; refine wpList_append_two _ rfl (.tmp 73) (.tmp 74) 39 rfl _ 9 iS (.string ByteArray.empty) 16 Try.underlying39 hiS zS0 zS1 zS2 rfl _ _ _ rfl HO3.out _ _ _ _ rfl HO2.out (strs_one _) (by unfold maxLen; omega) (by omega) (by omega) ?_; intro v' w4 o3 b4; have hb5 := (HB.out.trans (HB3.out.mono hsz)).trans b4; have T4 := Lib.hid (HO.out.step hb5); have HB5 := Lib.hid hb5; have HO4 := Lib.hid o3; clear o3 b4 hb5))
            go_roundg (gk - 1)
            case measure => have := HI.out; omega
            case rel =>
              refine ⟨i + 1, la ++ l2, by have := HI.out; omega, by go_num, rfl, ?_, ?_, HB5.out⟩
              · rw [List.length_append, List.map_append]
                exact HO4.out
              · rw [HST.out]
                exact HP.out.append HP2.out
        · obtain rfl : i = N := by omega
          have hc0 : trn i S1.1 = 0 := by rw [HN.out]; exact trn_full _
          have hlj : la.length = k := by rw [hlal, hall, HFW.out]
          have hpk : la.Perm (namesL g3 k) := hp.trans ((HN.out ▸ all_buckets seed S1).trans HPE.out)
          have HPK := Lib.hid hpk
          have HRO := Lib.hid (ReadsV.owns ho)
          obtain ⟨av, cv, rfl⟩ := owns_slice ho
          rw [hc0] at *
          rw [hlj] at *
          have hsh := HSH.out
          clear hp hT hall hlal hle hb hpk ho hc0 hlj htb
          go_wp2_with (first | (go_at_call 35; refine (HDE.out _ _ _ HT.out.o.d).mono ?_; rintro e w5 ⟨rfl, rfl⟩) | (go_at_call 25; refine (bag_yes _ _ _ la (namesL g3 k) HRO.out (ReadsV.owns HT.out.row) HPK.out).mono ?_; rintro e w5 ⟨rfl, n5, rfl⟩; have T5 := HT.out.step ((IsDrew.one _ n5).below _)) | (go_at_call 36; refine (known10_any _).mono ?_; rintro e w6 ⟨rfl, hb6⟩; have T6 := T5.step hb6))
          go_ret
          exact ⟨rfl, T6.o.bel⟩
end Go.Proofs.Ytkkijcnipjojoaa
