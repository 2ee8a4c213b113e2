/- The walk of TableSplits: a table that is split. -/
import Derived.Test.YtkkijcnipjojoaaPlayM8
import Derived.Test.YtkkijcnipjojoaaAsks
namespace Go.Proofs.Ytkkijcnipjojoaa
open Go.RowKit

/-- Each key has its length. -/
def Lens (m : ByteArray → Option Int) (ks : List ByteArray) : Prop := ∀ k, k ∈ ks → m k = some ((k.size : Nat) : Int)
theorem Lens.snoc {m : ByteArray → Option Int} {ks : List ByteArray} (h : Lens m ks) (k : ByteArray) : Lens (updM m k (some ((k.size : Nat) : Int))) (ks ++ [k]) := by
  intro x hx
  unfold updM
  by_cases c : x = k
  · rw [if_pos c, c]
  · rw [if_neg c]
    rw [List.mem_append, List.mem_singleton] at hx
    exact h x (hx.resolve_right c)
theorem Lens.same {m : ByteArray → Option Int} {ks : List ByteArray} (h : Lens m ks) (k : ByteArray) : Lens (updM m k (some ((k.size : Nat) : Int))) ks := by
  intro x hx
  unfold updM
  by_cases c : x = k
  · rw [if_pos c, c]
  · rw [if_neg c]; exact h x hx
theorem half_card {m : ByteArray → Option Int} {ks : List ByteArray} (h : Card m ks) (seed bit : Int) (s : Int) : Card (fun k => if sideI (hk seed k) bit = s then m k else none) (ks.filter fun k => decide (sideI (hk seed k) bit = s)) := by
  refine ⟨h.1.filter _, fun k => ?_⟩
  rw [List.mem_filter, h.2 k]
  by_cases c : sideI (hk seed k) bit = s
  · simp [c]
  · simp [c]

theorem b_al8 (w : World) (O : Obj) : Below w.heap.size w (w.alloc O) := (Below.refl _ _).alloc (Nat.le_refl _) _
theorem splits_growK {w wr w' : World} {tb gb g cap H : Nat} {seed : Int} {m : ByteArray → Option Int} {ks : List ByteArray} {vs : List Int} {vk vv : Value} {key : ByteArray} (h : PM w wr tb gb seed m ks vs vk vv)
    (h2 : w'.ownsRow w.heap.size 9 1 (.slice (some ⟨g, 0, none⟩) (ks.length + 1) cap) (ks.length + 1) (ks.map Value.string ++ [.string key])) (h3 : wr.grownBy w' vk.ownBlock) (h4 : vk.ownBlock = some g ∨ g = H) (hH : wr.heap.size ≤ H) :
    PM w w' tb gb seed m (ks ++ [key]) vs (.slice (some ⟨g, 0, none⟩) (ks.length + 1) cap) vv :=
  h.growK (ks' := ks ++ [key]) (by rw [List.length_append, List.length_singleton, List.map_append]; exact h2) h3 (by
    rcases h4 with h4 | h4
    · exact .inl h4.symm
    · exact .inr ⟨g, rfl, by omega⟩)

/-- The first loop's state. -/
def SplA (w wr : World) (tb : Nat) (seed : Int) (v : Value) (n : Nat) : Prop := ∃ gb m ks, PM w wr tb gb seed m ks [] v (.slice none 0 0) ∧ Card m ks ∧ Lens m ks ∧ ks.length ≤ n

theorem rhash_hk (seed : Int) (s : ByteArray) (w : World) (hs : s.size ≤ maxLen) : Calls Try.prog 29 #[.int .u64 seed, .string s] w fun e w' => e = .returned (.int .u64 (hk seed s)) ∧ w = w' := rhash_any seed s w hs
theorem split_tb {tb gb : Nat} {seed bit : Int} {m : ByteArray → Option Int} (w : World) (hT : TB w tb gb seed m) :
    Calls Try.prog 28 #[.pointer (some ⟨tb, 0, none⟩), .int .i64 bit] w fun e w' => ∃ ta ga tc gc, e = .returned (.tuple #[.pointer (some ⟨ta, 0, none⟩), .pointer (some ⟨tc, 0, none⟩)]) ∧ Below w.heap.size w w' ∧
      TB w' ta ga seed (fun k => if sideI (hk seed k) bit = 0 then m k else none) ∧ TB w' tc gc seed (fun k => if sideI (hk seed k) bit = 1 then m k else none) ∧
      (w.heap.size ≤ ta ∧ w.heap.size ≤ ga ∧ w.heap.size ≤ tc ∧ w.heap.size ≤ gc ∧ ta ≠ tc ∧ ga ≠ gc ∧ ga ≠ tc ∧ gc ≠ ta) := by
  obtain ⟨S, hS, hP⟩ := hT
  refine (split_any w hS hP).mono ?_
  rintro e w' ⟨ta, ga, Sa, tc, gc, Sc, rfl, hb, h1, h2, h3, h4, h5⟩
  exact ⟨ta, ga, tc, gc, rfl, hb, ⟨Sa, h1, h3⟩, ⟨Sc, h2, h4⟩, h5⟩

/-- Two lists of texts of a call's own, apart. -/
structure TR (w wr : World) (xs ys : List ByteArray) (vx vy : Value) : Prop where
  ox : wr.ownsRow w.heap.size 9 1 vx xs.length (xs.map Value.string)
  oy : wr.ownsRow w.heap.size 9 1 vy ys.length (ys.map Value.string)
  ap : ∀ q, vx.ownBlock = some q → vy.ownBlock = some q → False
  lo : w.heap.size ≤ wr.heap.size
  bel : Below w.heap.size w wr
section
variable {w wr w' : World} {xs ys : List ByteArray} {vx vy v' : Value} {g cap H : Nat} {k : ByteArray}
theorem TR.step (h : TR w wr xs ys vx vy) (hb : Below wr.heap.size wr w') : TR w w' xs ys vx vy :=
  ⟨owns_later h.ox hb, owns_later h.oy hb, h.ap, Nat.le_trans h.lo hb.size, h.bel.trans (hb.mono h.lo)⟩
theorem TR.swap (h : TR w wr xs ys vx vy) : TR w wr ys xs vy vx := ⟨h.oy, h.ox, fun q h1 h2 => h.ap q h2 h1, h.lo, h.bel⟩
theorem TR.growX (h : TR w wr xs ys vx vy) (h2 : w'.ownsRow w.heap.size 9 1 (.slice (some ⟨g, 0, none⟩) (xs.length + 1) cap) (xs.length + 1) (xs.map Value.string ++ [.string k])) (h3 : wr.grownBy w' vx.ownBlock)
    (h4 : vx.ownBlock = some g ∨ g = H) (hH : wr.heap.size ≤ H) : TR w w' (xs ++ [k]) ys (.slice (some ⟨g, 0, none⟩) (xs.length + 1) cap) vy := by
  refine ⟨by rw [List.length_append, List.length_singleton, List.map_append]; exact h2, ?_, ?_, Nat.le_trans h.lo h3.size, h.bel.trans (grown_below h.ox h3 h.lo)⟩
  · refine h.oy.kept h3 ?_
    cases hv : vy.ownBlock with
    | none => exact .inl rfl
    | some q => exact .inr (fun e => h.ap q e.symm hv)
  · intro q h5 h6
    have e5 : g = q := by simpa [Value.ownBlock] using h5
    subst e5
    rcases h4 with h4 | h4
    · exact h.ap _ h4 h6
    · have := (h.oy.lt _ h6).2; omega
end

set_option maxRecDepth 100000 in
set_option maxHeartbeats 4000000 in
theorem splits8_walk (seed bit : Int) (v : Value) (zs : List AskR) (w : World) (hz : AsksAt w v zs) :
    Calls Try.prog 5 #[.int .u64 seed, v, .int .i64 bit] w fun e w' => e = .returned (.bool true) ∧ Below w.heap.size w w' := by
  have HZ := Lib.hid fun (W : World) (hb : Below w.heap.size w W) => hz.grown hb
  obtain ⟨al, c, rfl, hl, _⟩ := hz
  unfold maxLen at hl
  obtain ⟨iS, hiS, zS0, zS1, zS2⟩ := info_parts info_str
  go_enter Try.func5, Try.ntmps5
  go_wp2_with (go_at_call 15; refine (new_tb _ _).mono ?_; rintro e w1 ⟨tb, gb, rfl, h1, h2, hT, hb1⟩)
  have h0 : SplA w w1 tb seed (.slice none 0 0) 0 := by
    have s1 := hb1.size
    have lt := hT.lt
    exact ⟨gb, _, [], ⟨hT, World.ownsRow_nil _ _ _ _, World.ownsRow_nil _ _ _ _, fun q h => by simp [Value.ownBlock] at h, by simp [Value.ownBlock], by omega, hb1⟩, Card.nil, fun k h => by simp at h, by simp⟩
  clear hT hb1 h1 h2
  go_loopw [8, 9] (fun vk i wr => ∃ k : Nat, k ≤ zs.length ∧ k ≤ 112 ∧ i = .int .i64 k ∧ SplA w wr tb seed vk k) (fun _ i _ => zs.length - (intOf i).toNat)
  case atStart => exact ⟨0, by omega, by omega, rfl, h0⟩
  case round =>
    clear h0
    obtain ⟨k, hkz, hk2, rfl, gb, m, ks, hP, hC, hLn, hfew⟩ := hrel
    obtain ⟨ak, ck, rfl⟩ := owns_slice hP.ok
    by_cases hlt : k < zs.length ∧ k < 112
    · obtain ⟨hlt, hlt2⟩ := hlt
      obtain ⟨q, hq⟩ : ∃ q, zs[k]? = some q := ⟨zs[k], List.getElem?_eq_getElem hlt⟩
      obtain ⟨al', c', e1, _, hcells⟩ := HZ.out wr hP.bel
      obtain ⟨bq, oq, e2, q0, q1, q2, q3⟩ := hcells k q hq
      simp only [Value.slice.injEq] at e1
      obtain ⟨rfl, _, rfl⟩ := e1
      subst e2
      clear hcells hq
      have HC := Lib.hid hC
      have HL := Lib.hid hLn
      clear hC hLn
      go_wp2_with (go_at_call 24; refine (key8_any _ _ _ _ _).mono ?_; rintro e w3 ⟨key, rfl, hks, hb3⟩; have P3 := hP.step hb3; have hkm : key.size ≤ maxLen := (by unfold maxLen; omega))
      have HT := Lib.hid (times_any w3 _ ks key (ReadsV.owns P3.ok))
      have hlo3 := P3.lo.2.2
      by_cases hin : key ∈ ks
      · have hne : m key ≠ none := (HC.out.2 key).1 hin
        have ht : ((timesL ks key : Nat) : Int) = 0 ↔ False := by
          have := times_zero (l := ks) (s := key)
          constructor
          · intro h; exact (this.1 (by omega)) hin
          · intro h; cases h
        have ht2 : (((timesL ks key : Nat) : Int) == 0) = false := by simp only [beq_eq_false_iff_ne]; exact fun h => ht.1 h
        have HM := Lib.hid hne
        clear ht hne hin
        go_wp2_with (first | (go_at_call 27; refine HT.out.mono ?_; rintro e w4 ⟨rfl, rfl⟩) | (go_at_call 17; refine (put_tb _ P3.tab HC.out key _ hkm (.inl HM.out)).mono ?_; rintro e w5 ⟨rfl, g5, hT5, hp5⟩; have P5 := P3.puts hT5 hp5))
        go_roundw
        case rel => exact ⟨k + 1, by omega, by omega, by go_num, g5, _, ks, P5, HC.out.same HM.out _, HL.out.same key, by omega⟩
        case measure => simp [intOf]; omega
      · have hno : m key = none := by
          cases h : m key with
          | none => rfl
          | some x => exact absurd ((HC.out.2 key).2 (by rw [h]; simp)) hin
        have ht2 : (((timesL ks key : Nat) : Int) == 0) = true := by
          have := (times_zero (l := ks) (s := key)).2 hin
          simp [this]
        have HM := Lib.hid hno
        clear hno hin
        go_wp2_with (first | (go_at_call 27; refine HT.out.mono ?_; rintro e w4 ⟨rfl, rfl⟩) | (at_builtin; refine wpList_append_lies _ rfl (.tmp 44) (.tmp 46) 39 rfl w.heap.size 9 iS (.string ByteArray.empty) 1 16 Try.underlying39 hiS zS0 zS1 zS2 rfl (by decide) _ _ _ rfl (P3.step (b_al8 _ _)).ok ⟨w3.heap.size, 0, none⟩ 1 1 [.string key] rfl rfl (cell1 _ _ _) str_cell (by omega) (by unfold maxLen; omega) (by omega) (by simp; omega) _ rfl ?_; intro g cap w' h2 h3 h4 h5; have PK := splits_growK (P3.step (b_al8 _ _)) h2 h3 h4 (by simp)) | (go_at_call 17; refine (put_tb _ PK.tab HC.out key _ hkm (.inr (by omega))).mono ?_; rintro e w5 ⟨rfl, g5, hT5, hp5⟩; have P5 := PK.puts hT5 hp5))
        go_roundw
        case rel => exact ⟨k + 1, by omega, by omega, by go_num, g5, _, ks ++ [key], P5, HC.out.snoc HM.out _, HL.out.snoc key, by simp; omega⟩
        case measure => simp [intOf]; omega
    · have hx : ¬ k < zs.length ∨ (k < zs.length ∧ ¬ k < 112) := by omega
      clear hlt
      have HC := Lib.hid hC
      have HL := Lib.hid hLn
      clear hC hLn
      rcases hx with hx | ⟨hx, hx2⟩
      all_goals
        go_wp2_with (go_at_call 16; refine (within_any _ _ _ _ (by omega) (by omega) (by omega)).mono ?_; rintro e w' ⟨rfl, rfl⟩)
        have P1 := hP.step (b_al8 wr (.cells #[.int .i64 bit, .int .i64 (within bit 0 63)] 3))
        have hnb : (wr.alloc (.cells #[.int .i64 bit, .int .i64 (within bit 0 63)] 3)).heap[wr.heap.size]? = some (.cells #[.int .i64 bit, .int .i64 (within bit 0 63)] 3 (0, 0)) := heap_alloc_new _ _
        have hnl := hP.lo.2.2
        generalize wr.alloc (.cells #[.int .i64 bit, .int .i64 (within bit 0 63)] 3) = w2 at *
        generalize wr.heap.size = nb at *
        clear hP
        go_loopw [59] (fun i ws => ∃ n : Nat, n ≤ 2 ∧ i = .int .i64 n ∧ PM w ws tb gb seed m ks [] (.slice ak ks.length ck) (.slice none 0 0) ∧ ws.heap[nb]? = some (.cells #[.int .i64 bit, .int .i64 (within bit 0 63)] 3 (0, 0))) (fun i _ => 2 - (intOf i).toNat)
        case atStart => exact ⟨0, by omega, rfl, P1, hnb⟩
        case round =>
          clear P1 hnb
          obtain ⟨n, hn, rfl, hP, hnb⟩ := hrel
          by_cases hn2 : n < 2
          · obtain ⟨x, hxc⟩ : ∃ x : Int, wr.cell? ⟨nb, n, none⟩ = some (.int .i64 x) := by
              rw [cell_of_row _ _ _ _ _ _ hnb]
              obtain rfl | rfl : n = 0 ∨ n = 1 := by omega
              · exact ⟨_, rfl⟩
              · exact ⟨_, rfl⟩
            obtain ⟨S, hS, hPow⟩ := hP.tab
            have HSp := Lib.hid (split_tb wr hP.tab (bit := x))
            go_wp2_with (go_at_call 28; refine HSp.out.mono ?_; rintro e w5 ⟨ta, ga, tc, gc, rfl, hb5, hTa, hTc, hd⟩)
            have P5 := hP.step hb5
            have hnb5 : w5.heap[nb]? = some (.cells #[.int .i64 bit, .int .i64 (within bit 0 63)] 3 (0, 0)) := (hb5.block _ (heap_lt' hnb)).trans hnb
            clear hP hnb hS hPow hxc
            have hcK : Hid (∀ W, Below w5.heap.size w5 W → ∀ j y, ks[j]? = some y → ∃ b off, ak = some ⟨b, off, none⟩ ∧ W.cell? ⟨b, off + j, none⟩ = some (.string y)) := fun W hW j y hj => by
              obtain ⟨a', c', e1, _, hc⟩ := (ReadsV.owns (owns_later P5.ok hW)).len
              simp only [Value.slice.injEq] at e1
              obtain ⟨rfl, _, rfl⟩ := e1
              exact hc j y hj
            go_loopw [15, 16, 17] (fun vx vy i wt => ∃ j : Nat, j ≤ ks.length ∧ i = .int .i64 j ∧ TR w5 wt ((ks.take j).filter fun k => decide (sideI (hk seed k) x = 0)) ((ks.take j).filter fun k => decide (sideI (hk seed k) x = 1)) vx vy) (fun _ _ i _ => ks.length - (intOf i).toNat)
            case atStart => exact ⟨0, by omega, rfl, World.ownsRow_nil _ _ _ _, World.ownsRow_nil _ _ _ _, fun q h => by simp [Value.ownBlock] at h, Nat.le_refl _, Below.refl _ _⟩
            case round =>
              obtain ⟨j, hj, rfl, hR⟩ := hrel
              obtain ⟨ax, cx, hax⟩ := owns_slice hR.ox
              obtain ⟨ay, cy, hay⟩ := owns_slice hR.oy
              subst hax hay
              have lx : ((ks.take j).filter fun k => decide (sideI (hk seed k) x = 0)).length ≤ 112 := Nat.le_trans (List.length_filter_le _ _) (by rw [List.length_take]; omega)
              have ly : ((ks.take j).filter fun k => decide (sideI (hk seed k) x = 1)).length ≤ 112 := Nat.le_trans (List.length_filter_le _ _) (by rw [List.length_take]; omega)
              generalize hxs : ((ks.take j).filter fun k => decide (sideI (hk seed k) x = 0)) = xs at *
              generalize hys : ((ks.take j).filter fun k => decide (sideI (hk seed k) x = 1)) = ys at *
              have HX := Lib.hid hxs
              have HY := Lib.hid hys
              clear hxs hys
              by_cases hjl : j < ks.length
              · obtain ⟨y, hy⟩ : ∃ y, ks[j]? = some y := ⟨ks[j], List.getElem?_eq_getElem hjl⟩
                obtain ⟨b, off, hab, hcell⟩ := hcK.out wr hR.bel j y hy
                subst hab
                have hym : y.size ≤ maxLen := by
                  obtain ⟨S, hS, _⟩ := P5.tab
                  exact hS.ksz y _ (HL.out y (List.mem_of_getElem? hy))
                have hb := hk_bd seed y
                have HT : Hid (ks.take (j + 1) = ks.take j ++ [y]) := by unfold Hid; rw [List.take_add_one, hy]; rfl
                have hst := hR.lo
                have hyb : b < wr.heap.size := block_of_cell hcell
                by_cases hin : 0 ≤ x ∧ x < 64
                · obtain ⟨i0, i1⟩ := hin
                  have hbs := bit_and (hk seed y) x.toNat hb.1 hb.2
                  have hsd : sideI (hk seed y) x = hk seed y / 2 ^ x.toNat % 2 := by unfold sideI; rw [if_pos ⟨i0, i1⟩]
                  rcases side_01 (hk seed y) x hb.1 with hs | hs
                  · have q1 : (bits .and .u64 (hk seed y / 2 ^ x.toNat) 1 == 1) = false := by rw [hbs, ← hsd, hs]; rfl
                    have HS := Lib.hid hs
                    clear hbs hsd hs hy
                    go_wp2_with (first | (go_at_call 29; refine (rhash_hk seed y _ hym).mono ?_; rintro e w6 ⟨rfl, rfl⟩) | (at_builtin; refine wpList_append_lies _ rfl (.tmp 107) (.tmp 112) 39 rfl w5.heap.size 9 iS (.string ByteArray.empty) 1 16 Try.underlying39 hiS zS0 zS1 zS2 rfl (by decide) _ _ _ rfl (hR.step (b_al8 _ _)).ox ⟨wr.heap.size, 0, none⟩ 1 1 [.string y] rfl rfl (cell1 _ _ _) str_cell (by omega) (by unfold maxLen; omega) (by omega) (by simp; omega) _ rfl ?_; intro g cap w' h2 h3 h4 h5; have RX := (hR.step (b_al8 _ _)).growX h2 h3 h4 (by simp); clear h2 h3 h4 h5))
                    go_roundw
                    case rel => exact ⟨j + 1, by omega, by go_num, by rw [HT.out, List.filter_append, List.filter_append, HX.out, HY.out]; simp only [List.filter_cons, HS.out, List.filter_nil]; simpa using RX⟩
                    case measure => simp [intOf]; omega
                  · have q1 : (bits .and .u64 (hk seed y / 2 ^ x.toNat) 1 == 1) = true := by rw [hbs, ← hsd, hs]; rfl
                    have HS := Lib.hid hs
                    clear hbs hsd hs hy
                    go_wp2_with (first | (go_at_call 29; refine (rhash_hk seed y _ hym).mono ?_; rintro e w6 ⟨rfl, rfl⟩) | (at_builtin; refine wpList_append_lies _ rfl (.tmp 100) (.tmp 105) 39 rfl w5.heap.size 9 iS (.string ByteArray.empty) 1 16 Try.underlying39 hiS zS0 zS1 zS2 rfl (by decide) _ _ _ rfl (hR.step (b_al8 _ _)).oy ⟨wr.heap.size, 0, none⟩ 1 1 [.string y] rfl rfl (cell1 _ _ _) str_cell (by omega) (by unfold maxLen; omega) (by omega) (by simp; omega) _ rfl ?_; intro g cap w' h2 h3 h4 h5; have RX := ((hR.step (b_al8 _ _)).swap.growX h2 h3 h4 (by simp)).swap; clear h2 h3 h4 h5))
                    go_roundw
                    case rel => exact ⟨j + 1, by omega, by go_num, by rw [HT.out, List.filter_append, List.filter_append, HX.out, HY.out]; simp only [List.filter_cons, HS.out, List.filter_nil]; simpa using RX⟩
                    case measure => simp [intOf]; omega
                · have hs : sideI (hk seed y) x = ((0 : Nat) : Int) := by unfold sideI; rw [if_neg hin]; rfl
                  have HS := Lib.hid hs
                  clear hs hy
                  have hxo : x < 0 ∨ (0 ≤ x ∧ 64 ≤ x) := by omega
                  clear hin
                  rcases hxo with hxo | ⟨hxo, hxo2⟩
                  all_goals
                    go_wp2_with (at_builtin; refine wpList_append_lies _ rfl (.tmp 107) (.tmp 112) 39 rfl w5.heap.size 9 iS (.string ByteArray.empty) 1 16 Try.underlying39 hiS zS0 zS1 zS2 rfl (by decide) _ _ _ rfl (hR.step (b_al8 _ _)).ox ⟨wr.heap.size, 0, none⟩ 1 1 [.string y] rfl rfl (cell1 _ _ _) str_cell (by omega) (by unfold maxLen; omega) (by omega) (by simp; omega) _ rfl ?_; intro g cap w' h2 h3 h4 h5; have RX := (hR.step (b_al8 _ _)).growX h2 h3 h4 (by simp); clear h2 h3 h4 h5)
                    go_roundw
                    case rel => exact ⟨j + 1, by omega, by go_num, by rw [HT.out, List.filter_append, List.filter_append, HX.out, HY.out]; simp only [List.filter_cons, HS.out, List.filter_nil]; simpa using RX⟩
                    case measure => simp [intOf]; omega
              · obtain rfl : j = ks.length := by omega
                have hX := HX.out
                have hY := HY.out
                rw [List.take_length] at hX hY
                have hsx : Hid (∀ W, Below w5.heap.size w5 W → W.ownsRow w5.heap.size 9 1 (.slice ax xs.length cx) xs.length (xs.map Value.string) → Calls Try.prog 30 #[.pointer (some ⟨ta, 0, none⟩), .slice ax xs.length cx] W fun e w' => e = .returned (.bool true) ∧ Below W.heap.size W w') := fun W hW ho =>
                  sound8_any W (hTa.later hW) (hX ▸ half_card HC.out seed x 0) _ (ReadsV.owns ho)
                have hsy : Hid (∀ W, Below w5.heap.size w5 W → W.ownsRow w5.heap.size 9 1 (.slice ay ys.length cy) ys.length (ys.map Value.string) → Calls Try.prog 30 #[.pointer (some ⟨tc, 0, none⟩), .slice ay ys.length cy] W fun e w' => e = .returned (.bool true) ∧ Below W.heap.size W w') := fun W hW ho =>
                  sound8_any W (hTc.later hW) (hY ▸ half_card HC.out seed x 1) _ (ReadsV.owns ho)
                have hsk : Hid (∀ W, Below w5.heap.size w5 W → Calls Try.prog 30 #[.pointer (some ⟨tb, 0, none⟩), .slice ak ks.length ck] W fun e w' => e = .returned (.bool true) ∧ Below W.heap.size W w') := fun W hW =>
                  sound8_any W (P5.step hW).tab HC.out _ (ReadsV.owns (P5.step hW).ok)
                have hyv : Hid (∀ y, y ∈ ys → y.size ≤ maxLen ∧ (if sideI (hk seed y) x = 1 then m y else none) = some ((y.size : Nat) : Int)) := fun y hy => by
                  rw [← hY, List.mem_filter] at hy
                  have h1 := HL.out y hy.1
                  obtain ⟨S, hS, _⟩ := P5.tab
                  exact ⟨hS.ksz y _ h1, by rw [if_pos (by simpa using hy.2)]; exact h1⟩
                clear hX hY HX HY
                go_wp2_with (first | (go_at_call 30; (with_reducible refine (hsx.out _ hR.bel hR.ox).mono ?_); rintro e w6 ⟨rfl, b6⟩; have R6 := hR.step b6) | (go_at_call 30; (with_reducible refine (hsy.out _ R6.bel R6.oy).mono ?_); rintro e w7 ⟨rfl, b7⟩; have R7 := R6.step b7) | (go_at_call 30; (with_reducible refine (hsk.out _ R7.bel).mono ?_); rintro e w8 ⟨rfl, b8⟩; have R8 := R7.step b8))
                clear hsx hsy hsk hR R6 R7 b6 b7 b8
                go_loopw [18] (fun i wt => ∃ j : Nat, j ≤ ys.length ∧ i = .int .i64 j ∧ TR w5 wt xs ys (.slice ax xs.length cx) (.slice ay ys.length cy)) (fun i _ => ys.length - (intOf i).toNat)
                case atStart => exact ⟨0, by omega, rfl, R8⟩
                case round =>
                  clear R8
                  obtain ⟨j, hj, rfl, hR⟩ := hrel
                  by_cases hjl : j < ys.length
                  · obtain ⟨y, hy⟩ : ∃ y, ys[j]? = some y := ⟨ys[j], List.getElem?_eq_getElem hjl⟩
                    obtain ⟨a', c', e1, _, hc⟩ := (ReadsV.owns hR.oy).len
                    simp only [Value.slice.injEq] at e1
                    obtain ⟨rfl, _, rfl⟩ := e1
                    obtain ⟨b, off, hab, hcell⟩ := hc j y hy
                    subst hab
                    have hyb : b < wr.heap.size := block_of_cell hcell
                    obtain ⟨hys, hyval⟩ := hyv.out y (List.mem_of_getElem? hy)
                    have HG := Lib.hid (hyval ▸ get_tb wr (hTc.later hR.bel) y hys)
                    clear hy hc hyval
                    go_wp2_with (go_at_call 22; refine HG.out.mono ?_; rintro e w9 ⟨rfl, b9⟩; have R9 := hR.step b9; have hcell9 : w9.cell? ⟨b, off + j, none⟩ = some (.string y) := ((b9.cell (p := ⟨b, off + j, none⟩) hyb).trans hcell))
                    go_roundw
                    case rel => first | exact ⟨j + 1, by omega, by go_num, R9⟩ | ((repeat apply Exists.intro); exact ⟨⟨j + 1, by omega, by go_num, R9⟩, rfl⟩)
                    case measure => simp [intOf]; omega
                  · obtain rfl : j = ys.length := by omega
                    have P9 := P5.step hR.bel
                    have hnb9 := (hR.bel.block _ (heap_lt' hnb5)).trans hnb5
                    go_wp2
                    first | exact ⟨⟨n + 1, by omega, by go_num, P9, hnb9⟩, by simp [intOf]; omega⟩ | (go_roundw; case rel => ((repeat apply Exists.intro); exact ⟨⟨n + 1, by omega, by go_num, P9, hnb9⟩, rfl⟩); case measure => (simp [intOf]; omega))
          · obtain rfl : n = 2 := by omega
            have hlo := hP.lo.2.2
            go_wp2_with (go_at_call 23; refine (known8_any _).mono ?_; rintro e w6 ⟨rfl, hb6⟩; have P6 := hP.step hb6)
            go_ret
            exact ⟨rfl, P6.bel⟩
end Go.Proofs.Ytkkijcnipjojoaa
