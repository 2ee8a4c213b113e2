/- The walk of TableNumbers: a long row of calls, under three seeds. -/
import Derived.Test.YtkkijcnipjojoaaPlays8
import Derived.Test.YtkkijcnipjojoaaAsksOwn
namespace Go.Proofs.Ytkkijcnipjojoaa
open Go.RowKit

/-- The list so far. -/
def ListI (w wr : World) (v : Value) (n : Nat) : Prop := ∃ zs : List AskR, zs.length ≤ n ∧ wr.ownsRow w.heap.size 37 4 v zs.length (asksC zs) ∧ Below w.heap.size w wr
theorem ListI.grow {w wr w' : World} {v v' : Value} {n : Nat} {zs : List AskR} (ys : List AskR) (O : Obj) (hn : zs.length + ys.length ≤ n) (ho : wr.ownsRow w.heap.size 37 4 v zs.length (asksC zs)) (hb : Below w.heap.size w wr)
    (h2 : w'.ownsRow w.heap.size 37 4 v' (zs.length + ys.length) (asksC zs ++ asksC ys)) (h3 : (wr.alloc O).grownBy w' v.ownBlock) : ListI w w' v' n := by
  have hs := hb.size
  refine ⟨zs ++ ys, by simpa using hn, ?_, (hb.alloc hs O).trans (grown_below (ho.alloc O) h3 (by simp; omega))⟩
  rw [List.length_append, show asksC (zs ++ ys) = asksC zs ++ asksC ys by simp [asksC]]
  exact h2

theorem asks_cell (zs : List AskR) : ∀ u ∈ asksC zs, u.oneCell' = true := by
  intro u hu
  simp only [asksC, List.mem_flatMap] at hu
  obtain ⟨x, _, hx⟩ := hu
  exact ask_cell x u hx

set_option maxRecDepth 100000 in
set_option maxHeartbeats 2000000 in
theorem numbers8_walk (w : World) : Calls Try.prog 6 #[] w fun e w' => e = .returned (.bool true) ∧ Below w.heap.size w w' := by
  obtain ⟨i0, z0, hi, hz0, hz1, hz2, hz3⟩ := info_parts3 info_ask8
  have hz4 : z0.cells.size = 4 := by rw [hz1]; rfl
  clear hz1
  go_enter Try.func6, Try.ntmps6
  go_wp2
  go_loopw [1, 2] (fun v i wr => ∃ k : Nat, k ≤ 150 ∧ i = .int .i64 k ∧ ListI w wr v k) (fun _ i _ => 150 - (intOf i).toNat)
  case atStart => exact ⟨0, by omega, rfl, [], by simp, World.ownsRow_nil _ _ _ _, Below.refl _ _⟩
  case round =>
    obtain ⟨k, hk, rfl, zs, hn, hown, hb⟩ := hrel
    by_cases hlt : k < 150
    · have hs := hb.size
      go_wp2_with (at_builtin; refine wpList_append_own _ rfl (.tmp 9) (.tmp 15) 34 rfl w.heap.size 37 i0 z0 4 40 Try.underlying34 hi hz0 hz2 hz3 hz4 (by decide) _ _ _ rfl (hown.alloc _) ⟨_, 0, none⟩ 1 1 (asksC [⟨1, 3 * (k : Int) + 1, k, ByteArray.empty⟩]) rfl rfl (World.news_of_block (heap_alloc_new _ _)) (asks_cell _) (by unfold maxLen; omega) (by omega) (by simp; omega) ?_; intro v' w1 h2 h3 _; have hL := ListI.grow (n := k + 1) [⟨1, 3 * (k : Int) + 1, k, ByteArray.empty⟩] _ (by simp; omega) hown hb h2 h3)
      go_roundw
      case rel => first | exact ⟨k + 1, by omega, by go_num, hL⟩ | ((repeat apply Exists.intro); exact ⟨⟨k + 1, by omega, by go_num, hL⟩, rfl⟩)
      case measure => simp [intOf]; omega
    · obtain rfl : k = 150 := by omega
      have h0 : ListI w wr u1 150 := ⟨zs, hn, hown, hb⟩
      clear hn hown hb hlt hk
      go_wp2
      go_loopw [1, 3] (fun v i wr => ∃ k : Nat, k ≤ 150 ∧ i = .int .i64 k ∧ ListI w wr v (150 + 2 * k)) (fun _ i _ => 150 - (intOf i).toNat)
      case atStart => exact ⟨0, by omega, rfl, h0⟩
      case round =>
        clear h0
        obtain ⟨k, hk, rfl, zs, hn, hown, hb⟩ := hrel
        by_cases hlt : k < 150
        · have hs := hb.size
          go_wp2_with (at_builtin; refine wpList_append_own _ rfl (.tmp 21) (.tmp 30) 34 rfl w.heap.size 37 i0 z0 4 40 Try.underlying34 hi hz0 hz2 hz3 hz4 (by decide) _ _ _ rfl (hown.alloc _) ⟨_, 0, none⟩ 2 2 (asksC [⟨2, 3 * (k : Int) + 1, 0, ByteArray.empty⟩, ⟨3, 3 * (k : Int) + 1, 0, ByteArray.empty⟩]) rfl rfl (World.news_of_block (heap_alloc_new _ _)) (asks_cell _) (by unfold maxLen; omega) (by omega) (by simp; omega) ?_; intro v' w1 h2 h3 _; have hL := ListI.grow (n := 150 + 2 * (k + 1)) [⟨2, 3 * (k : Int) + 1, 0, ByteArray.empty⟩, ⟨3, 3 * (k : Int) + 1, 0, ByteArray.empty⟩] _ (by simp; omega) hown hb h2 h3)
          go_roundw
          case rel => first | exact ⟨k + 1, by omega, by go_num, hL⟩ | ((repeat apply Exists.intro); exact ⟨⟨k + 1, by omega, by go_num, hL⟩, rfl⟩)
          case measure => simp [intOf]; omega
        · obtain rfl : k = 150 := by omega
          have h0 : ListI w wr u1 450 := ⟨zs, hn, hown, hb⟩
          clear hn hown hb hlt hk
          go_wp2
          go_loopw [1, 4] (fun v i wr => ∃ k : Nat, k ≤ 200 ∧ i = .int .i64 k ∧ ListI w wr v (450 + k)) (fun _ i _ => 200 - (intOf i).toNat)
          case atStart => exact ⟨0, by omega, rfl, h0⟩
          case round =>
            clear h0
            obtain ⟨k, hk, rfl, zs, hn, hown, hb⟩ := hrel
            by_cases hlt : k < 200
            · have hs := hb.size
              go_wp2_with (at_builtin; refine wpList_append_own _ rfl (.tmp 36) (.tmp 46) 34 rfl w.heap.size 37 i0 z0 4 40 Try.underlying34 hi hz0 hz2 hz3 hz4 (by decide) _ _ _ rfl (hown.alloc _) ⟨_, 0, none⟩ 1 1 (asksC [⟨1 + (k : Int) % 3 % 2, 3 * (k : Int) + 2, k, ByteArray.empty⟩]) rfl rfl (World.news_of_block (heap_alloc_new _ _)) (asks_cell _) (by unfold maxLen; omega) (by omega) (by simp; omega) ?_; intro v' w1 h2 h3 _; have hL := ListI.grow (n := 450 + (k + 1)) [⟨1 + (k : Int) % 3 % 2, 3 * (k : Int) + 2, k, ByteArray.empty⟩] _ (by simp; omega) hown hb h2 h3)
              go_roundw
              case rel => first | exact ⟨k + 1, by omega, by go_num, hL⟩ | ((repeat apply Exists.intro); exact ⟨⟨k + 1, by omega, by go_num, hL⟩, rfl⟩)
              case measure => simp [intOf]; omega
            · obtain rfl : k = 200 := by omega
              clear hn hlt hk
              have H1 := Lib.hid (play8_any 0 _ zs 1000 _ (asks_of_owns hown) (by omega) (by omega))
              have H2 := Lib.hid fun W (ho : W.ownsRow w.heap.size 37 4 u1 zs.length (asksC zs)) => play8_any 9223372036854775808 _ zs 1000 W (asks_of_owns ho) (by omega) (by omega)
              have H3 := Lib.hid fun W (ho : W.ownsRow w.heap.size 37 4 u1 zs.length (asksC zs)) => play8_any 12345 _ zs 1000 W (asks_of_owns ho) (by omega) (by omega)
              have tok1 : True := trivial
              have tok2 : True := trivial
              go_wp2_with (first | (go_at_call 31; have _t := tok1; refine H1.out.mono ?_; rintro e w1 ⟨rfl, b1⟩; have o1 := owns_later hown b1; clear tok1) | (go_at_call 31; have _t := tok2; refine (H2.out _ o1).mono ?_; rintro e w2 ⟨rfl, b2⟩; have o2 := owns_later o1 b2; clear tok2) | (go_at_call 31; refine (H3.out _ o2).mono ?_; rintro e w3 ⟨rfl, b3⟩) | (go_at_call 23; refine (known8_any _).mono ?_; rintro e w4 ⟨rfl, b4⟩))
              have s0 := hb.size
              have s1 := b1.size
              have s2 := b2.size
              have s3 := b3.size
              have hbe := (((hb.trans (b1.mono s0)).trans (b2.mono (by omega))).trans (b3.mono (by omega))).trans (b4.mono (by omega))
              go_ret
              exact ⟨rfl, hbe⟩
end Go.Proofs.Ytkkijcnipjojoaa
