/- Contracts of package table: all keys handed on to a function, whatever it keeps; Keys. -/
import Derived.Test.YtkkijcnipjojoaaTabDel
import Derived.Test.YtkkijcnipjojoaaStrs
namespace Go.Proofs.Ytkkijcnipjojoaa
open Go.RowKit

/-- The keys of some slots of a group; of some groups. -/
def keysG (S : Grps) (g n : Nat) : List ByteArray := (slotsI isFull (S.w g) n).map fun q => S.k g q.toNat
def keysL (S : Grps) : Nat → List ByteArray
  | 0 => []
  | g + 1 => keysL S g ++ keysG S g 8
/-- .. that were gone through. -/
def keysV (S : Grps) (g i : Nat) : List ByteArray := keysL S g ++ keysG S g i
theorem keysV_zero (S : Grps) (g : Nat) : keysV S g 0 = keysL S g := by simp [keysV, keysG, slots_zero]
theorem keysV_next (S : Grps) (g : Nat) : keysV S g 8 = keysV S (g + 1) 0 := by rw [keysV_zero]; rfl
theorem keysV_skip (S : Grps) (g i : Nat) (h : ¬ bytI (S.w g) i < 128) : keysV S g (i + 1) = keysV S g i := by
  unfold keysV keysG; rw [slots_no _ _ _ (by simp [isFull]; omega)]
theorem keysV_add (S : Grps) (g i : Nat) (h : bytI (S.w g) i < 128) : keysV S g (i + 1) = keysV S g i ++ [S.k g i] := by
  unfold keysV keysG; rw [slots_yes _ _ _ (by simp [isFull]; omega)]; simp
theorem keysL_len (S : Grps) (g : Nat) : (keysL S g).length = cnt isFull S.w g := by
  induction g with
  | zero => rfl
  | succ g ih => simp [keysL, cnt, ih, keysG]
theorem keysV_len (S : Grps) (g i : Nat) : (keysV S g i).length = cnt isFull S.w g + (slotsI isFull (S.w g) i).length := by
  simp [keysV, keysL_len, keysG]

/-- What a walk through all slots of old groups wants of what a function keeps. -/
structure Keeps (S : Grps) (go : Nat) (I : Nat → Nat → World → Prop) : Prop where
  old : ∀ g i wr, I g i wr → wr.heap[go]? = some (.cells (flatG S) 84 (0, 0))
  alloc : ∀ g i wr O, I g i wr → I g i (wr.alloc O)
  skip : ∀ g i wr, g < S.G → i < 8 → ¬ bytI (S.w g) i < 128 → I g i wr → I g (i + 1) wr
  next : ∀ g wr, g < S.G → I g 8 wr → I (g + 1) 0 wr

set_option maxRecDepth 100000 in
set_option maxHeartbeats 8000000 in
theorem each_keys {go : Nat} {S : Grps} {I : Nat → Nat → World → Prop} (caps : Array Value) (w : World) (hI : I 0 0 w) (hK : Keeps S go I) (hS : S.G ≤ 64)
    (hcall : ∀ g i wr, g < S.G → i < 8 → bytI (S.w g) i < 128 → I g i wr → Calls Try.prog 61 (#[.string (S.k g i), .int .i64 (S.v g i)] ++ caps) wr fun e w' => e = .returned (.tuple #[]) ∧ I g (i + 1) w') :
    Calls Try.prog 60 #[.slice (some ⟨go, 0, none⟩) S.G S.G, .func (Fn.func 61) #[] caps] w fun e w' => e = .returned (.tuple #[]) ∧ I S.G 0 w' := by
  have HK := Lib.hid hK
  have HC := Lib.hid hcall
  clear hK hcall
  go_enter Try.func60, Try.ntmps60
  go_wp2
  go_loopw [9] (fun j wr => ∃ g : Nat, g ≤ S.G ∧ j = .int .i64 g ∧ I g 0 wr) (fun j _ => S.G - (intOf j).toNat)
  case atStart => exact ⟨0, by omega, rfl, hI⟩
  case round =>
    clear hI
    obtain ⟨g, hg, rfl, hei⟩ := hrel
    by_cases hlt : g < S.G
    · obtain ⟨cw, cs⟩ := grp_cells (HK.out.old _ _ _ hei) g hlt
      obtain ⟨a0, b0⟩ := cs 0 (by omega)
      obtain ⟨a1, b1⟩ := cs 1 (by omega)
      obtain ⟨a2, b2⟩ := cs 2 (by omega)
      obtain ⟨a3, b3⟩ := cs 3 (by omega)
      obtain ⟨a4, b4⟩ := cs 4 (by omega)
      obtain ⟨a5, b5⟩ := cs 5 (by omega)
      obtain ⟨a6, b6⟩ := cs 6 (by omega)
      obtain ⟨a7, b7⟩ := cs 7 (by omega)
      simp only [Nat.zero_mul, Nat.one_mul, Nat.reduceMul, Nat.add_zero] at a0 a1 a2 a3 a4 a5 a6 a7 b0 b1 b2 b3 b4 b5 b6 b7
      clear cs
      go_wp2
      go_loopw [17] (fun j wr => ∃ i : Nat, i ≤ 8 ∧ j = .int .i64 i ∧ I g i wr) (fun j _ => 8 - (intOf j).toNat)
      case atStart => exact ⟨0, by omega, rfl, hei⟩
      case round =>
        clear hei cw a0 a1 a2 a3 a4 a5 a6 a7 b0 b1 b2 b3 b4 b5 b6 b7
        obtain ⟨i, hi, rfl, hei⟩ := hrel
        by_cases hi8 : i < 8
        · have hold := HK.out.old _ _ _ hei
          obtain ⟨cw, _⟩ := grp_cells hold g hlt
          have HI := Lib.hid fun (O : Obj) => HK.out.alloc _ _ _ O hei
          have hat : Hid (atI (S.w g) i = bytI (S.w g) i) := by unfold Hid atI; rw [if_pos ⟨by omega, by omega⟩, Int.toNat_natCast]
          have hx := idx8 (S.k g) (S.v g) i hi8 wr
          have hgo := heap_lt' hold
          clear hold
          by_cases hf : bytI (S.w g) i < 128
          · have HE := Lib.hid fun (O : Obj) => HC.out g i _ hlt hi8 hf (HI.out O)
            go_wp2_with (first | (go_at_call 92; refine (at_any _ _ _).mono ?_; rintro e w' ⟨rfl, rfl⟩; rw [hat.out]) | (go_at_call 61; refine (HE.out _).mono ?_; rintro e w2 ⟨rfl, hei2⟩))
            go_roundw
            case rel => exact ⟨i + 1, by omega, by go_num, hei2⟩
            case measure => simp [intOf]; omega
          · go_wp2_with (first | (go_at_call 92; refine (at_any _ _ _).mono ?_; rintro e w' ⟨rfl, rfl⟩; rw [hat.out]))
            go_roundw
            case rel => exact ⟨i + 1, by omega, by go_num, HK.out.skip _ _ _ hlt hi8 (by omega) (HI.out _)⟩
            case measure => simp [intOf]; omega
        · obtain rfl : i = 8 := by omega
          go_wp2
          go_roundw
          case rel => exact ⟨g + 1, by omega, by go_num, HK.out.next _ _ hlt hei⟩
          case measure => simp [intOf]; omega
    · obtain rfl : g = S.G := by omega
      go_wp2
      (try simp only [Exit.inBlock, Exit.then])
      refine bodyPost_end (results_none rfl _ _ _) rfl ?_
      exact ⟨rfl, hei⟩
set_option maxRecDepth 100000 in
set_option maxHeartbeats 8000000 in
theorem each_split {go : Nat} {S : Grps} {I : Nat → Nat → World → Prop} (caps : Array Value) (w : World) (hI : I 0 0 w) (hK : Keeps S go I) (hS : S.G ≤ 64)
    (hcall : ∀ g i wr, g < S.G → i < 8 → bytI (S.w g) i < 128 → I g i wr → Calls Try.prog 62 (#[.string (S.k g i), .int .i64 (S.v g i)] ++ caps) wr fun e w' => e = .returned (.tuple #[]) ∧ I g (i + 1) w') :
    Calls Try.prog 60 #[.slice (some ⟨go, 0, none⟩) S.G S.G, .func (Fn.func 62) #[] caps] w fun e w' => e = .returned (.tuple #[]) ∧ I S.G 0 w' := by
  have HK := Lib.hid hK
  have HC := Lib.hid hcall
  clear hK hcall
  go_enter Try.func60, Try.ntmps60
  go_wp2
  go_loopw [9] (fun j wr => ∃ g : Nat, g ≤ S.G ∧ j = .int .i64 g ∧ I g 0 wr) (fun j _ => S.G - (intOf j).toNat)
  case atStart => exact ⟨0, by omega, rfl, hI⟩
  case round =>
    clear hI
    obtain ⟨g, hg, rfl, hei⟩ := hrel
    by_cases hlt : g < S.G
    · obtain ⟨cw, cs⟩ := grp_cells (HK.out.old _ _ _ hei) g hlt
      obtain ⟨a0, b0⟩ := cs 0 (by omega)
      obtain ⟨a1, b1⟩ := cs 1 (by omega)
      obtain ⟨a2, b2⟩ := cs 2 (by omega)
      obtain ⟨a3, b3⟩ := cs 3 (by omega)
      obtain ⟨a4, b4⟩ := cs 4 (by omega)
      obtain ⟨a5, b5⟩ := cs 5 (by omega)
      obtain ⟨a6, b6⟩ := cs 6 (by omega)
      obtain ⟨a7, b7⟩ := cs 7 (by omega)
      simp only [Nat.zero_mul, Nat.one_mul, Nat.reduceMul, Nat.add_zero] at a0 a1 a2 a3 a4 a5 a6 a7 b0 b1 b2 b3 b4 b5 b6 b7
      clear cs
      go_wp2
      go_loopw [17] (fun j wr => ∃ i : Nat, i ≤ 8 ∧ j = .int .i64 i ∧ I g i wr) (fun j _ => 8 - (intOf j).toNat)
      case atStart => exact ⟨0, by omega, rfl, hei⟩
      case round =>
        clear hei cw a0 a1 a2 a3 a4 a5 a6 a7 b0 b1 b2 b3 b4 b5 b6 b7
        obtain ⟨i, hi, rfl, hei⟩ := hrel
        by_cases hi8 : i < 8
        · have hold := HK.out.old _ _ _ hei
          obtain ⟨cw, _⟩ := grp_cells hold g hlt
          have HI := Lib.hid fun (O : Obj) => HK.out.alloc _ _ _ O hei
          have hat : Hid (atI (S.w g) i = bytI (S.w g) i) := by unfold Hid atI; rw [if_pos ⟨by omega, by omega⟩, Int.toNat_natCast]
          have hx := idx8 (S.k g) (S.v g) i hi8 wr
          have hgo := heap_lt' hold
          clear hold
          by_cases hf : bytI (S.w g) i < 128
          · have HE := Lib.hid fun (O : Obj) => HC.out g i _ hlt hi8 hf (HI.out O)
            go_wp2_with (first | (go_at_call 92; refine (at_any _ _ _).mono ?_; rintro e w' ⟨rfl, rfl⟩; rw [hat.out]) | (go_at_call 62; refine (HE.out _).mono ?_; rintro e w2 ⟨rfl, hei2⟩))
            go_roundw
            case rel => exact ⟨i + 1, by omega, by go_num, hei2⟩
            case measure => simp [intOf]; omega
          · go_wp2_with (first | (go_at_call 92; refine (at_any _ _ _).mono ?_; rintro e w' ⟨rfl, rfl⟩; rw [hat.out]))
            go_roundw
            case rel => exact ⟨i + 1, by omega, by go_num, HK.out.skip _ _ _ hlt hi8 (by omega) (HI.out _)⟩
            case measure => simp [intOf]; omega
        · obtain rfl : i = 8 := by omega
          go_wp2
          go_roundw
          case rel => exact ⟨g + 1, by omega, by go_num, HK.out.next _ _ hlt hei⟩
          case measure => simp [intOf]; omega
    · obtain rfl : g = S.G := by omega
      go_wp2
      (try simp only [Exit.inBlock, Exit.then])
      refine bodyPost_end (results_none rfl _ _ _) rfl ?_
      exact ⟨rfl, hei⟩
end Go.Proofs.Ytkkijcnipjojoaa
