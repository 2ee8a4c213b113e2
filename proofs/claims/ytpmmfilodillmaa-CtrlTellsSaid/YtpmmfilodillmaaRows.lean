/-
  No cell of these rows narrows 'for every input' (looked for: loops, veiled, ifaces, maps, wideKeys, modest, calm, conditions, laid).
  DERIVED. THE GIVEN ROWS OF THIS SEAT. 13 by the template 'for every input the law returns true; each argument reads behind the call as it read before'; 0 by the template 'total and deterministic' (their statements: YtpmmfilodillmaaTotals.lean).
  GIVEN WITH THE SEED: the statements are not yours to turn. If you find one false, say at which input.
  Laid BY PROGRAM, IN A SANDBOX (cutbox-rows.mjs): the forced cells as the released guide's own fill.sh prints them over the translation 4cae9c60aec28f33… (all of the seat's roots in one cut). By AI agents, Wed Nov 11 2026. No macro, syntax, notation, axiom, sorry.
-/
import Derived.Test.YtpmmfilodillmaaChecked
import GoSem.Claim
import GoSem.ClaimJoined
import GoSem.ClaimMapViews
import Derived.JoinedTies
import Derived.KernelRfl
namespace Go.Proofs.Ytpmmfilodillmaa
/- THE CELL 'sum', in the pinned program and in every row, IS THE sha256 OF THE DUMP (.gsa) THAT YtpmmfilodillmaaProg.lean LOADS. Nothing in Lean hashes anything: it is a label: what it is worth is what the hold of that sum in a sandbox is worth. -/
noncomputable def Try.pinned : Pinned := { name := "ytpmmfilodillmaa", sum := "4cae9c60aec28f339c8f1c900038d47e59fc64bf5a982288589b5f2866edc52a", checked := Try.checked }
namespace Rows
def none {H : Type} : Left H := { results := [], args := [] }

/-- 'tallboylaw6.HashNumbers': WHATEVER THE INPUT: true; the input reads as it did. -/
def hashNumbersSpec : ChangeSpec := { name := "hashNumbers", fn := fun _ => fun
  | [] => { results := [.lit (.bool true)], args := [] }
  | _ => none }
def hashNumbersRow : OpenClaim := { program := "ytpmmfilodillmaa", sum := "4cae9c60aec28f339c8f1c900038d47e59fc64bf5a982288589b5f2866edc52a", func := "tallboy/tallboylaw6.HashNumbers", spec := "hashNumbers", apart := false }
def HashNumbersSaid : Prop := hashNumbersRow.holds Try.pinned (OpenSpec.ofChange hashNumbersSpec)

/-- ITS FALSE NEIGHBOUR: 'it returns false'. Refute it at one input. -/
def hashNumbersWrong : ChangeSpec := { name := "hashNumbers", fn := fun _ => fun
  | [] => { results := [.lit (.bool false)], args := [] }
  | _ => none }
def HashNumbersWrongFalsely : Prop := hashNumbersRow.holds Try.pinned (OpenSpec.ofChange hashNumbersWrong)

/-- 'tallboylaw6.HashTells': WHATEVER THE INPUT: true; the input reads as it did. -/
def hashTellsSpec : ChangeSpec := { name := "hashTells", fn := fun _ => fun
  | [d1, d2, d3, d4] => { results := [.lit (.bool true)], args := [d1, d2, d3, d4] }
  | _ => none }
def hashTellsRow : OpenClaim := { program := "ytpmmfilodillmaa", sum := "4cae9c60aec28f339c8f1c900038d47e59fc64bf5a982288589b5f2866edc52a", func := "tallboy/tallboylaw6.HashTells", spec := "hashTells", apart := false }
def HashTellsSaid : Prop := hashTellsRow.holds Try.pinned (OpenSpec.ofChange hashTellsSpec)

/-- ITS FALSE NEIGHBOUR: 'it returns false'. Refute it at one input. -/
def hashTellsWrong : ChangeSpec := { name := "hashTells", fn := fun _ => fun
  | [d1, d2, d3, d4] => { results := [.lit (.bool false)], args := [d1, d2, d3, d4] }
  | _ => none }
def HashTellsWrongFalsely : Prop := hashTellsRow.holds Try.pinned (OpenSpec.ofChange hashTellsWrong)

/-- 'tallboylaw7.CtrlSets': WHATEVER THE INPUT: true; the input reads as it did. -/
def ctrlSetsSpec : ChangeSpec := { name := "ctrlSets", fn := fun _ => fun
  | [d1, d2, d3] => { results := [.lit (.bool true)], args := [d1, d2, d3] }
  | _ => none }
def ctrlSetsRow : OpenClaim := { program := "ytpmmfilodillmaa", sum := "4cae9c60aec28f339c8f1c900038d47e59fc64bf5a982288589b5f2866edc52a", func := "tallboy/tallboylaw7.CtrlSets", spec := "ctrlSets", unfollowed := true, recurses := true, apart := false }
def CtrlSetsSaid : Prop := ctrlSetsRow.holds Try.pinned (OpenSpec.ofChange ctrlSetsSpec)

/-- ITS FALSE NEIGHBOUR: 'it returns false'. Refute it at one input. -/
def ctrlSetsWrong : ChangeSpec := { name := "ctrlSets", fn := fun _ => fun
  | [d1, d2, d3] => { results := [.lit (.bool false)], args := [d1, d2, d3] }
  | _ => none }
def CtrlSetsWrongFalsely : Prop := ctrlSetsRow.holds Try.pinned (OpenSpec.ofChange ctrlSetsWrong)

/-- 'tallboylaw7.CtrlBuilds': WHATEVER THE INPUT: true; the input reads as it did. -/
def ctrlBuildsSpec : ChangeSpec := { name := "ctrlBuilds", fn := fun _ => fun
  | [d1, d2] => { results := [.lit (.bool true)], args := [d1, d2] }
  | _ => none }
def ctrlBuildsRow : OpenClaim := { program := "ytpmmfilodillmaa", sum := "4cae9c60aec28f339c8f1c900038d47e59fc64bf5a982288589b5f2866edc52a", func := "tallboy/tallboylaw7.CtrlBuilds", spec := "ctrlBuilds", unfollowed := true, recurses := true, apart := false }
def CtrlBuildsSaid : Prop := ctrlBuildsRow.holds Try.pinned (OpenSpec.ofChange ctrlBuildsSpec)

/-- ITS FALSE NEIGHBOUR: 'it returns false'. Refute it at one input. -/
def ctrlBuildsWrong : ChangeSpec := { name := "ctrlBuilds", fn := fun _ => fun
  | [d1, d2] => { results := [.lit (.bool false)], args := [d1, d2] }
  | _ => none }
def CtrlBuildsWrongFalsely : Prop := ctrlBuildsRow.holds Try.pinned (OpenSpec.ofChange ctrlBuildsWrong)

/-- 'tallboylaw7.CtrlNumbers': WHATEVER THE INPUT: true; the input reads as it did. -/
def ctrlNumbersSpec : ChangeSpec := { name := "ctrlNumbers", fn := fun _ => fun
  | [] => { results := [.lit (.bool true)], args := [] }
  | _ => none }
def ctrlNumbersRow : OpenClaim := { program := "ytpmmfilodillmaa", sum := "4cae9c60aec28f339c8f1c900038d47e59fc64bf5a982288589b5f2866edc52a", func := "tallboy/tallboylaw7.CtrlNumbers", spec := "ctrlNumbers", unfollowed := true, recurses := true, apart := false }
def CtrlNumbersSaid : Prop := ctrlNumbersRow.holds Try.pinned (OpenSpec.ofChange ctrlNumbersSpec)

/-- ITS FALSE NEIGHBOUR: 'it returns false'. Refute it at one input. -/
def ctrlNumbersWrong : ChangeSpec := { name := "ctrlNumbers", fn := fun _ => fun
  | [] => { results := [.lit (.bool false)], args := [] }
  | _ => none }
def CtrlNumbersWrongFalsely : Prop := ctrlNumbersRow.holds Try.pinned (OpenSpec.ofChange ctrlNumbersWrong)

/-- 'tallboylaw7.CtrlTells': WHATEVER THE INPUT: true; the input reads as it did. -/
def ctrlTellsSpec : ChangeSpec := { name := "ctrlTells", fn := fun _ => fun
  | [d1, d2, d3, d4] => { results := [.lit (.bool true)], args := [d1, d2, d3, d4] }
  | _ => none }
def ctrlTellsRow : OpenClaim := { program := "ytpmmfilodillmaa", sum := "4cae9c60aec28f339c8f1c900038d47e59fc64bf5a982288589b5f2866edc52a", func := "tallboy/tallboylaw7.CtrlTells", spec := "ctrlTells", unfollowed := true, recurses := true, apart := false }
def CtrlTellsSaid : Prop := ctrlTellsRow.holds Try.pinned (OpenSpec.ofChange ctrlTellsSpec)

/-- ITS FALSE NEIGHBOUR: 'it returns false'. Refute it at one input. -/
def ctrlTellsWrong : ChangeSpec := { name := "ctrlTells", fn := fun _ => fun
  | [d1, d2, d3, d4] => { results := [.lit (.bool false)], args := [d1, d2, d3, d4] }
  | _ => none }
def CtrlTellsWrongFalsely : Prop := ctrlTellsRow.holds Try.pinned (OpenSpec.ofChange ctrlTellsWrong)

/-- 'tallboylaw7.CtrlCounts': WHATEVER THE INPUT: true; the input reads as it did. -/
def ctrlCountsSpec : ChangeSpec := { name := "ctrlCounts", fn := fun _ => fun
  | [d] => { results := [.lit (.bool true)], args := [d] }
  | _ => none }
def ctrlCountsRow : OpenClaim := { program := "ytpmmfilodillmaa", sum := "4cae9c60aec28f339c8f1c900038d47e59fc64bf5a982288589b5f2866edc52a", func := "tallboy/tallboylaw7.CtrlCounts", spec := "ctrlCounts", unfollowed := true, recurses := true, apart := false }
def CtrlCountsSaid : Prop := ctrlCountsRow.holds Try.pinned (OpenSpec.ofChange ctrlCountsSpec)

/-- ITS FALSE NEIGHBOUR: 'it returns false'. Refute it at one input. -/
def ctrlCountsWrong : ChangeSpec := { name := "ctrlCounts", fn := fun _ => fun
  | [d] => { results := [.lit (.bool false)], args := [d] }
  | _ => none }
def CtrlCountsWrongFalsely : Prop := ctrlCountsRow.holds Try.pinned (OpenSpec.ofChange ctrlCountsWrong)

/-- 'tallboylaw9.CursorAlls': WHATEVER THE INPUT: true; the input reads as it did. -/
def cursorAllsSpec : ChangeSpec := { name := "cursorAlls", fn := fun _ => fun
  | [d] => { results := [.lit (.bool true)], args := [d] }
  | _ => none }
def cursorAllsRow : OpenClaim := { program := "ytpmmfilodillmaa", sum := "4cae9c60aec28f339c8f1c900038d47e59fc64bf5a982288589b5f2866edc52a", func := "tallboy/tallboylaw9.CursorAlls", spec := "cursorAlls", apart := false }
def CursorAllsSaid : Prop := cursorAllsRow.holds Try.pinned (OpenSpec.ofChange cursorAllsSpec)

/-- ITS FALSE NEIGHBOUR: 'it returns false'. Refute it at one input. -/
def cursorAllsWrong : ChangeSpec := { name := "cursorAlls", fn := fun _ => fun
  | [d] => { results := [.lit (.bool false)], args := [d] }
  | _ => none }
def CursorAllsWrongFalsely : Prop := cursorAllsRow.holds Try.pinned (OpenSpec.ofChange cursorAllsWrong)

/-- 'tallboylaw9.CursorNumbers': WHATEVER THE INPUT: true; the input reads as it did. -/
def cursorNumbersSpec : ChangeSpec := { name := "cursorNumbers", fn := fun _ => fun
  | [] => { results := [.lit (.bool true)], args := [] }
  | _ => none }
def cursorNumbersRow : OpenClaim := { program := "ytpmmfilodillmaa", sum := "4cae9c60aec28f339c8f1c900038d47e59fc64bf5a982288589b5f2866edc52a", func := "tallboy/tallboylaw9.CursorNumbers", spec := "cursorNumbers", apart := false }
def CursorNumbersSaid : Prop := cursorNumbersRow.holds Try.pinned (OpenSpec.ofChange cursorNumbersSpec)

/-- ITS FALSE NEIGHBOUR: 'it returns false'. Refute it at one input. -/
def cursorNumbersWrong : ChangeSpec := { name := "cursorNumbers", fn := fun _ => fun
  | [] => { results := [.lit (.bool false)], args := [] }
  | _ => none }
def CursorNumbersWrongFalsely : Prop := cursorNumbersRow.holds Try.pinned (OpenSpec.ofChange cursorNumbersWrong)

/-- 'tallboylaw9.CursorTells': WHATEVER THE INPUT: true; the input reads as it did. -/
def cursorTellsSpec : ChangeSpec := { name := "cursorTells", fn := fun _ => fun
  | [d1, d2, d3] => { results := [.lit (.bool true)], args := [d1, d2, d3] }
  | _ => none }
def cursorTellsRow : OpenClaim := { program := "ytpmmfilodillmaa", sum := "4cae9c60aec28f339c8f1c900038d47e59fc64bf5a982288589b5f2866edc52a", func := "tallboy/tallboylaw9.CursorTells", spec := "cursorTells", apart := false }
def CursorTellsSaid : Prop := cursorTellsRow.holds Try.pinned (OpenSpec.ofChange cursorTellsSpec)

/-- ITS FALSE NEIGHBOUR: 'it returns false'. Refute it at one input. -/
def cursorTellsWrong : ChangeSpec := { name := "cursorTells", fn := fun _ => fun
  | [d1, d2, d3] => { results := [.lit (.bool false)], args := [d1, d2, d3] }
  | _ => none }
def CursorTellsWrongFalsely : Prop := cursorTellsRow.holds Try.pinned (OpenSpec.ofChange cursorTellsWrong)

/-- 'tallboylaw9.CursorDeeper': WHATEVER THE INPUT: true; the input reads as it did. -/
def cursorDeeperSpec : ChangeSpec := { name := "cursorDeeper", fn := fun _ => fun
  | [d1, d2, d3, d4] => { results := [.lit (.bool true)], args := [d1, d2, d3, d4] }
  | _ => none }
def cursorDeeperRow : OpenClaim := { program := "ytpmmfilodillmaa", sum := "4cae9c60aec28f339c8f1c900038d47e59fc64bf5a982288589b5f2866edc52a", func := "tallboy/tallboylaw9.CursorDeeper", spec := "cursorDeeper", apart := false }
def CursorDeeperSaid : Prop := cursorDeeperRow.holds Try.pinned (OpenSpec.ofChange cursorDeeperSpec)

/-- ITS FALSE NEIGHBOUR: 'it returns false'. Refute it at one input. -/
def cursorDeeperWrong : ChangeSpec := { name := "cursorDeeper", fn := fun _ => fun
  | [d1, d2, d3, d4] => { results := [.lit (.bool false)], args := [d1, d2, d3, d4] }
  | _ => none }
def CursorDeeperWrongFalsely : Prop := cursorDeeperRow.holds Try.pinned (OpenSpec.ofChange cursorDeeperWrong)

/-- 'tallboylaw9.CursorLong': WHATEVER THE INPUT: true; the input reads as it did. -/
def cursorLongSpec : ChangeSpec := { name := "cursorLong", fn := fun _ => fun
  | [d1, d2, d3] => { results := [.lit (.bool true)], args := [d1, d2, d3] }
  | _ => none }
def cursorLongRow : OpenClaim := { program := "ytpmmfilodillmaa", sum := "4cae9c60aec28f339c8f1c900038d47e59fc64bf5a982288589b5f2866edc52a", func := "tallboy/tallboylaw9.CursorLong", spec := "cursorLong", apart := false }
def CursorLongSaid : Prop := cursorLongRow.holds Try.pinned (OpenSpec.ofChange cursorLongSpec)

/-- ITS FALSE NEIGHBOUR: 'it returns false'. Refute it at one input. -/
def cursorLongWrong : ChangeSpec := { name := "cursorLong", fn := fun _ => fun
  | [d1, d2, d3] => { results := [.lit (.bool false)], args := [d1, d2, d3] }
  | _ => none }
def CursorLongWrongFalsely : Prop := cursorLongRow.holds Try.pinned (OpenSpec.ofChange cursorLongWrong)

/-- 'tallboylaw9.CursorOrders': WHATEVER THE INPUT: true; the input reads as it did. -/
def cursorOrdersSpec : ChangeSpec := { name := "cursorOrders", fn := fun _ => fun
  | [d1, d2, d3, d4] => { results := [.lit (.bool true)], args := [d1, d2, d3, d4] }
  | _ => none }
def cursorOrdersRow : OpenClaim := { program := "ytpmmfilodillmaa", sum := "4cae9c60aec28f339c8f1c900038d47e59fc64bf5a982288589b5f2866edc52a", func := "tallboy/tallboylaw9.CursorOrders", spec := "cursorOrders", apart := false }
def CursorOrdersSaid : Prop := cursorOrdersRow.holds Try.pinned (OpenSpec.ofChange cursorOrdersSpec)

/-- ITS FALSE NEIGHBOUR: 'it returns false'. Refute it at one input. -/
def cursorOrdersWrong : ChangeSpec := { name := "cursorOrders", fn := fun _ => fun
  | [d1, d2, d3, d4] => { results := [.lit (.bool false)], args := [d1, d2, d3, d4] }
  | _ => none }
def CursorOrdersWrongFalsely : Prop := cursorOrdersRow.holds Try.pinned (OpenSpec.ofChange cursorOrdersWrong)

/- THE SECOND FORM. 'bulk': how many values and letters a reading holds, each counted each time it is reached (what is shared counts as often as it is met; a slice's spare places count too). A statement '..UptoSaid' is the law's where the arguments, and the package variables that the reading takes, are together of bulk at most 1048576: NARROWER than '..Said'. Prove '..Said' where nothing that the law and all that it calls make is longer than what came in: it says more and counts as full. Else prove '..UptoSaid'. A law counts once. -/
mutual
def uptoBulk {H : Type} : DataW H → Nat
  | .lit (.string bytes) => bytes.length + 1
  | .lit _ => 1
  | .nil => 1
  | .ptr d => uptoBulk d + 1
  | .slice elems spare => uptoBulkAll elems + uptoBulkAll spare + 1
  | .agg parts => uptoBulkAll parts + 1
  | .iface _ d => uptoBulk d + 1
  | .map entries => uptoBulkEntries entries + 1
  | .held _ => 1
def uptoBulkAll {H : Type} : List (DataW H) → Nat
  | [] => 0
  | d :: r => uptoBulk d + uptoBulkAll r
def uptoBulkEntries {H : Type} : List (Lit × DataW H) → Nat
  | [] => 0
  | x :: r => uptoBulkEntry x + uptoBulkEntries r
def uptoBulkEntry {H : Type} : Lit × DataW H → Nat
  | (.string bytes, d) => bytes.length + uptoBulk d + 1
  | (_, d) => uptoBulk d + 1
 end
def uptoSmall : (H : Type) → List (DataW H) → Bool := fun _ ds => decide (uptoBulkAll ds ≤ 1048576)
def OpenSpec.upto (s : _root_.Go.ChangeSpec) : _root_.Go.OpenSpec := { _root_.Go.OpenSpec.ofChange s with cond := some uptoSmall }

/-- 'tallboylaw6.HashNumbers', WHERE WHAT IT READS IS OF BULK AT MOST 1048576: true; the input reads as it did. -/
def hashNumbersUptoRow : OpenClaim := { program := "ytpmmfilodillmaa", sum := "4cae9c60aec28f339c8f1c900038d47e59fc64bf5a982288589b5f2866edc52a", func := "tallboy/tallboylaw6.HashNumbers", spec := "hashNumbers", apart := false, narrowed := true }
def HashNumbersUptoSaid : Prop := hashNumbersUptoRow.holds Try.pinned (OpenSpec.upto hashNumbersSpec)

/-- 'tallboylaw6.HashTells', WHERE WHAT IT READS IS OF BULK AT MOST 1048576: true; the input reads as it did. -/
def hashTellsUptoRow : OpenClaim := { program := "ytpmmfilodillmaa", sum := "4cae9c60aec28f339c8f1c900038d47e59fc64bf5a982288589b5f2866edc52a", func := "tallboy/tallboylaw6.HashTells", spec := "hashTells", apart := false, narrowed := true }
def HashTellsUptoSaid : Prop := hashTellsUptoRow.holds Try.pinned (OpenSpec.upto hashTellsSpec)

/-- 'tallboylaw7.CtrlSets', WHERE WHAT IT READS IS OF BULK AT MOST 1048576: true; the input reads as it did. -/
def ctrlSetsUptoRow : OpenClaim := { program := "ytpmmfilodillmaa", sum := "4cae9c60aec28f339c8f1c900038d47e59fc64bf5a982288589b5f2866edc52a", func := "tallboy/tallboylaw7.CtrlSets", spec := "ctrlSets", unfollowed := true, recurses := true, apart := false, narrowed := true }
def CtrlSetsUptoSaid : Prop := ctrlSetsUptoRow.holds Try.pinned (OpenSpec.upto ctrlSetsSpec)

/-- 'tallboylaw7.CtrlBuilds', WHERE WHAT IT READS IS OF BULK AT MOST 1048576: true; the input reads as it did. -/
def ctrlBuildsUptoRow : OpenClaim := { program := "ytpmmfilodillmaa", sum := "4cae9c60aec28f339c8f1c900038d47e59fc64bf5a982288589b5f2866edc52a", func := "tallboy/tallboylaw7.CtrlBuilds", spec := "ctrlBuilds", unfollowed := true, recurses := true, apart := false, narrowed := true }
def CtrlBuildsUptoSaid : Prop := ctrlBuildsUptoRow.holds Try.pinned (OpenSpec.upto ctrlBuildsSpec)

/-- 'tallboylaw7.CtrlNumbers', WHERE WHAT IT READS IS OF BULK AT MOST 1048576: true; the input reads as it did. -/
def ctrlNumbersUptoRow : OpenClaim := { program := "ytpmmfilodillmaa", sum := "4cae9c60aec28f339c8f1c900038d47e59fc64bf5a982288589b5f2866edc52a", func := "tallboy/tallboylaw7.CtrlNumbers", spec := "ctrlNumbers", unfollowed := true, recurses := true, apart := false, narrowed := true }
def CtrlNumbersUptoSaid : Prop := ctrlNumbersUptoRow.holds Try.pinned (OpenSpec.upto ctrlNumbersSpec)

/-- 'tallboylaw7.CtrlTells', WHERE WHAT IT READS IS OF BULK AT MOST 1048576: true; the input reads as it did. -/
def ctrlTellsUptoRow : OpenClaim := { program := "ytpmmfilodillmaa", sum := "4cae9c60aec28f339c8f1c900038d47e59fc64bf5a982288589b5f2866edc52a", func := "tallboy/tallboylaw7.CtrlTells", spec := "ctrlTells", unfollowed := true, recurses := true, apart := false, narrowed := true }
def CtrlTellsUptoSaid : Prop := ctrlTellsUptoRow.holds Try.pinned (OpenSpec.upto ctrlTellsSpec)

/-- 'tallboylaw7.CtrlCounts', WHERE WHAT IT READS IS OF BULK AT MOST 1048576: true; the input reads as it did. -/
def ctrlCountsUptoRow : OpenClaim := { program := "ytpmmfilodillmaa", sum := "4cae9c60aec28f339c8f1c900038d47e59fc64bf5a982288589b5f2866edc52a", func := "tallboy/tallboylaw7.CtrlCounts", spec := "ctrlCounts", unfollowed := true, recurses := true, apart := false, narrowed := true }
def CtrlCountsUptoSaid : Prop := ctrlCountsUptoRow.holds Try.pinned (OpenSpec.upto ctrlCountsSpec)

/-- 'tallboylaw9.CursorAlls', WHERE WHAT IT READS IS OF BULK AT MOST 1048576: true; the input reads as it did. -/
def cursorAllsUptoRow : OpenClaim := { program := "ytpmmfilodillmaa", sum := "4cae9c60aec28f339c8f1c900038d47e59fc64bf5a982288589b5f2866edc52a", func := "tallboy/tallboylaw9.CursorAlls", spec := "cursorAlls", apart := false, narrowed := true }
def CursorAllsUptoSaid : Prop := cursorAllsUptoRow.holds Try.pinned (OpenSpec.upto cursorAllsSpec)

/-- 'tallboylaw9.CursorNumbers', WHERE WHAT IT READS IS OF BULK AT MOST 1048576: true; the input reads as it did. -/
def cursorNumbersUptoRow : OpenClaim := { program := "ytpmmfilodillmaa", sum := "4cae9c60aec28f339c8f1c900038d47e59fc64bf5a982288589b5f2866edc52a", func := "tallboy/tallboylaw9.CursorNumbers", spec := "cursorNumbers", apart := false, narrowed := true }
def CursorNumbersUptoSaid : Prop := cursorNumbersUptoRow.holds Try.pinned (OpenSpec.upto cursorNumbersSpec)

/-- 'tallboylaw9.CursorTells', WHERE WHAT IT READS IS OF BULK AT MOST 1048576: true; the input reads as it did. -/
def cursorTellsUptoRow : OpenClaim := { program := "ytpmmfilodillmaa", sum := "4cae9c60aec28f339c8f1c900038d47e59fc64bf5a982288589b5f2866edc52a", func := "tallboy/tallboylaw9.CursorTells", spec := "cursorTells", apart := false, narrowed := true }
def CursorTellsUptoSaid : Prop := cursorTellsUptoRow.holds Try.pinned (OpenSpec.upto cursorTellsSpec)

/-- 'tallboylaw9.CursorDeeper', WHERE WHAT IT READS IS OF BULK AT MOST 1048576: true; the input reads as it did. -/
def cursorDeeperUptoRow : OpenClaim := { program := "ytpmmfilodillmaa", sum := "4cae9c60aec28f339c8f1c900038d47e59fc64bf5a982288589b5f2866edc52a", func := "tallboy/tallboylaw9.CursorDeeper", spec := "cursorDeeper", apart := false, narrowed := true }
def CursorDeeperUptoSaid : Prop := cursorDeeperUptoRow.holds Try.pinned (OpenSpec.upto cursorDeeperSpec)

/-- 'tallboylaw9.CursorLong', WHERE WHAT IT READS IS OF BULK AT MOST 1048576: true; the input reads as it did. -/
def cursorLongUptoRow : OpenClaim := { program := "ytpmmfilodillmaa", sum := "4cae9c60aec28f339c8f1c900038d47e59fc64bf5a982288589b5f2866edc52a", func := "tallboy/tallboylaw9.CursorLong", spec := "cursorLong", apart := false, narrowed := true }
def CursorLongUptoSaid : Prop := cursorLongUptoRow.holds Try.pinned (OpenSpec.upto cursorLongSpec)

/-- 'tallboylaw9.CursorOrders', WHERE WHAT IT READS IS OF BULK AT MOST 1048576: true; the input reads as it did. -/
def cursorOrdersUptoRow : OpenClaim := { program := "ytpmmfilodillmaa", sum := "4cae9c60aec28f339c8f1c900038d47e59fc64bf5a982288589b5f2866edc52a", func := "tallboy/tallboylaw9.CursorOrders", spec := "cursorOrders", apart := false, narrowed := true }
def CursorOrdersUptoSaid : Prop := cursorOrdersUptoRow.holds Try.pinned (OpenSpec.upto cursorOrdersSpec)

end Rows
end Go.Proofs.Ytpmmfilodillmaa
