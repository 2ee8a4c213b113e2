/-
  No cell of these rows narrows 'for every input' (looked for: loops, veiled, ifaces, maps, wideKeys, modest, calm, conditions, laid).
  DERIVED. THE GIVEN ROWS OF THIS SEAT. 12 by the template 'for every input the law returns true; each argument reads behind the call as it read before'; 0 by the template 'total and deterministic' (their statements: YtkkijcnipjojoaaTotals.lean).
  GIVEN WITH THE SEED: the statements are not yours to turn. If you find one false, say at which input.
  Laid BY PROGRAM, IN A SANDBOX (cutbox-rows.mjs): the forced cells as the released guide's own fill.sh prints them over the translation 3728bc444451b674… (all of the seat's roots in one cut). By AI agents, Wed Nov 11 2026. No macro, syntax, notation, axiom, sorry.
-/
import Derived.Test.YtkkijcnipjojoaaChecked
import GoSem.Claim
import GoSem.ClaimJoined
import GoSem.ClaimMapViews
import Derived.JoinedTies
import Derived.KernelRfl
namespace Go.Proofs.Ytkkijcnipjojoaa
/- THE CELL 'sum', in the pinned program and in every row, IS THE sha256 OF THE DUMP (.gsa) THAT YtkkijcnipjojoaaProg.lean LOADS. Nothing in Lean hashes anything: it is a label: what it is worth is what the hold of that sum in a sandbox is worth. -/
noncomputable def Try.pinned : Pinned := { name := "ytkkijcnipjojoaa", sum := "3728bc444451b67400d911ca7e29672cc630f3d2346f976daba4ed50e6a83c15", checked := Try.checked }
namespace Rows
def none {H : Type} : Left H := { results := [], args := [] }

/-- 'tallboylaw8.TableChurns': WHATEVER THE INPUT: true; the input reads as it did. -/
def tableChurnsSpec : ChangeSpec := { name := "tableChurns", fn := fun _ => fun
  | [d1, d2, d3] => { results := [.lit (.bool true)], args := [d1, d2, d3] }
  | _ => none }
def tableChurnsRow : OpenClaim := { program := "ytkkijcnipjojoaa", sum := "3728bc444451b67400d911ca7e29672cc630f3d2346f976daba4ed50e6a83c15", func := "tallboy/tallboylaw8.TableChurns", spec := "tableChurns", unfollowed := true, recurses := true, apart := false }
def TableChurnsSaid : Prop := tableChurnsRow.holds Try.pinned (OpenSpec.ofChange tableChurnsSpec)

/-- ITS FALSE NEIGHBOUR: 'it returns false'. Refute it at one input. -/
def tableChurnsWrong : ChangeSpec := { name := "tableChurns", fn := fun _ => fun
  | [d1, d2, d3] => { results := [.lit (.bool false)], args := [d1, d2, d3] }
  | _ => none }
def TableChurnsWrongFalsely : Prop := tableChurnsRow.holds Try.pinned (OpenSpec.ofChange tableChurnsWrong)

/-- 'tallboylaw8.TableSeeds': WHATEVER THE INPUT: true; the input reads as it did. -/
def tableSeedsSpec : ChangeSpec := { name := "tableSeeds", fn := fun _ => fun
  | [d1, d2, d3] => { results := [.lit (.bool true)], args := [d1, d2, d3] }
  | _ => none }
def tableSeedsRow : OpenClaim := { program := "ytkkijcnipjojoaa", sum := "3728bc444451b67400d911ca7e29672cc630f3d2346f976daba4ed50e6a83c15", func := "tallboy/tallboylaw8.TableSeeds", spec := "tableSeeds", unfollowed := true, recurses := true, apart := false }
def TableSeedsSaid : Prop := tableSeedsRow.holds Try.pinned (OpenSpec.ofChange tableSeedsSpec)

/-- ITS FALSE NEIGHBOUR: 'it returns false'. Refute it at one input. -/
def tableSeedsWrong : ChangeSpec := { name := "tableSeeds", fn := fun _ => fun
  | [d1, d2, d3] => { results := [.lit (.bool false)], args := [d1, d2, d3] }
  | _ => none }
def TableSeedsWrongFalsely : Prop := tableSeedsRow.holds Try.pinned (OpenSpec.ofChange tableSeedsWrong)

/-- 'tallboylaw8.TableSplits': WHATEVER THE INPUT: true; the input reads as it did. -/
def tableSplitsSpec : ChangeSpec := { name := "tableSplits", fn := fun _ => fun
  | [d1, d2, d3] => { results := [.lit (.bool true)], args := [d1, d2, d3] }
  | _ => none }
def tableSplitsRow : OpenClaim := { program := "ytkkijcnipjojoaa", sum := "3728bc444451b67400d911ca7e29672cc630f3d2346f976daba4ed50e6a83c15", func := "tallboy/tallboylaw8.TableSplits", spec := "tableSplits", unfollowed := true, recurses := true, apart := false }
def TableSplitsSaid : Prop := tableSplitsRow.holds Try.pinned (OpenSpec.ofChange tableSplitsSpec)

/-- ITS FALSE NEIGHBOUR: 'it returns false'. Refute it at one input. -/
def tableSplitsWrong : ChangeSpec := { name := "tableSplits", fn := fun _ => fun
  | [d1, d2, d3] => { results := [.lit (.bool false)], args := [d1, d2, d3] }
  | _ => none }
def TableSplitsWrongFalsely : Prop := tableSplitsRow.holds Try.pinned (OpenSpec.ofChange tableSplitsWrong)

/-- 'tallboylaw8.TableNumbers': WHATEVER THE INPUT: true; the input reads as it did. -/
def tableNumbersSpec : ChangeSpec := { name := "tableNumbers", fn := fun _ => fun
  | [] => { results := [.lit (.bool true)], args := [] }
  | _ => none }
def tableNumbersRow : OpenClaim := { program := "ytkkijcnipjojoaa", sum := "3728bc444451b67400d911ca7e29672cc630f3d2346f976daba4ed50e6a83c15", func := "tallboy/tallboylaw8.TableNumbers", spec := "tableNumbers", unfollowed := true, recurses := true, apart := false }
def TableNumbersSaid : Prop := tableNumbersRow.holds Try.pinned (OpenSpec.ofChange tableNumbersSpec)

/-- ITS FALSE NEIGHBOUR: 'it returns false'. Refute it at one input. -/
def tableNumbersWrong : ChangeSpec := { name := "tableNumbers", fn := fun _ => fun
  | [] => { results := [.lit (.bool false)], args := [] }
  | _ => none }
def TableNumbersWrongFalsely : Prop := tableNumbersRow.holds Try.pinned (OpenSpec.ofChange tableNumbersWrong)

/-- 'tallboylaw8.TablePlays': WHATEVER THE INPUT: true; the input reads as it did. -/
def tablePlaysSpec : ChangeSpec := { name := "tablePlays", fn := fun _ => fun
  | [d1, d2] => { results := [.lit (.bool true)], args := [d1, d2] }
  | _ => none }
def tablePlaysRow : OpenClaim := { program := "ytkkijcnipjojoaa", sum := "3728bc444451b67400d911ca7e29672cc630f3d2346f976daba4ed50e6a83c15", func := "tallboy/tallboylaw8.TablePlays", spec := "tablePlays", unfollowed := true, recurses := true, apart := false }
def TablePlaysSaid : Prop := tablePlaysRow.holds Try.pinned (OpenSpec.ofChange tablePlaysSpec)

/-- ITS FALSE NEIGHBOUR: 'it returns false'. Refute it at one input. -/
def tablePlaysWrong : ChangeSpec := { name := "tablePlays", fn := fun _ => fun
  | [d1, d2] => { results := [.lit (.bool false)], args := [d1, d2] }
  | _ => none }
def TablePlaysWrongFalsely : Prop := tablePlaysRow.holds Try.pinned (OpenSpec.ofChange tablePlaysWrong)

/-- 'tallboylaw10.DictBuckets': WHATEVER THE INPUT: true; the input reads as it did. -/
def dictBucketsSpec : ChangeSpec := { name := "dictBuckets", fn := fun _ => fun
  | [d1, d2] => { results := [.lit (.bool true)], args := [d1, d2] }
  | _ => none }
def dictBucketsRow : OpenClaim := { program := "ytkkijcnipjojoaa", sum := "3728bc444451b67400d911ca7e29672cc630f3d2346f976daba4ed50e6a83c15", func := "tallboy/tallboylaw10.DictBuckets", spec := "dictBuckets", unfollowed := true, recurses := true, apart := false }
def DictBucketsSaid : Prop := dictBucketsRow.holds Try.pinned (OpenSpec.ofChange dictBucketsSpec)

/-- ITS FALSE NEIGHBOUR: 'it returns false'. Refute it at one input. -/
def dictBucketsWrong : ChangeSpec := { name := "dictBuckets", fn := fun _ => fun
  | [d1, d2] => { results := [.lit (.bool false)], args := [d1, d2] }
  | _ => none }
def DictBucketsWrongFalsely : Prop := dictBucketsRow.holds Try.pinned (OpenSpec.ofChange dictBucketsWrong)

/-- 'tallboylaw10.DictEnds': WHATEVER THE INPUT: true; the input reads as it did. -/
def dictEndsSpec : ChangeSpec := { name := "dictEnds", fn := fun _ => fun
  | [d1, d2, d3] => { results := [.lit (.bool true)], args := [d1, d2, d3] }
  | _ => none }
def dictEndsRow : OpenClaim := { program := "ytkkijcnipjojoaa", sum := "3728bc444451b67400d911ca7e29672cc630f3d2346f976daba4ed50e6a83c15", func := "tallboy/tallboylaw10.DictEnds", spec := "dictEnds", unfollowed := true, recurses := true, apart := false }
def DictEndsSaid : Prop := dictEndsRow.holds Try.pinned (OpenSpec.ofChange dictEndsSpec)

/-- ITS FALSE NEIGHBOUR: 'it returns false'. Refute it at one input. -/
def dictEndsWrong : ChangeSpec := { name := "dictEnds", fn := fun _ => fun
  | [d1, d2, d3] => { results := [.lit (.bool false)], args := [d1, d2, d3] }
  | _ => none }
def DictEndsWrongFalsely : Prop := dictEndsRow.holds Try.pinned (OpenSpec.ofChange dictEndsWrong)

/-- 'tallboylaw10.DictNumbers': WHATEVER THE INPUT: true; the input reads as it did. -/
def dictNumbersSpec : ChangeSpec := { name := "dictNumbers", fn := fun _ => fun
  | [] => { results := [.lit (.bool true)], args := [] }
  | _ => none }
def dictNumbersRow : OpenClaim := { program := "ytkkijcnipjojoaa", sum := "3728bc444451b67400d911ca7e29672cc630f3d2346f976daba4ed50e6a83c15", func := "tallboy/tallboylaw10.DictNumbers", spec := "dictNumbers", unfollowed := true, recurses := true, apart := false }
def DictNumbersSaid : Prop := dictNumbersRow.holds Try.pinned (OpenSpec.ofChange dictNumbersSpec)

/-- ITS FALSE NEIGHBOUR: 'it returns false'. Refute it at one input. -/
def dictNumbersWrong : ChangeSpec := { name := "dictNumbers", fn := fun _ => fun
  | [] => { results := [.lit (.bool false)], args := [] }
  | _ => none }
def DictNumbersWrongFalsely : Prop := dictNumbersRow.holds Try.pinned (OpenSpec.ofChange dictNumbersWrong)

/-- 'tallboylaw10.DictScans': WHATEVER THE INPUT: true; the input reads as it did. -/
def dictScansSpec : ChangeSpec := { name := "dictScans", fn := fun _ => fun
  | [d1, d2, d3, d4] => { results := [.lit (.bool true)], args := [d1, d2, d3, d4] }
  | _ => none }
def dictScansRow : OpenClaim := { program := "ytkkijcnipjojoaa", sum := "3728bc444451b67400d911ca7e29672cc630f3d2346f976daba4ed50e6a83c15", func := "tallboy/tallboylaw10.DictScans", spec := "dictScans", unfollowed := true, recurses := true, apart := false }
def DictScansSaid : Prop := dictScansRow.holds Try.pinned (OpenSpec.ofChange dictScansSpec)

/-- ITS FALSE NEIGHBOUR: 'it returns false'. Refute it at one input. -/
def dictScansWrong : ChangeSpec := { name := "dictScans", fn := fun _ => fun
  | [d1, d2, d3, d4] => { results := [.lit (.bool false)], args := [d1, d2, d3, d4] }
  | _ => none }
def DictScansWrongFalsely : Prop := dictScansRow.holds Try.pinned (OpenSpec.ofChange dictScansWrong)

/-- 'tallboylaw10.DictSeeds': WHATEVER THE INPUT: true; the input reads as it did. -/
def dictSeedsSpec : ChangeSpec := { name := "dictSeeds", fn := fun _ => fun
  | [d1, d2, d3] => { results := [.lit (.bool true)], args := [d1, d2, d3] }
  | _ => none }
def dictSeedsRow : OpenClaim := { program := "ytkkijcnipjojoaa", sum := "3728bc444451b67400d911ca7e29672cc630f3d2346f976daba4ed50e6a83c15", func := "tallboy/tallboylaw10.DictSeeds", spec := "dictSeeds", unfollowed := true, recurses := true, apart := false }
def DictSeedsSaid : Prop := dictSeedsRow.holds Try.pinned (OpenSpec.ofChange dictSeedsSpec)

/-- ITS FALSE NEIGHBOUR: 'it returns false'. Refute it at one input. -/
def dictSeedsWrong : ChangeSpec := { name := "dictSeeds", fn := fun _ => fun
  | [d1, d2, d3] => { results := [.lit (.bool false)], args := [d1, d2, d3] }
  | _ => none }
def DictSeedsWrongFalsely : Prop := dictSeedsRow.holds Try.pinned (OpenSpec.ofChange dictSeedsWrong)

/-- 'tallboylaw10.DictDeletes': WHATEVER THE INPUT: true; the input reads as it did. -/
def dictDeletesSpec : ChangeSpec := { name := "dictDeletes", fn := fun _ => fun
  | [d1, d2] => { results := [.lit (.bool true)], args := [d1, d2] }
  | _ => none }
def dictDeletesRow : OpenClaim := { program := "ytkkijcnipjojoaa", sum := "3728bc444451b67400d911ca7e29672cc630f3d2346f976daba4ed50e6a83c15", func := "tallboy/tallboylaw10.DictDeletes", spec := "dictDeletes", unfollowed := true, recurses := true, apart := false }
def DictDeletesSaid : Prop := dictDeletesRow.holds Try.pinned (OpenSpec.ofChange dictDeletesSpec)

/-- ITS FALSE NEIGHBOUR: 'it returns false'. Refute it at one input. -/
def dictDeletesWrong : ChangeSpec := { name := "dictDeletes", fn := fun _ => fun
  | [d1, d2] => { results := [.lit (.bool false)], args := [d1, d2] }
  | _ => none }
def DictDeletesWrongFalsely : Prop := dictDeletesRow.holds Try.pinned (OpenSpec.ofChange dictDeletesWrong)

/-- 'tallboylaw10.DictPlays': WHATEVER THE INPUT: true; the input reads as it did. -/
def dictPlaysSpec : ChangeSpec := { name := "dictPlays", fn := fun _ => fun
  | [d1, d2] => { results := [.lit (.bool true)], args := [d1, d2] }
  | _ => none }
def dictPlaysRow : OpenClaim := { program := "ytkkijcnipjojoaa", sum := "3728bc444451b67400d911ca7e29672cc630f3d2346f976daba4ed50e6a83c15", func := "tallboy/tallboylaw10.DictPlays", spec := "dictPlays", unfollowed := true, recurses := true, apart := false }
def DictPlaysSaid : Prop := dictPlaysRow.holds Try.pinned (OpenSpec.ofChange dictPlaysSpec)

/-- ITS FALSE NEIGHBOUR: 'it returns false'. Refute it at one input. -/
def dictPlaysWrong : ChangeSpec := { name := "dictPlays", fn := fun _ => fun
  | [d1, d2] => { results := [.lit (.bool false)], args := [d1, d2] }
  | _ => none }
def DictPlaysWrongFalsely : Prop := dictPlaysRow.holds Try.pinned (OpenSpec.ofChange dictPlaysWrong)

/- THE SECOND FORM. 'bulk': how many values and letters a reading holds, each counted each time it is reached (what is shared counts as often as it is met; a slice's spare places count too). A statement '..UptoSaid' is the law's where the arguments, and the package variables that the reading takes, are together of bulk at most 1048576: NARROWER than '..Said'. Prove '..Said' where nothing that the law and all that it calls make is longer than what came in: it says more and counts as full. Else prove '..UptoSaid'. A law counts once. -/
mutual
def uptoBulk {H : Type} : DataW H → Nat
  | .lit (.string bytes) => bytes.length + 1
  | .lit _ => 1
  | .nil => 1
  | .ptr d => uptoBulk d + 1
  | .slice elems spare => uptoBulkAll elems + uptoBulkAll spare + 1
  | .agg parts => uptoBulkAll parts + 1
  | .iface _ d => uptoBulk d + 1
  | .map entries => uptoBulkEntries entries + 1
  | .held _ => 1
def uptoBulkAll {H : Type} : List (DataW H) → Nat
  | [] => 0
  | d :: r => uptoBulk d + uptoBulkAll r
def uptoBulkEntries {H : Type} : List (Lit × DataW H) → Nat
  | [] => 0
  | x :: r => uptoBulkEntry x + uptoBulkEntries r
def uptoBulkEntry {H : Type} : Lit × DataW H → Nat
  | (.string bytes, d) => bytes.length + uptoBulk d + 1
  | (_, d) => uptoBulk d + 1
 end
def uptoSmall : (H : Type) → List (DataW H) → Bool := fun _ ds => decide (uptoBulkAll ds ≤ 1048576)
def OpenSpec.upto (s : _root_.Go.ChangeSpec) : _root_.Go.OpenSpec := { _root_.Go.OpenSpec.ofChange s with cond := some uptoSmall }

/-- 'tallboylaw8.TableChurns', WHERE WHAT IT READS IS OF BULK AT MOST 1048576: true; the input reads as it did. -/
def tableChurnsUptoRow : OpenClaim := { program := "ytkkijcnipjojoaa", sum := "3728bc444451b67400d911ca7e29672cc630f3d2346f976daba4ed50e6a83c15", func := "tallboy/tallboylaw8.TableChurns", spec := "tableChurns", unfollowed := true, recurses := true, apart := false, narrowed := true }
def TableChurnsUptoSaid : Prop := tableChurnsUptoRow.holds Try.pinned (OpenSpec.upto tableChurnsSpec)

/-- 'tallboylaw8.TableSeeds', WHERE WHAT IT READS IS OF BULK AT MOST 1048576: true; the input reads as it did. -/
def tableSeedsUptoRow : OpenClaim := { program := "ytkkijcnipjojoaa", sum := "3728bc444451b67400d911ca7e29672cc630f3d2346f976daba4ed50e6a83c15", func := "tallboy/tallboylaw8.TableSeeds", spec := "tableSeeds", unfollowed := true, recurses := true, apart := false, narrowed := true }
def TableSeedsUptoSaid : Prop := tableSeedsUptoRow.holds Try.pinned (OpenSpec.upto tableSeedsSpec)

/-- 'tallboylaw8.TableSplits', WHERE WHAT IT READS IS OF BULK AT MOST 1048576: true; the input reads as it did. -/
def tableSplitsUptoRow : OpenClaim := { program := "ytkkijcnipjojoaa", sum := "3728bc444451b67400d911ca7e29672cc630f3d2346f976daba4ed50e6a83c15", func := "tallboy/tallboylaw8.TableSplits", spec := "tableSplits", unfollowed := true, recurses := true, apart := false, narrowed := true }
def TableSplitsUptoSaid : Prop := tableSplitsUptoRow.holds Try.pinned (OpenSpec.upto tableSplitsSpec)

/-- 'tallboylaw8.TableNumbers', WHERE WHAT IT READS IS OF BULK AT MOST 1048576: true; the input reads as it did. -/
def tableNumbersUptoRow : OpenClaim := { program := "ytkkijcnipjojoaa", sum := "3728bc444451b67400d911ca7e29672cc630f3d2346f976daba4ed50e6a83c15", func := "tallboy/tallboylaw8.TableNumbers", spec := "tableNumbers", unfollowed := true, recurses := true, apart := false, narrowed := true }
def TableNumbersUptoSaid : Prop := tableNumbersUptoRow.holds Try.pinned (OpenSpec.upto tableNumbersSpec)

/-- 'tallboylaw8.TablePlays', WHERE WHAT IT READS IS OF BULK AT MOST 1048576: true; the input reads as it did. -/
def tablePlaysUptoRow : OpenClaim := { program := "ytkkijcnipjojoaa", sum := "3728bc444451b67400d911ca7e29672cc630f3d2346f976daba4ed50e6a83c15", func := "tallboy/tallboylaw8.TablePlays", spec := "tablePlays", unfollowed := true, recurses := true, apart := false, narrowed := true }
def TablePlaysUptoSaid : Prop := tablePlaysUptoRow.holds Try.pinned (OpenSpec.upto tablePlaysSpec)

/-- 'tallboylaw10.DictBuckets', WHERE WHAT IT READS IS OF BULK AT MOST 1048576: true; the input reads as it did. -/
def dictBucketsUptoRow : OpenClaim := { program := "ytkkijcnipjojoaa", sum := "3728bc444451b67400d911ca7e29672cc630f3d2346f976daba4ed50e6a83c15", func := "tallboy/tallboylaw10.DictBuckets", spec := "dictBuckets", unfollowed := true, recurses := true, apart := false, narrowed := true }
def DictBucketsUptoSaid : Prop := dictBucketsUptoRow.holds Try.pinned (OpenSpec.upto dictBucketsSpec)

/-- 'tallboylaw10.DictEnds', WHERE WHAT IT READS IS OF BULK AT MOST 1048576: true; the input reads as it did. -/
def dictEndsUptoRow : OpenClaim := { program := "ytkkijcnipjojoaa", sum := "3728bc444451b67400d911ca7e29672cc630f3d2346f976daba4ed50e6a83c15", func := "tallboy/tallboylaw10.DictEnds", spec := "dictEnds", unfollowed := true, recurses := true, apart := false, narrowed := true }
def DictEndsUptoSaid : Prop := dictEndsUptoRow.holds Try.pinned (OpenSpec.upto dictEndsSpec)

/-- 'tallboylaw10.DictNumbers', WHERE WHAT IT READS IS OF BULK AT MOST 1048576: true; the input reads as it did. -/
def dictNumbersUptoRow : OpenClaim := { program := "ytkkijcnipjojoaa", sum := "3728bc444451b67400d911ca7e29672cc630f3d2346f976daba4ed50e6a83c15", func := "tallboy/tallboylaw10.DictNumbers", spec := "dictNumbers", unfollowed := true, recurses := true, apart := false, narrowed := true }
def DictNumbersUptoSaid : Prop := dictNumbersUptoRow.holds Try.pinned (OpenSpec.upto dictNumbersSpec)

/-- 'tallboylaw10.DictScans', WHERE WHAT IT READS IS OF BULK AT MOST 1048576: true; the input reads as it did. -/
def dictScansUptoRow : OpenClaim := { program := "ytkkijcnipjojoaa", sum := "3728bc444451b67400d911ca7e29672cc630f3d2346f976daba4ed50e6a83c15", func := "tallboy/tallboylaw10.DictScans", spec := "dictScans", unfollowed := true, recurses := true, apart := false, narrowed := true }
def DictScansUptoSaid : Prop := dictScansUptoRow.holds Try.pinned (OpenSpec.upto dictScansSpec)

/-- 'tallboylaw10.DictSeeds', WHERE WHAT IT READS IS OF BULK AT MOST 1048576: true; the input reads as it did. -/
def dictSeedsUptoRow : OpenClaim := { program := "ytkkijcnipjojoaa", sum := "3728bc444451b67400d911ca7e29672cc630f3d2346f976daba4ed50e6a83c15", func := "tallboy/tallboylaw10.DictSeeds", spec := "dictSeeds", unfollowed := true, recurses := true, apart := false, narrowed := true }
def DictSeedsUptoSaid : Prop := dictSeedsUptoRow.holds Try.pinned (OpenSpec.upto dictSeedsSpec)

/-- 'tallboylaw10.DictDeletes', WHERE WHAT IT READS IS OF BULK AT MOST 1048576: true; the input reads as it did. -/
def dictDeletesUptoRow : OpenClaim := { program := "ytkkijcnipjojoaa", sum := "3728bc444451b67400d911ca7e29672cc630f3d2346f976daba4ed50e6a83c15", func := "tallboy/tallboylaw10.DictDeletes", spec := "dictDeletes", unfollowed := true, recurses := true, apart := false, narrowed := true }
def DictDeletesUptoSaid : Prop := dictDeletesUptoRow.holds Try.pinned (OpenSpec.upto dictDeletesSpec)

/-- 'tallboylaw10.DictPlays', WHERE WHAT IT READS IS OF BULK AT MOST 1048576: true; the input reads as it did. -/
def dictPlaysUptoRow : OpenClaim := { program := "ytkkijcnipjojoaa", sum := "3728bc444451b67400d911ca7e29672cc630f3d2346f976daba4ed50e6a83c15", func := "tallboy/tallboylaw10.DictPlays", spec := "dictPlays", unfollowed := true, recurses := true, apart := false, narrowed := true }
def DictPlaysUptoSaid : Prop := dictPlaysUptoRow.holds Try.pinned (OpenSpec.upto dictPlaysSpec)

end Rows
end Go.Proofs.Ytkkijcnipjojoaa
