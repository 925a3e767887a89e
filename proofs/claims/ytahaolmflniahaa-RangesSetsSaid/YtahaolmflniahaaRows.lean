/-
  No cell of these rows narrows 'for every input' (looked for: loops, veiled, ifaces, maps, wideKeys, modest, calm, conditions, laid).
  DERIVED. THE GIVEN ROWS OF THIS SEAT. 4 by the template 'for every input the law returns true; each argument reads behind the call as it read before'; 0 by the template 'total and deterministic' (their statements: YtahaolmflniahaaTotals.lean).
  GIVEN WITH THE SEED: the statements are not yours to turn. If you find one false, say at which input.
  Laid BY PROGRAM, IN A SANDBOX (cutbox-rows.mjs): the forced cells as the released guide's own fill.sh prints them over the translation fe0c1ff3053d92e4… (all of the seat's roots in one cut). By AI agents, Wed Nov 11 2026. No macro, syntax, notation, axiom, sorry.
-/
import Derived.Test.YtahaolmflniahaaChecked
import GoSem.Claim
import GoSem.ClaimJoined
import GoSem.ClaimMapViews
import Derived.JoinedTies
import Derived.KernelRfl
namespace Go.Proofs.Ytahaolmflniahaa
/- THE CELL 'sum', in the pinned program and in every row, IS THE sha256 OF THE DUMP (.gsa) THAT YtahaolmflniahaaProg.lean LOADS. Nothing in Lean hashes anything: it is a label: what it is worth is what the hold of that sum in a sandbox is worth. -/
noncomputable def Try.pinned : Pinned := { name := "ytahaolmflniahaa", sum := "fe0c1ff3053d92e4c526a70d557cd9afcddf0dcc484b520c6edffe74c01d65db", checked := Try.checked }
namespace Rows
def none {H : Type} : Left H := { results := [], args := [] }

/-- 'mailcoachlaw3.RangesPlay': WHATEVER THE INPUT: true; the input reads as it did. -/
def rangesPlaySpec : ChangeSpec := { name := "rangesPlay", fn := fun _ => fun
  | [d1, d2] => { results := [.lit (.bool true)], args := [d1, d2] }
  | _ => none }
def rangesPlayRow : OpenClaim := { program := "ytahaolmflniahaa", sum := "fe0c1ff3053d92e4c526a70d557cd9afcddf0dcc484b520c6edffe74c01d65db", func := "mailcoach/mailcoachlaw3.RangesPlay", spec := "rangesPlay", inPlace := ["slices.overlaps[[2]int]"], unfollowed := true, recurses := true, apart := false }
def RangesPlaySaid : Prop := rangesPlayRow.holds Try.pinned (OpenSpec.ofChange rangesPlaySpec)

/-- ITS FALSE NEIGHBOUR: 'it returns false'. Refute it at one input. -/
def rangesPlayWrong : ChangeSpec := { name := "rangesPlay", fn := fun _ => fun
  | [d1, d2] => { results := [.lit (.bool false)], args := [d1, d2] }
  | _ => none }
def RangesPlayWrongFalsely : Prop := rangesPlayRow.holds Try.pinned (OpenSpec.ofChange rangesPlayWrong)

/-- 'mailcoachlaw3.RangesSets': WHATEVER THE INPUT: true; the input reads as it did. -/
def rangesSetsSpec : ChangeSpec := { name := "rangesSets", fn := fun _ => fun
  | [d1, d2] => { results := [.lit (.bool true)], args := [d1, d2] }
  | _ => none }
def rangesSetsRow : OpenClaim := { program := "ytahaolmflniahaa", sum := "fe0c1ff3053d92e4c526a70d557cd9afcddf0dcc484b520c6edffe74c01d65db", func := "mailcoach/mailcoachlaw3.RangesSets", spec := "rangesSets", inPlace := ["slices.overlaps[[2]int]"], unfollowed := true, recurses := true, apart := false }
def RangesSetsSaid : Prop := rangesSetsRow.holds Try.pinned (OpenSpec.ofChange rangesSetsSpec)

/-- ITS FALSE NEIGHBOUR: 'it returns false'. Refute it at one input. -/
def rangesSetsWrong : ChangeSpec := { name := "rangesSets", fn := fun _ => fun
  | [d1, d2] => { results := [.lit (.bool false)], args := [d1, d2] }
  | _ => none }
def RangesSetsWrongFalsely : Prop := rangesSetsRow.holds Try.pinned (OpenSpec.ofChange rangesSetsWrong)

/-- 'mailcoachlaw3.RangesEnds': WHATEVER THE INPUT: true; the input reads as it did. -/
def rangesEndsSpec : ChangeSpec := { name := "rangesEnds", fn := fun _ => fun
  | [d1, d2] => { results := [.lit (.bool true)], args := [d1, d2] }
  | _ => none }
def rangesEndsRow : OpenClaim := { program := "ytahaolmflniahaa", sum := "fe0c1ff3053d92e4c526a70d557cd9afcddf0dcc484b520c6edffe74c01d65db", func := "mailcoach/mailcoachlaw3.RangesEnds", spec := "rangesEnds", inPlace := ["slices.overlaps[[2]int]"], unfollowed := true, recurses := true, apart := false }
def RangesEndsSaid : Prop := rangesEndsRow.holds Try.pinned (OpenSpec.ofChange rangesEndsSpec)

/-- ITS FALSE NEIGHBOUR: 'it returns false'. Refute it at one input. -/
def rangesEndsWrong : ChangeSpec := { name := "rangesEnds", fn := fun _ => fun
  | [d1, d2] => { results := [.lit (.bool false)], args := [d1, d2] }
  | _ => none }
def RangesEndsWrongFalsely : Prop := rangesEndsRow.holds Try.pinned (OpenSpec.ofChange rangesEndsWrong)

/-- 'mailcoachlaw3.RangesJoin': WHATEVER THE INPUT: true; the input reads as it did. -/
def rangesJoinSpec : ChangeSpec := { name := "rangesJoin", fn := fun _ => fun
  | [d1, d2, d3] => { results := [.lit (.bool true)], args := [d1, d2, d3] }
  | _ => none }
def rangesJoinRow : OpenClaim := { program := "ytahaolmflniahaa", sum := "fe0c1ff3053d92e4c526a70d557cd9afcddf0dcc484b520c6edffe74c01d65db", func := "mailcoach/mailcoachlaw3.RangesJoin", spec := "rangesJoin", inPlace := ["slices.overlaps[[2]int]"], unfollowed := true, recurses := true, apart := false }
def RangesJoinSaid : Prop := rangesJoinRow.holds Try.pinned (OpenSpec.ofChange rangesJoinSpec)

/-- ITS FALSE NEIGHBOUR: 'it returns false'. Refute it at one input. -/
def rangesJoinWrong : ChangeSpec := { name := "rangesJoin", fn := fun _ => fun
  | [d1, d2, d3] => { results := [.lit (.bool false)], args := [d1, d2, d3] }
  | _ => none }
def RangesJoinWrongFalsely : Prop := rangesJoinRow.holds Try.pinned (OpenSpec.ofChange rangesJoinWrong)

/- THE SECOND FORM. 'bulk': how many values and letters a reading holds, each counted each time it is reached (what is shared counts as often as it is met; a slice's spare places count too). A statement '..UptoSaid' is the law's where the arguments, and the package variables that the reading takes, are together of bulk at most 1048576: NARROWER than '..Said'. Prove '..Said' where nothing that the law and all that it calls make is longer than what came in: it says more and counts as full. Else prove '..UptoSaid'. A law counts once. -/
mutual
def uptoBulk {H : Type} : DataW H → Nat
  | .lit (.string bytes) => bytes.length + 1
  | .lit _ => 1
  | .nil => 1
  | .ptr d => uptoBulk d + 1
  | .slice elems spare => uptoBulkAll elems + uptoBulkAll spare + 1
  | .agg parts => uptoBulkAll parts + 1
  | .iface _ d => uptoBulk d + 1
  | .map entries => uptoBulkEntries entries + 1
  | .held _ => 1
def uptoBulkAll {H : Type} : List (DataW H) → Nat
  | [] => 0
  | d :: r => uptoBulk d + uptoBulkAll r
def uptoBulkEntries {H : Type} : List (Lit × DataW H) → Nat
  | [] => 0
  | x :: r => uptoBulkEntry x + uptoBulkEntries r
def uptoBulkEntry {H : Type} : Lit × DataW H → Nat
  | (.string bytes, d) => bytes.length + uptoBulk d + 1
  | (_, d) => uptoBulk d + 1
 end
def uptoSmall : (H : Type) → List (DataW H) → Bool := fun _ ds => decide (uptoBulkAll ds ≤ 1048576)
def OpenSpec.upto (s : _root_.Go.ChangeSpec) : _root_.Go.OpenSpec := { _root_.Go.OpenSpec.ofChange s with cond := some uptoSmall }

/-- 'mailcoachlaw3.RangesPlay', WHERE WHAT IT READS IS OF BULK AT MOST 1048576: true; the input reads as it did. -/
def rangesPlayUptoRow : OpenClaim := { program := "ytahaolmflniahaa", sum := "fe0c1ff3053d92e4c526a70d557cd9afcddf0dcc484b520c6edffe74c01d65db", func := "mailcoach/mailcoachlaw3.RangesPlay", spec := "rangesPlay", inPlace := ["slices.overlaps[[2]int]"], unfollowed := true, recurses := true, apart := false, narrowed := true }
def RangesPlayUptoSaid : Prop := rangesPlayUptoRow.holds Try.pinned (OpenSpec.upto rangesPlaySpec)

/-- 'mailcoachlaw3.RangesSets', WHERE WHAT IT READS IS OF BULK AT MOST 1048576: true; the input reads as it did. -/
def rangesSetsUptoRow : OpenClaim := { program := "ytahaolmflniahaa", sum := "fe0c1ff3053d92e4c526a70d557cd9afcddf0dcc484b520c6edffe74c01d65db", func := "mailcoach/mailcoachlaw3.RangesSets", spec := "rangesSets", inPlace := ["slices.overlaps[[2]int]"], unfollowed := true, recurses := true, apart := false, narrowed := true }
def RangesSetsUptoSaid : Prop := rangesSetsUptoRow.holds Try.pinned (OpenSpec.upto rangesSetsSpec)

/-- 'mailcoachlaw3.RangesEnds', WHERE WHAT IT READS IS OF BULK AT MOST 1048576: true; the input reads as it did. -/
def rangesEndsUptoRow : OpenClaim := { program := "ytahaolmflniahaa", sum := "fe0c1ff3053d92e4c526a70d557cd9afcddf0dcc484b520c6edffe74c01d65db", func := "mailcoach/mailcoachlaw3.RangesEnds", spec := "rangesEnds", inPlace := ["slices.overlaps[[2]int]"], unfollowed := true, recurses := true, apart := false, narrowed := true }
def RangesEndsUptoSaid : Prop := rangesEndsUptoRow.holds Try.pinned (OpenSpec.upto rangesEndsSpec)

/-- 'mailcoachlaw3.RangesJoin', WHERE WHAT IT READS IS OF BULK AT MOST 1048576: true; the input reads as it did. -/
def rangesJoinUptoRow : OpenClaim := { program := "ytahaolmflniahaa", sum := "fe0c1ff3053d92e4c526a70d557cd9afcddf0dcc484b520c6edffe74c01d65db", func := "mailcoach/mailcoachlaw3.RangesJoin", spec := "rangesJoin", inPlace := ["slices.overlaps[[2]int]"], unfollowed := true, recurses := true, apart := false, narrowed := true }
def RangesJoinUptoSaid : Prop := rangesJoinUptoRow.holds Try.pinned (OpenSpec.upto rangesJoinSpec)

end Rows
end Go.Proofs.Ytahaolmflniahaa
