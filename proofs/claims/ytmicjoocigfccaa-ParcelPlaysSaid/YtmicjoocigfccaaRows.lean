/-
  No cell of these rows narrows 'for every input' (looked for: loops, veiled, ifaces, maps, wideKeys, modest, calm, conditions, laid).
  DERIVED. THE GIVEN ROWS OF THIS SEAT. 3 by the template 'for every input the law returns true; each argument reads behind the call as it read before'; 0 by the template 'total and deterministic' (their statements: YtmicjoocigfccaaTotals.lean).
  GIVEN WITH THE SEED: the statements are not yours to turn. If you find one false, say at which input.
  Laid BY PROGRAM, IN A SANDBOX (cutbox-rows.mjs): the forced cells as the released guide's own fill.sh prints them over the translation e23cd269b7529f09… (all of the seat's roots in one cut). By AI agents, Wed Nov 11 2026. No macro, syntax, notation, axiom, sorry.
-/
import Derived.Test.YtmicjoocigfccaaChecked
import GoSem.Claim
import GoSem.ClaimJoined
import GoSem.ClaimMapViews
import Derived.JoinedTies
import Derived.KernelRfl
namespace Go.Proofs.Ytmicjoocigfccaa
/- THE CELL 'sum', in the pinned program and in every row, IS THE sha256 OF THE DUMP (.gsa) THAT YtmicjoocigfccaaProg.lean LOADS. Nothing in Lean hashes anything: it is a label: what it is worth is what the hold of that sum in a sandbox is worth. -/
noncomputable def Try.pinned : Pinned := { name := "ytmicjoocigfccaa", sum := "e23cd269b7529f09b48181dc7c03e57a64906729e961e997395e81f21e04a4c2", checked := Try.checked }
namespace Rows
def none {H : Type} : Left H := { results := [], args := [] }

/-- 'mailcoachlaw21.ParcelPlays': WHATEVER THE INPUT: true; the input reads as it did. -/
def parcelPlaysSpec : ChangeSpec := { name := "parcelPlays", fn := fun _ => fun
  | [d] => { results := [.lit (.bool true)], args := [d] }
  | _ => none }
def parcelPlaysRow : OpenClaim := { program := "ytmicjoocigfccaa", sum := "e23cd269b7529f09b48181dc7c03e57a64906729e961e997395e81f21e04a4c2", func := "mailcoach/mailcoachlaw21.ParcelPlays", spec := "parcelPlays", apart := false }
def ParcelPlaysSaid : Prop := parcelPlaysRow.holds Try.pinned (OpenSpec.ofChange parcelPlaysSpec)

/-- ITS FALSE NEIGHBOUR: 'it returns false'. Refute it at one input. -/
def parcelPlaysWrong : ChangeSpec := { name := "parcelPlays", fn := fun _ => fun
  | [d] => { results := [.lit (.bool false)], args := [d] }
  | _ => none }
def ParcelPlaysWrongFalsely : Prop := parcelPlaysRow.holds Try.pinned (OpenSpec.ofChange parcelPlaysWrong)

/-- 'mailcoachlaw21.ParcelPieces': WHATEVER THE INPUT: true; the input reads as it did. -/
def parcelPiecesSpec : ChangeSpec := { name := "parcelPieces", fn := fun _ => fun
  | [d1, d2, d3, d4] => { results := [.lit (.bool true)], args := [d1, d2, d3, d4] }
  | _ => none }
def parcelPiecesRow : OpenClaim := { program := "ytmicjoocigfccaa", sum := "e23cd269b7529f09b48181dc7c03e57a64906729e961e997395e81f21e04a4c2", func := "mailcoach/mailcoachlaw21.ParcelPieces", spec := "parcelPieces", apart := false }
def ParcelPiecesSaid : Prop := parcelPiecesRow.holds Try.pinned (OpenSpec.ofChange parcelPiecesSpec)

/-- ITS FALSE NEIGHBOUR: 'it returns false'. Refute it at one input. -/
def parcelPiecesWrong : ChangeSpec := { name := "parcelPieces", fn := fun _ => fun
  | [d1, d2, d3, d4] => { results := [.lit (.bool false)], args := [d1, d2, d3, d4] }
  | _ => none }
def ParcelPiecesWrongFalsely : Prop := parcelPiecesRow.holds Try.pinned (OpenSpec.ofChange parcelPiecesWrong)

/-- 'mailcoachlaw21.ParcelWrong': WHATEVER THE INPUT: true; the input reads as it did. -/
def parcelWrongSpec : ChangeSpec := { name := "parcelWrong", fn := fun _ => fun
  | [d1, d2] => { results := [.lit (.bool true)], args := [d1, d2] }
  | _ => none }
def parcelWrongRow : OpenClaim := { program := "ytmicjoocigfccaa", sum := "e23cd269b7529f09b48181dc7c03e57a64906729e961e997395e81f21e04a4c2", func := "mailcoach/mailcoachlaw21.ParcelWrong", spec := "parcelWrong", apart := false }
def ParcelWrongSaid : Prop := parcelWrongRow.holds Try.pinned (OpenSpec.ofChange parcelWrongSpec)

/-- ITS FALSE NEIGHBOUR: 'it returns false'. Refute it at one input. -/
def parcelWrongWrong : ChangeSpec := { name := "parcelWrong", fn := fun _ => fun
  | [d1, d2] => { results := [.lit (.bool false)], args := [d1, d2] }
  | _ => none }
def ParcelWrongWrongFalsely : Prop := parcelWrongRow.holds Try.pinned (OpenSpec.ofChange parcelWrongWrong)

/- THE SECOND FORM. 'bulk': how many values and letters a reading holds, each counted each time it is reached (what is shared counts as often as it is met; a slice's spare places count too). A statement '..UptoSaid' is the law's where the arguments, and the package variables that the reading takes, are together of bulk at most 1048576: NARROWER than '..Said'. Prove '..Said' where nothing that the law and all that it calls make is longer than what came in: it says more and counts as full. Else prove '..UptoSaid'. A law counts once. -/
mutual
def uptoBulk {H : Type} : DataW H → Nat
  | .lit (.string bytes) => bytes.length + 1
  | .lit _ => 1
  | .nil => 1
  | .ptr d => uptoBulk d + 1
  | .slice elems spare => uptoBulkAll elems + uptoBulkAll spare + 1
  | .agg parts => uptoBulkAll parts + 1
  | .iface _ d => uptoBulk d + 1
  | .map entries => uptoBulkEntries entries + 1
  | .held _ => 1
def uptoBulkAll {H : Type} : List (DataW H) → Nat
  | [] => 0
  | d :: r => uptoBulk d + uptoBulkAll r
def uptoBulkEntries {H : Type} : List (Lit × DataW H) → Nat
  | [] => 0
  | x :: r => uptoBulkEntry x + uptoBulkEntries r
def uptoBulkEntry {H : Type} : Lit × DataW H → Nat
  | (.string bytes, d) => bytes.length + uptoBulk d + 1
  | (_, d) => uptoBulk d + 1
 end
def uptoSmall : (H : Type) → List (DataW H) → Bool := fun _ ds => decide (uptoBulkAll ds ≤ 1048576)
def OpenSpec.upto (s : _root_.Go.ChangeSpec) : _root_.Go.OpenSpec := { _root_.Go.OpenSpec.ofChange s with cond := some uptoSmall }

/-- 'mailcoachlaw21.ParcelPlays', WHERE WHAT IT READS IS OF BULK AT MOST 1048576: true; the input reads as it did. -/
def parcelPlaysUptoRow : OpenClaim := { program := "ytmicjoocigfccaa", sum := "e23cd269b7529f09b48181dc7c03e57a64906729e961e997395e81f21e04a4c2", func := "mailcoach/mailcoachlaw21.ParcelPlays", spec := "parcelPlays", apart := false, narrowed := true }
def ParcelPlaysUptoSaid : Prop := parcelPlaysUptoRow.holds Try.pinned (OpenSpec.upto parcelPlaysSpec)

/-- 'mailcoachlaw21.ParcelPieces', WHERE WHAT IT READS IS OF BULK AT MOST 1048576: true; the input reads as it did. -/
def parcelPiecesUptoRow : OpenClaim := { program := "ytmicjoocigfccaa", sum := "e23cd269b7529f09b48181dc7c03e57a64906729e961e997395e81f21e04a4c2", func := "mailcoach/mailcoachlaw21.ParcelPieces", spec := "parcelPieces", apart := false, narrowed := true }
def ParcelPiecesUptoSaid : Prop := parcelPiecesUptoRow.holds Try.pinned (OpenSpec.upto parcelPiecesSpec)

/-- 'mailcoachlaw21.ParcelWrong', WHERE WHAT IT READS IS OF BULK AT MOST 1048576: true; the input reads as it did. -/
def parcelWrongUptoRow : OpenClaim := { program := "ytmicjoocigfccaa", sum := "e23cd269b7529f09b48181dc7c03e57a64906729e961e997395e81f21e04a4c2", func := "mailcoach/mailcoachlaw21.ParcelWrong", spec := "parcelWrong", apart := false, narrowed := true }
def ParcelWrongUptoSaid : Prop := parcelWrongUptoRow.holds Try.pinned (OpenSpec.upto parcelWrongSpec)

end Rows
end Go.Proofs.Ytmicjoocigfccaa
