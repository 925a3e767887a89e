/-
  No cell of these rows narrows 'for every input' (looked for: loops, veiled, ifaces, maps, wideKeys, modest, calm, conditions, laid).
  DERIVED. THE GIVEN ROWS OF THIS SEAT. 4 by the template 'for every input the law returns true; each argument reads behind the call as it read before'; 0 by the template 'total and deterministic' (their statements: YtafojiikgppdgaaTotals.lean).
  GIVEN WITH THE SEED: the statements are not yours to turn. If you find one false, say at which input.
  Laid BY PROGRAM, IN A SANDBOX (cutbox-rows.mjs): the forced cells as the released guide's own fill.sh prints them over the translation 1cdb4463bf8f0ad4… (all of the seat's roots in one cut). By AI agents, Wed Nov 11 2026. No macro, syntax, notation, axiom, sorry.
-/
import Derived.Test.YtafojiikgppdgaaChecked
import GoSem.Claim
import GoSem.ClaimJoined
import GoSem.ClaimMapViews
import Derived.JoinedTies
import Derived.KernelRfl
namespace Go.Proofs.Ytafojiikgppdgaa
/- THE CELL 'sum', in the pinned program and in every row, IS THE sha256 OF THE DUMP (.gsa) THAT YtafojiikgppdgaaProg.lean LOADS. Nothing in Lean hashes anything: it is a label: what it is worth is what the hold of that sum in a sandbox is worth. -/
noncomputable def Try.pinned : Pinned := { name := "ytafojiikgppdgaa", sum := "1cdb4463bf8f0ad405aac6aebdf7adb8bd3183ac12456df489629947bfd7523c", checked := Try.checked }
namespace Rows
def none {H : Type} : Left H := { results := [], args := [] }

/-- 'mailcoachlaw5.DialPlays': WHATEVER THE INPUT: true; the input reads as it did. -/
def dialPlaysSpec : ChangeSpec := { name := "dialPlays", fn := fun _ => fun
  | [d] => { results := [.lit (.bool true)], args := [d] }
  | _ => none }
def dialPlaysRow : OpenClaim := { program := "ytafojiikgppdgaa", sum := "1cdb4463bf8f0ad405aac6aebdf7adb8bd3183ac12456df489629947bfd7523c", func := "mailcoach/mailcoachlaw5.DialPlays", spec := "dialPlays", inPlace := ["slices.overlaps[mailcoach/dial.due]"], unfollowed := true, recurses := true, apart := false }
def DialPlaysSaid : Prop := dialPlaysRow.holds Try.pinned (OpenSpec.ofChange dialPlaysSpec)

/-- ITS FALSE NEIGHBOUR: 'it returns false'. Refute it at one input. -/
def dialPlaysWrong : ChangeSpec := { name := "dialPlays", fn := fun _ => fun
  | [d] => { results := [.lit (.bool false)], args := [d] }
  | _ => none }
def DialPlaysWrongFalsely : Prop := dialPlaysRow.holds Try.pinned (OpenSpec.ofChange dialPlaysWrong)

/-- 'mailcoachlaw5.DialTurns': WHATEVER THE INPUT: true; the input reads as it did. -/
def dialTurnsSpec : ChangeSpec := { name := "dialTurns", fn := fun _ => fun
  | [d1, d2] => { results := [.lit (.bool true)], args := [d1, d2] }
  | _ => none }
def dialTurnsRow : OpenClaim := { program := "ytafojiikgppdgaa", sum := "1cdb4463bf8f0ad405aac6aebdf7adb8bd3183ac12456df489629947bfd7523c", func := "mailcoach/mailcoachlaw5.DialTurns", spec := "dialTurns", inPlace := ["slices.overlaps[mailcoach/dial.due]"], unfollowed := true, recurses := true, apart := false }
def DialTurnsSaid : Prop := dialTurnsRow.holds Try.pinned (OpenSpec.ofChange dialTurnsSpec)

/-- ITS FALSE NEIGHBOUR: 'it returns false'. Refute it at one input. -/
def dialTurnsWrong : ChangeSpec := { name := "dialTurns", fn := fun _ => fun
  | [d1, d2] => { results := [.lit (.bool false)], args := [d1, d2] }
  | _ => none }
def DialTurnsWrongFalsely : Prop := dialTurnsRow.holds Try.pinned (OpenSpec.ofChange dialTurnsWrong)

/-- 'mailcoachlaw5.DialOrders': WHATEVER THE INPUT: true; the input reads as it did. -/
def dialOrdersSpec : ChangeSpec := { name := "dialOrders", fn := fun _ => fun
  | [d1, d2] => { results := [.lit (.bool true)], args := [d1, d2] }
  | _ => none }
def dialOrdersRow : OpenClaim := { program := "ytafojiikgppdgaa", sum := "1cdb4463bf8f0ad405aac6aebdf7adb8bd3183ac12456df489629947bfd7523c", func := "mailcoach/mailcoachlaw5.DialOrders", spec := "dialOrders", inPlace := ["slices.overlaps[mailcoach/dial.due]"], unfollowed := true, recurses := true, apart := false }
def DialOrdersSaid : Prop := dialOrdersRow.holds Try.pinned (OpenSpec.ofChange dialOrdersSpec)

/-- ITS FALSE NEIGHBOUR: 'it returns false'. Refute it at one input. -/
def dialOrdersWrong : ChangeSpec := { name := "dialOrders", fn := fun _ => fun
  | [d1, d2] => { results := [.lit (.bool false)], args := [d1, d2] }
  | _ => none }
def DialOrdersWrongFalsely : Prop := dialOrdersRow.holds Try.pinned (OpenSpec.ofChange dialOrdersWrong)

/-- 'mailcoachlaw5.DialMoves': WHATEVER THE INPUT: true; the input reads as it did. -/
def dialMovesSpec : ChangeSpec := { name := "dialMoves", fn := fun _ => fun
  | [d1, d2, d3, d4] => { results := [.lit (.bool true)], args := [d1, d2, d3, d4] }
  | _ => none }
def dialMovesRow : OpenClaim := { program := "ytafojiikgppdgaa", sum := "1cdb4463bf8f0ad405aac6aebdf7adb8bd3183ac12456df489629947bfd7523c", func := "mailcoach/mailcoachlaw5.DialMoves", spec := "dialMoves", inPlace := ["slices.overlaps[mailcoach/dial.due]"], unfollowed := true, recurses := true, apart := false }
def DialMovesSaid : Prop := dialMovesRow.holds Try.pinned (OpenSpec.ofChange dialMovesSpec)

/-- ITS FALSE NEIGHBOUR: 'it returns false'. Refute it at one input. -/
def dialMovesWrong : ChangeSpec := { name := "dialMoves", fn := fun _ => fun
  | [d1, d2, d3, d4] => { results := [.lit (.bool false)], args := [d1, d2, d3, d4] }
  | _ => none }
def DialMovesWrongFalsely : Prop := dialMovesRow.holds Try.pinned (OpenSpec.ofChange dialMovesWrong)

/- THE SECOND FORM. 'bulk': how many values and letters a reading holds, each counted each time it is reached (what is shared counts as often as it is met; a slice's spare places count too). A statement '..UptoSaid' is the law's where the arguments, and the package variables that the reading takes, are together of bulk at most 1048576: NARROWER than '..Said'. Prove '..Said' where nothing that the law and all that it calls make is longer than what came in: it says more and counts as full. Else prove '..UptoSaid'. A law counts once. -/
mutual
def uptoBulk {H : Type} : DataW H → Nat
  | .lit (.string bytes) => bytes.length + 1
  | .lit _ => 1
  | .nil => 1
  | .ptr d => uptoBulk d + 1
  | .slice elems spare => uptoBulkAll elems + uptoBulkAll spare + 1
  | .agg parts => uptoBulkAll parts + 1
  | .iface _ d => uptoBulk d + 1
  | .map entries => uptoBulkEntries entries + 1
  | .held _ => 1
def uptoBulkAll {H : Type} : List (DataW H) → Nat
  | [] => 0
  | d :: r => uptoBulk d + uptoBulkAll r
def uptoBulkEntries {H : Type} : List (Lit × DataW H) → Nat
  | [] => 0
  | x :: r => uptoBulkEntry x + uptoBulkEntries r
def uptoBulkEntry {H : Type} : Lit × DataW H → Nat
  | (.string bytes, d) => bytes.length + uptoBulk d + 1
  | (_, d) => uptoBulk d + 1
 end
def uptoSmall : (H : Type) → List (DataW H) → Bool := fun _ ds => decide (uptoBulkAll ds ≤ 1048576)
def OpenSpec.upto (s : _root_.Go.ChangeSpec) : _root_.Go.OpenSpec := { _root_.Go.OpenSpec.ofChange s with cond := some uptoSmall }

/-- 'mailcoachlaw5.DialPlays', WHERE WHAT IT READS IS OF BULK AT MOST 1048576: true; the input reads as it did. -/
def dialPlaysUptoRow : OpenClaim := { program := "ytafojiikgppdgaa", sum := "1cdb4463bf8f0ad405aac6aebdf7adb8bd3183ac12456df489629947bfd7523c", func := "mailcoach/mailcoachlaw5.DialPlays", spec := "dialPlays", inPlace := ["slices.overlaps[mailcoach/dial.due]"], unfollowed := true, recurses := true, apart := false, narrowed := true }
def DialPlaysUptoSaid : Prop := dialPlaysUptoRow.holds Try.pinned (OpenSpec.upto dialPlaysSpec)

/-- 'mailcoachlaw5.DialTurns', WHERE WHAT IT READS IS OF BULK AT MOST 1048576: true; the input reads as it did. -/
def dialTurnsUptoRow : OpenClaim := { program := "ytafojiikgppdgaa", sum := "1cdb4463bf8f0ad405aac6aebdf7adb8bd3183ac12456df489629947bfd7523c", func := "mailcoach/mailcoachlaw5.DialTurns", spec := "dialTurns", inPlace := ["slices.overlaps[mailcoach/dial.due]"], unfollowed := true, recurses := true, apart := false, narrowed := true }
def DialTurnsUptoSaid : Prop := dialTurnsUptoRow.holds Try.pinned (OpenSpec.upto dialTurnsSpec)

/-- 'mailcoachlaw5.DialOrders', WHERE WHAT IT READS IS OF BULK AT MOST 1048576: true; the input reads as it did. -/
def dialOrdersUptoRow : OpenClaim := { program := "ytafojiikgppdgaa", sum := "1cdb4463bf8f0ad405aac6aebdf7adb8bd3183ac12456df489629947bfd7523c", func := "mailcoach/mailcoachlaw5.DialOrders", spec := "dialOrders", inPlace := ["slices.overlaps[mailcoach/dial.due]"], unfollowed := true, recurses := true, apart := false, narrowed := true }
def DialOrdersUptoSaid : Prop := dialOrdersUptoRow.holds Try.pinned (OpenSpec.upto dialOrdersSpec)

/-- 'mailcoachlaw5.DialMoves', WHERE WHAT IT READS IS OF BULK AT MOST 1048576: true; the input reads as it did. -/
def dialMovesUptoRow : OpenClaim := { program := "ytafojiikgppdgaa", sum := "1cdb4463bf8f0ad405aac6aebdf7adb8bd3183ac12456df489629947bfd7523c", func := "mailcoach/mailcoachlaw5.DialMoves", spec := "dialMoves", inPlace := ["slices.overlaps[mailcoach/dial.due]"], unfollowed := true, recurses := true, apart := false, narrowed := true }
def DialMovesUptoSaid : Prop := dialMovesUptoRow.holds Try.pinned (OpenSpec.upto dialMovesSpec)

end Rows
end Go.Proofs.Ytafojiikgppdgaa
