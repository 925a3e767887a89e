/-
  No cell of these rows narrows 'for every input' (looked for: loops, veiled, ifaces, maps, wideKeys, modest, calm, conditions, laid).
  DERIVED. THE GIVEN ROWS OF THIS SEAT. 6 by the template 'for every input the law returns true; each argument reads behind the call as it read before'; 0 by the template 'total and deterministic' (their statements: YtmehmjdcigokjaaTotals.lean).
  GIVEN WITH THE SEED: the statements are not yours to turn. If you find one false, say at which input.
  Laid BY PROGRAM, IN A SANDBOX (cutbox-rows.mjs): the forced cells as the released guide's own fill.sh prints them over the translation 088ad64f0170f83f… (all of the seat's roots in one cut). By AI agents, Wed Nov 11 2026. No macro, syntax, notation, axiom, sorry.
-/
import Derived.Test.YtmehmjdcigokjaaChecked
import GoSem.Claim
import GoSem.ClaimJoined
import GoSem.ClaimMapViews
import Derived.JoinedTies
import Derived.KernelRfl
namespace Go.Proofs.Ytmehmjdcigokjaa
/- THE CELL 'sum', in the pinned program and in every row, IS THE sha256 OF THE DUMP (.gsa) THAT YtmehmjdcigokjaaProg.lean LOADS. Nothing in Lean hashes anything: it is a label: what it is worth is what the hold of that sum in a sandbox is worth. -/
noncomputable def Try.pinned : Pinned := { name := "ytmehmjdcigokjaa", sum := "088ad64f0170f83f3774210bf5d3f20a5de5735256f68af138850c08cdbbfa5e", checked := Try.checked }
namespace Rows
def none {H : Type} : Left H := { results := [], args := [] }

/-- 'mailcoachlaw7.FrameTells': WHATEVER THE INPUT: true; the input reads as it did. -/
def frameTellsSpec : ChangeSpec := { name := "frameTells", fn := fun _ => fun
  | [d1, d2, d3, d4, d5] => { results := [.lit (.bool true)], args := [d1, d2, d3, d4, d5] }
  | _ => none }
def frameTellsRow : OpenClaim := { program := "ytmehmjdcigokjaa", sum := "088ad64f0170f83f3774210bf5d3f20a5de5735256f68af138850c08cdbbfa5e", func := "mailcoach/mailcoachlaw7.FrameTells", spec := "frameTells", apart := false }
def FrameTellsSaid : Prop := frameTellsRow.holds Try.pinned (OpenSpec.ofChange frameTellsSpec)

/-- ITS FALSE NEIGHBOUR: 'it returns false'. Refute it at one input. -/
def frameTellsWrong : ChangeSpec := { name := "frameTells", fn := fun _ => fun
  | [d1, d2, d3, d4, d5] => { results := [.lit (.bool false)], args := [d1, d2, d3, d4, d5] }
  | _ => none }
def FrameTellsWrongFalsely : Prop := frameTellsRow.holds Try.pinned (OpenSpec.ofChange frameTellsWrong)

/-- 'mailcoachlaw7.FrameReads': WHATEVER THE INPUT: true; the input reads as it did. -/
def frameReadsSpec : ChangeSpec := { name := "frameReads", fn := fun _ => fun
  | [d1, d2] => { results := [.lit (.bool true)], args := [d1, d2] }
  | _ => none }
def frameReadsRow : OpenClaim := { program := "ytmehmjdcigokjaa", sum := "088ad64f0170f83f3774210bf5d3f20a5de5735256f68af138850c08cdbbfa5e", func := "mailcoach/mailcoachlaw7.FrameReads", spec := "frameReads", apart := false }
def FrameReadsSaid : Prop := frameReadsRow.holds Try.pinned (OpenSpec.ofChange frameReadsSpec)

/-- ITS FALSE NEIGHBOUR: 'it returns false'. Refute it at one input. -/
def frameReadsWrong : ChangeSpec := { name := "frameReads", fn := fun _ => fun
  | [d1, d2] => { results := [.lit (.bool false)], args := [d1, d2] }
  | _ => none }
def FrameReadsWrongFalsely : Prop := frameReadsRow.holds Try.pinned (OpenSpec.ofChange frameReadsWrong)

/-- 'mailcoachlaw7.FramePieces': WHATEVER THE INPUT: true; the input reads as it did. -/
def framePiecesSpec : ChangeSpec := { name := "framePieces", fn := fun _ => fun
  | [d1, d2] => { results := [.lit (.bool true)], args := [d1, d2] }
  | _ => none }
def framePiecesRow : OpenClaim := { program := "ytmehmjdcigokjaa", sum := "088ad64f0170f83f3774210bf5d3f20a5de5735256f68af138850c08cdbbfa5e", func := "mailcoach/mailcoachlaw7.FramePieces", spec := "framePieces", apart := false }
def FramePiecesSaid : Prop := framePiecesRow.holds Try.pinned (OpenSpec.ofChange framePiecesSpec)

/-- ITS FALSE NEIGHBOUR: 'it returns false'. Refute it at one input. -/
def framePiecesWrong : ChangeSpec := { name := "framePieces", fn := fun _ => fun
  | [d1, d2] => { results := [.lit (.bool false)], args := [d1, d2] }
  | _ => none }
def FramePiecesWrongFalsely : Prop := framePiecesRow.holds Try.pinned (OpenSpec.ofChange framePiecesWrong)

/-- 'mailcoachlaw7.FrameSplits': WHATEVER THE INPUT: true; the input reads as it did. -/
def frameSplitsSpec : ChangeSpec := { name := "frameSplits", fn := fun _ => fun
  | [d1, d2] => { results := [.lit (.bool true)], args := [d1, d2] }
  | _ => none }
def frameSplitsRow : OpenClaim := { program := "ytmehmjdcigokjaa", sum := "088ad64f0170f83f3774210bf5d3f20a5de5735256f68af138850c08cdbbfa5e", func := "mailcoach/mailcoachlaw7.FrameSplits", spec := "frameSplits", apart := false }
def FrameSplitsSaid : Prop := frameSplitsRow.holds Try.pinned (OpenSpec.ofChange frameSplitsSpec)

/-- ITS FALSE NEIGHBOUR: 'it returns false'. Refute it at one input. -/
def frameSplitsWrong : ChangeSpec := { name := "frameSplits", fn := fun _ => fun
  | [d1, d2] => { results := [.lit (.bool false)], args := [d1, d2] }
  | _ => none }
def FrameSplitsWrongFalsely : Prop := frameSplitsRow.holds Try.pinned (OpenSpec.ofChange frameSplitsWrong)

/-- 'mailcoachlaw7.FrameErrors': WHATEVER THE INPUT: true; the input reads as it did. -/
def frameErrorsSpec : ChangeSpec := { name := "frameErrors", fn := fun _ => fun
  | [d1, d2, d3] => { results := [.lit (.bool true)], args := [d1, d2, d3] }
  | _ => none }
def frameErrorsRow : OpenClaim := { program := "ytmehmjdcigokjaa", sum := "088ad64f0170f83f3774210bf5d3f20a5de5735256f68af138850c08cdbbfa5e", func := "mailcoach/mailcoachlaw7.FrameErrors", spec := "frameErrors", apart := false }
def FrameErrorsSaid : Prop := frameErrorsRow.holds Try.pinned (OpenSpec.ofChange frameErrorsSpec)

/-- ITS FALSE NEIGHBOUR: 'it returns false'. Refute it at one input. -/
def frameErrorsWrong : ChangeSpec := { name := "frameErrors", fn := fun _ => fun
  | [d1, d2, d3] => { results := [.lit (.bool false)], args := [d1, d2, d3] }
  | _ => none }
def FrameErrorsWrongFalsely : Prop := frameErrorsRow.holds Try.pinned (OpenSpec.ofChange frameErrorsWrong)

/-- 'mailcoachlaw7.FrameLeft': WHATEVER THE INPUT: true; the input reads as it did. -/
def frameLeftSpec : ChangeSpec := { name := "frameLeft", fn := fun _ => fun
  | [d1, d2] => { results := [.lit (.bool true)], args := [d1, d2] }
  | _ => none }
def frameLeftRow : OpenClaim := { program := "ytmehmjdcigokjaa", sum := "088ad64f0170f83f3774210bf5d3f20a5de5735256f68af138850c08cdbbfa5e", func := "mailcoach/mailcoachlaw7.FrameLeft", spec := "frameLeft", apart := false }
def FrameLeftSaid : Prop := frameLeftRow.holds Try.pinned (OpenSpec.ofChange frameLeftSpec)

/-- ITS FALSE NEIGHBOUR: 'it returns false'. Refute it at one input. -/
def frameLeftWrong : ChangeSpec := { name := "frameLeft", fn := fun _ => fun
  | [d1, d2] => { results := [.lit (.bool false)], args := [d1, d2] }
  | _ => none }
def FrameLeftWrongFalsely : Prop := frameLeftRow.holds Try.pinned (OpenSpec.ofChange frameLeftWrong)

/- THE SECOND FORM. 'bulk': how many values and letters a reading holds, each counted each time it is reached (what is shared counts as often as it is met; a slice's spare places count too). A statement '..UptoSaid' is the law's where the arguments, and the package variables that the reading takes, are together of bulk at most 1048576: NARROWER than '..Said'. Prove '..Said' where nothing that the law and all that it calls make is longer than what came in: it says more and counts as full. Else prove '..UptoSaid'. A law counts once. -/
mutual
def uptoBulk {H : Type} : DataW H → Nat
  | .lit (.string bytes) => bytes.length + 1
  | .lit _ => 1
  | .nil => 1
  | .ptr d => uptoBulk d + 1
  | .slice elems spare => uptoBulkAll elems + uptoBulkAll spare + 1
  | .agg parts => uptoBulkAll parts + 1
  | .iface _ d => uptoBulk d + 1
  | .map entries => uptoBulkEntries entries + 1
  | .held _ => 1
def uptoBulkAll {H : Type} : List (DataW H) → Nat
  | [] => 0
  | d :: r => uptoBulk d + uptoBulkAll r
def uptoBulkEntries {H : Type} : List (Lit × DataW H) → Nat
  | [] => 0
  | x :: r => uptoBulkEntry x + uptoBulkEntries r
def uptoBulkEntry {H : Type} : Lit × DataW H → Nat
  | (.string bytes, d) => bytes.length + uptoBulk d + 1
  | (_, d) => uptoBulk d + 1
 end
def uptoSmall : (H : Type) → List (DataW H) → Bool := fun _ ds => decide (uptoBulkAll ds ≤ 1048576)
def OpenSpec.upto (s : _root_.Go.ChangeSpec) : _root_.Go.OpenSpec := { _root_.Go.OpenSpec.ofChange s with cond := some uptoSmall }

/-- 'mailcoachlaw7.FrameTells', WHERE WHAT IT READS IS OF BULK AT MOST 1048576: true; the input reads as it did. -/
def frameTellsUptoRow : OpenClaim := { program := "ytmehmjdcigokjaa", sum := "088ad64f0170f83f3774210bf5d3f20a5de5735256f68af138850c08cdbbfa5e", func := "mailcoach/mailcoachlaw7.FrameTells", spec := "frameTells", apart := false, narrowed := true }
def FrameTellsUptoSaid : Prop := frameTellsUptoRow.holds Try.pinned (OpenSpec.upto frameTellsSpec)

/-- 'mailcoachlaw7.FrameReads', WHERE WHAT IT READS IS OF BULK AT MOST 1048576: true; the input reads as it did. -/
def frameReadsUptoRow : OpenClaim := { program := "ytmehmjdcigokjaa", sum := "088ad64f0170f83f3774210bf5d3f20a5de5735256f68af138850c08cdbbfa5e", func := "mailcoach/mailcoachlaw7.FrameReads", spec := "frameReads", apart := false, narrowed := true }
def FrameReadsUptoSaid : Prop := frameReadsUptoRow.holds Try.pinned (OpenSpec.upto frameReadsSpec)

/-- 'mailcoachlaw7.FramePieces', WHERE WHAT IT READS IS OF BULK AT MOST 1048576: true; the input reads as it did. -/
def framePiecesUptoRow : OpenClaim := { program := "ytmehmjdcigokjaa", sum := "088ad64f0170f83f3774210bf5d3f20a5de5735256f68af138850c08cdbbfa5e", func := "mailcoach/mailcoachlaw7.FramePieces", spec := "framePieces", apart := false, narrowed := true }
def FramePiecesUptoSaid : Prop := framePiecesUptoRow.holds Try.pinned (OpenSpec.upto framePiecesSpec)

/-- 'mailcoachlaw7.FrameSplits', WHERE WHAT IT READS IS OF BULK AT MOST 1048576: true; the input reads as it did. -/
def frameSplitsUptoRow : OpenClaim := { program := "ytmehmjdcigokjaa", sum := "088ad64f0170f83f3774210bf5d3f20a5de5735256f68af138850c08cdbbfa5e", func := "mailcoach/mailcoachlaw7.FrameSplits", spec := "frameSplits", apart := false, narrowed := true }
def FrameSplitsUptoSaid : Prop := frameSplitsUptoRow.holds Try.pinned (OpenSpec.upto frameSplitsSpec)

/-- 'mailcoachlaw7.FrameErrors', WHERE WHAT IT READS IS OF BULK AT MOST 1048576: true; the input reads as it did. -/
def frameErrorsUptoRow : OpenClaim := { program := "ytmehmjdcigokjaa", sum := "088ad64f0170f83f3774210bf5d3f20a5de5735256f68af138850c08cdbbfa5e", func := "mailcoach/mailcoachlaw7.FrameErrors", spec := "frameErrors", apart := false, narrowed := true }
def FrameErrorsUptoSaid : Prop := frameErrorsUptoRow.holds Try.pinned (OpenSpec.upto frameErrorsSpec)

/-- 'mailcoachlaw7.FrameLeft', WHERE WHAT IT READS IS OF BULK AT MOST 1048576: true; the input reads as it did. -/
def frameLeftUptoRow : OpenClaim := { program := "ytmehmjdcigokjaa", sum := "088ad64f0170f83f3774210bf5d3f20a5de5735256f68af138850c08cdbbfa5e", func := "mailcoach/mailcoachlaw7.FrameLeft", spec := "frameLeft", apart := false, narrowed := true }
def FrameLeftUptoSaid : Prop := frameLeftUptoRow.holds Try.pinned (OpenSpec.upto frameLeftSpec)

end Rows
end Go.Proofs.Ytmehmjdcigokjaa
