/-
  No cell of these rows narrows 'for every input' (looked for: loops, veiled, ifaces, maps, wideKeys, modest, calm, conditions, laid).
  DERIVED. THE GIVEN ROWS OF THIS SEAT. 5 by the template 'for every input the law returns true; each argument reads behind the call as it read before'; 0 by the template 'total and deterministic' (their statements: YtmclngniffgenaaTotals.lean).
  GIVEN WITH THE SEED: the statements are not yours to turn. If you find one false, say at which input.
  Laid BY PROGRAM, IN A SANDBOX (cutbox-rows.mjs): the forced cells as the released guide's own fill.sh prints them over the translation 03c66aed3e1b2146… (all of the seat's roots in one cut). By AI agents, Wed Nov 11 2026. No macro, syntax, notation, axiom, sorry.
-/
import Derived.Test.YtmclngniffgenaaChecked
import GoSem.Claim
import GoSem.ClaimJoined
import GoSem.ClaimMapViews
import Derived.JoinedTies
import Derived.KernelRfl
namespace Go.Proofs.Ytmclngniffgenaa
/- THE CELL 'sum', in the pinned program and in every row, IS THE sha256 OF THE DUMP (.gsa) THAT YtmclngniffgenaaProg.lean LOADS. Nothing in Lean hashes anything: it is a label: what it is worth is what the hold of that sum in a sandbox is worth. -/
noncomputable def Try.pinned : Pinned := { name := "ytmclngniffgenaa", sum := "03c66aed3e1b214698133560dd95698be702bc7c60d1ecfaedc13946568beaed", checked := Try.checked }
namespace Rows
def none {H : Type} : Left H := { results := [], args := [] }

/-- 'mailcoachlaw1.SlabPlays': WHATEVER THE INPUT: true; the input reads as it did. -/
def slabPlaysSpec : ChangeSpec := { name := "slabPlays", fn := fun _ => fun
  | [d1, d2] => { results := [.lit (.bool true)], args := [d1, d2] }
  | _ => none }
def slabPlaysRow : OpenClaim := { program := "ytmclngniffgenaa", sum := "03c66aed3e1b214698133560dd95698be702bc7c60d1ecfaedc13946568beaed", func := "mailcoach/mailcoachlaw1.SlabPlays", spec := "slabPlays", apart := false }
def SlabPlaysSaid : Prop := slabPlaysRow.holds Try.pinned (OpenSpec.ofChange slabPlaysSpec)

/-- ITS FALSE NEIGHBOUR: 'it returns false'. Refute it at one input. -/
def slabPlaysWrong : ChangeSpec := { name := "slabPlays", fn := fun _ => fun
  | [d1, d2] => { results := [.lit (.bool false)], args := [d1, d2] }
  | _ => none }
def SlabPlaysWrongFalsely : Prop := slabPlaysRow.holds Try.pinned (OpenSpec.ofChange slabPlaysWrong)

/-- 'mailcoachlaw1.SlabClasses': WHATEVER THE INPUT: true; the input reads as it did. -/
def slabClassesSpec : ChangeSpec := { name := "slabClasses", fn := fun _ => fun
  | [d] => { results := [.lit (.bool true)], args := [d] }
  | _ => none }
def slabClassesRow : OpenClaim := { program := "ytmclngniffgenaa", sum := "03c66aed3e1b214698133560dd95698be702bc7c60d1ecfaedc13946568beaed", func := "mailcoach/mailcoachlaw1.SlabClasses", spec := "slabClasses", apart := false }
def SlabClassesSaid : Prop := slabClassesRow.holds Try.pinned (OpenSpec.ofChange slabClassesSpec)

/-- ITS FALSE NEIGHBOUR: 'it returns false'. Refute it at one input. -/
def slabClassesWrong : ChangeSpec := { name := "slabClasses", fn := fun _ => fun
  | [d] => { results := [.lit (.bool false)], args := [d] }
  | _ => none }
def SlabClassesWrongFalsely : Prop := slabClassesRow.holds Try.pinned (OpenSpec.ofChange slabClassesWrong)

/-- 'mailcoachlaw1.SlabNew': WHATEVER THE INPUT: true; the input reads as it did. -/
def slabNewSpec : ChangeSpec := { name := "slabNew", fn := fun _ => fun
  | [d1, d2] => { results := [.lit (.bool true)], args := [d1, d2] }
  | _ => none }
def slabNewRow : OpenClaim := { program := "ytmclngniffgenaa", sum := "03c66aed3e1b214698133560dd95698be702bc7c60d1ecfaedc13946568beaed", func := "mailcoach/mailcoachlaw1.SlabNew", spec := "slabNew", apart := false }
def SlabNewSaid : Prop := slabNewRow.holds Try.pinned (OpenSpec.ofChange slabNewSpec)

/-- ITS FALSE NEIGHBOUR: 'it returns false'. Refute it at one input. -/
def slabNewWrong : ChangeSpec := { name := "slabNew", fn := fun _ => fun
  | [d1, d2] => { results := [.lit (.bool false)], args := [d1, d2] }
  | _ => none }
def SlabNewWrongFalsely : Prop := slabNewRow.holds Try.pinned (OpenSpec.ofChange slabNewWrong)

/-- 'mailcoachlaw1.SlabRoom': WHATEVER THE INPUT: true; the input reads as it did. -/
def slabRoomSpec : ChangeSpec := { name := "slabRoom", fn := fun _ => fun
  | [d1, d2, d3] => { results := [.lit (.bool true)], args := [d1, d2, d3] }
  | _ => none }
def slabRoomRow : OpenClaim := { program := "ytmclngniffgenaa", sum := "03c66aed3e1b214698133560dd95698be702bc7c60d1ecfaedc13946568beaed", func := "mailcoach/mailcoachlaw1.SlabRoom", spec := "slabRoom", apart := false }
def SlabRoomSaid : Prop := slabRoomRow.holds Try.pinned (OpenSpec.ofChange slabRoomSpec)

/-- ITS FALSE NEIGHBOUR: 'it returns false'. Refute it at one input. -/
def slabRoomWrong : ChangeSpec := { name := "slabRoom", fn := fun _ => fun
  | [d1, d2, d3] => { results := [.lit (.bool false)], args := [d1, d2, d3] }
  | _ => none }
def SlabRoomWrongFalsely : Prop := slabRoomRow.holds Try.pinned (OpenSpec.ofChange slabRoomWrong)

/-- 'mailcoachlaw1.SlabHolds': WHATEVER THE INPUT: true; the input reads as it did. -/
def slabHoldsSpec : ChangeSpec := { name := "slabHolds", fn := fun _ => fun
  | [d1, d2] => { results := [.lit (.bool true)], args := [d1, d2] }
  | _ => none }
def slabHoldsRow : OpenClaim := { program := "ytmclngniffgenaa", sum := "03c66aed3e1b214698133560dd95698be702bc7c60d1ecfaedc13946568beaed", func := "mailcoach/mailcoachlaw1.SlabHolds", spec := "slabHolds", apart := false }
def SlabHoldsSaid : Prop := slabHoldsRow.holds Try.pinned (OpenSpec.ofChange slabHoldsSpec)

/-- ITS FALSE NEIGHBOUR: 'it returns false'. Refute it at one input. -/
def slabHoldsWrong : ChangeSpec := { name := "slabHolds", fn := fun _ => fun
  | [d1, d2] => { results := [.lit (.bool false)], args := [d1, d2] }
  | _ => none }
def SlabHoldsWrongFalsely : Prop := slabHoldsRow.holds Try.pinned (OpenSpec.ofChange slabHoldsWrong)

/- THE SECOND FORM. 'bulk': how many values and letters a reading holds, each counted each time it is reached (what is shared counts as often as it is met; a slice's spare places count too). A statement '..UptoSaid' is the law's where the arguments, and the package variables that the reading takes, are together of bulk at most 1048576: NARROWER than '..Said'. Prove '..Said' where nothing that the law and all that it calls make is longer than what came in: it says more and counts as full. Else prove '..UptoSaid'. A law counts once. -/
mutual
def uptoBulk {H : Type} : DataW H → Nat
  | .lit (.string bytes) => bytes.length + 1
  | .lit _ => 1
  | .nil => 1
  | .ptr d => uptoBulk d + 1
  | .slice elems spare => uptoBulkAll elems + uptoBulkAll spare + 1
  | .agg parts => uptoBulkAll parts + 1
  | .iface _ d => uptoBulk d + 1
  | .map entries => uptoBulkEntries entries + 1
  | .held _ => 1
def uptoBulkAll {H : Type} : List (DataW H) → Nat
  | [] => 0
  | d :: r => uptoBulk d + uptoBulkAll r
def uptoBulkEntries {H : Type} : List (Lit × DataW H) → Nat
  | [] => 0
  | x :: r => uptoBulkEntry x + uptoBulkEntries r
def uptoBulkEntry {H : Type} : Lit × DataW H → Nat
  | (.string bytes, d) => bytes.length + uptoBulk d + 1
  | (_, d) => uptoBulk d + 1
 end
def uptoSmall : (H : Type) → List (DataW H) → Bool := fun _ ds => decide (uptoBulkAll ds ≤ 1048576)
def OpenSpec.upto (s : _root_.Go.ChangeSpec) : _root_.Go.OpenSpec := { _root_.Go.OpenSpec.ofChange s with cond := some uptoSmall }

/-- 'mailcoachlaw1.SlabPlays', WHERE WHAT IT READS IS OF BULK AT MOST 1048576: true; the input reads as it did. -/
def slabPlaysUptoRow : OpenClaim := { program := "ytmclngniffgenaa", sum := "03c66aed3e1b214698133560dd95698be702bc7c60d1ecfaedc13946568beaed", func := "mailcoach/mailcoachlaw1.SlabPlays", spec := "slabPlays", apart := false, narrowed := true }
def SlabPlaysUptoSaid : Prop := slabPlaysUptoRow.holds Try.pinned (OpenSpec.upto slabPlaysSpec)

/-- 'mailcoachlaw1.SlabClasses', WHERE WHAT IT READS IS OF BULK AT MOST 1048576: true; the input reads as it did. -/
def slabClassesUptoRow : OpenClaim := { program := "ytmclngniffgenaa", sum := "03c66aed3e1b214698133560dd95698be702bc7c60d1ecfaedc13946568beaed", func := "mailcoach/mailcoachlaw1.SlabClasses", spec := "slabClasses", apart := false, narrowed := true }
def SlabClassesUptoSaid : Prop := slabClassesUptoRow.holds Try.pinned (OpenSpec.upto slabClassesSpec)

/-- 'mailcoachlaw1.SlabNew', WHERE WHAT IT READS IS OF BULK AT MOST 1048576: true; the input reads as it did. -/
def slabNewUptoRow : OpenClaim := { program := "ytmclngniffgenaa", sum := "03c66aed3e1b214698133560dd95698be702bc7c60d1ecfaedc13946568beaed", func := "mailcoach/mailcoachlaw1.SlabNew", spec := "slabNew", apart := false, narrowed := true }
def SlabNewUptoSaid : Prop := slabNewUptoRow.holds Try.pinned (OpenSpec.upto slabNewSpec)

/-- 'mailcoachlaw1.SlabRoom', WHERE WHAT IT READS IS OF BULK AT MOST 1048576: true; the input reads as it did. -/
def slabRoomUptoRow : OpenClaim := { program := "ytmclngniffgenaa", sum := "03c66aed3e1b214698133560dd95698be702bc7c60d1ecfaedc13946568beaed", func := "mailcoach/mailcoachlaw1.SlabRoom", spec := "slabRoom", apart := false, narrowed := true }
def SlabRoomUptoSaid : Prop := slabRoomUptoRow.holds Try.pinned (OpenSpec.upto slabRoomSpec)

/-- 'mailcoachlaw1.SlabHolds', WHERE WHAT IT READS IS OF BULK AT MOST 1048576: true; the input reads as it did. -/
def slabHoldsUptoRow : OpenClaim := { program := "ytmclngniffgenaa", sum := "03c66aed3e1b214698133560dd95698be702bc7c60d1ecfaedc13946568beaed", func := "mailcoach/mailcoachlaw1.SlabHolds", spec := "slabHolds", apart := false, narrowed := true }
def SlabHoldsUptoSaid : Prop := slabHoldsUptoRow.holds Try.pinned (OpenSpec.upto slabHoldsSpec)

end Rows
end Go.Proofs.Ytmclngniffgenaa
