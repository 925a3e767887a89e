/-
  No cell of these rows narrows 'for every input' (looked for: loops, veiled, ifaces, maps, wideKeys, modest, calm, conditions, laid).
  DERIVED. THE GIVEN ROWS OF THIS SEAT. 3 by the template 'for every input the law returns true; each argument reads behind the call as it read before'; 0 by the template 'total and deterministic' (their statements: YtpcbfbjoiknbhaaTotals.lean).
  GIVEN WITH THE SEED: the statements are not yours to turn. If you find one false, say at which input.
  Laid BY PROGRAM, IN A SANDBOX (cutbox-rows.mjs): the forced cells as the released guide's own fill.sh prints them over the translation d59032e14adad282… (all of the seat's roots in one cut). By AI agents, Wed Nov 11 2026. No macro, syntax, notation, axiom, sorry.
-/
import Derived.Test.YtpcbfbjoiknbhaaChecked
import GoSem.Claim
import GoSem.ClaimJoined
import GoSem.ClaimMapViews
import Derived.JoinedTies
import Derived.KernelRfl
namespace Go.Proofs.Ytpcbfbjoiknbhaa
/- THE CELL 'sum', in the pinned program and in every row, IS THE sha256 OF THE DUMP (.gsa) THAT YtpcbfbjoiknbhaaProg.lean LOADS. Nothing in Lean hashes anything: it is a label: what it is worth is what the hold of that sum in a sandbox is worth. -/
noncomputable def Try.pinned : Pinned := { name := "ytpcbfbjoiknbhaa", sum := "d59032e14adad28268c2b6272efa655886fc6198e8db2efa798036977dd93906", checked := Try.checked }
namespace Rows
def none {H : Type} : Left H := { results := [], args := [] }

/-- 'mailcoachlaw22.OutboxPlays': WHATEVER THE INPUT: true; the input reads as it did. -/
def outboxPlaysSpec : ChangeSpec := { name := "outboxPlays", fn := fun _ => fun
  | [d] => { results := [.lit (.bool true)], args := [d] }
  | _ => none }
def outboxPlaysRow : OpenClaim := { program := "ytpcbfbjoiknbhaa", sum := "d59032e14adad28268c2b6272efa655886fc6198e8db2efa798036977dd93906", func := "mailcoach/mailcoachlaw22.OutboxPlays", spec := "outboxPlays", inPlace := ["internal/abi.NoEscape"], apart := false }
def OutboxPlaysSaid : Prop := outboxPlaysRow.holds Try.pinned (OpenSpec.ofChange outboxPlaysSpec)

/-- ITS FALSE NEIGHBOUR: 'it returns false'. Refute it at one input. -/
def outboxPlaysWrong : ChangeSpec := { name := "outboxPlays", fn := fun _ => fun
  | [d] => { results := [.lit (.bool false)], args := [d] }
  | _ => none }
def OutboxPlaysWrongFalsely : Prop := outboxPlaysRow.holds Try.pinned (OpenSpec.ofChange outboxPlaysWrong)

/-- 'mailcoachlaw22.OutboxGoes': WHATEVER THE INPUT: true; the input reads as it did. -/
def outboxGoesSpec : ChangeSpec := { name := "outboxGoes", fn := fun _ => fun
  | [d1, d2] => { results := [.lit (.bool true)], args := [d1, d2] }
  | _ => none }
def outboxGoesRow : OpenClaim := { program := "ytpcbfbjoiknbhaa", sum := "d59032e14adad28268c2b6272efa655886fc6198e8db2efa798036977dd93906", func := "mailcoach/mailcoachlaw22.OutboxGoes", spec := "outboxGoes", inPlace := ["internal/abi.NoEscape"], apart := false }
def OutboxGoesSaid : Prop := outboxGoesRow.holds Try.pinned (OpenSpec.ofChange outboxGoesSpec)

/-- ITS FALSE NEIGHBOUR: 'it returns false'. Refute it at one input. -/
def outboxGoesWrong : ChangeSpec := { name := "outboxGoes", fn := fun _ => fun
  | [d1, d2] => { results := [.lit (.bool false)], args := [d1, d2] }
  | _ => none }
def OutboxGoesWrongFalsely : Prop := outboxGoesRow.holds Try.pinned (OpenSpec.ofChange outboxGoesWrong)

/-- 'mailcoachlaw22.OutboxOrder': WHATEVER THE INPUT: true; the input reads as it did. -/
def outboxOrderSpec : ChangeSpec := { name := "outboxOrder", fn := fun _ => fun
  | [d1, d2] => { results := [.lit (.bool true)], args := [d1, d2] }
  | _ => none }
def outboxOrderRow : OpenClaim := { program := "ytpcbfbjoiknbhaa", sum := "d59032e14adad28268c2b6272efa655886fc6198e8db2efa798036977dd93906", func := "mailcoach/mailcoachlaw22.OutboxOrder", spec := "outboxOrder", inPlace := ["internal/abi.NoEscape"], apart := false }
def OutboxOrderSaid : Prop := outboxOrderRow.holds Try.pinned (OpenSpec.ofChange outboxOrderSpec)

/-- ITS FALSE NEIGHBOUR: 'it returns false'. Refute it at one input. -/
def outboxOrderWrong : ChangeSpec := { name := "outboxOrder", fn := fun _ => fun
  | [d1, d2] => { results := [.lit (.bool false)], args := [d1, d2] }
  | _ => none }
def OutboxOrderWrongFalsely : Prop := outboxOrderRow.holds Try.pinned (OpenSpec.ofChange outboxOrderWrong)

/- THE SECOND FORM. 'bulk': how many values and letters a reading holds, each counted each time it is reached (what is shared counts as often as it is met; a slice's spare places count too). A statement '..UptoSaid' is the law's where the arguments, and the package variables that the reading takes, are together of bulk at most 1048576: NARROWER than '..Said'. Prove '..Said' where nothing that the law and all that it calls make is longer than what came in: it says more and counts as full. Else prove '..UptoSaid'. A law counts once. -/
mutual
def uptoBulk {H : Type} : DataW H → Nat
  | .lit (.string bytes) => bytes.length + 1
  | .lit _ => 1
  | .nil => 1
  | .ptr d => uptoBulk d + 1
  | .slice elems spare => uptoBulkAll elems + uptoBulkAll spare + 1
  | .agg parts => uptoBulkAll parts + 1
  | .iface _ d => uptoBulk d + 1
  | .map entries => uptoBulkEntries entries + 1
  | .held _ => 1
def uptoBulkAll {H : Type} : List (DataW H) → Nat
  | [] => 0
  | d :: r => uptoBulk d + uptoBulkAll r
def uptoBulkEntries {H : Type} : List (Lit × DataW H) → Nat
  | [] => 0
  | x :: r => uptoBulkEntry x + uptoBulkEntries r
def uptoBulkEntry {H : Type} : Lit × DataW H → Nat
  | (.string bytes, d) => bytes.length + uptoBulk d + 1
  | (_, d) => uptoBulk d + 1
 end
def uptoSmall : (H : Type) → List (DataW H) → Bool := fun _ ds => decide (uptoBulkAll ds ≤ 1048576)
def OpenSpec.upto (s : _root_.Go.ChangeSpec) : _root_.Go.OpenSpec := { _root_.Go.OpenSpec.ofChange s with cond := some uptoSmall }

/-- 'mailcoachlaw22.OutboxPlays', WHERE WHAT IT READS IS OF BULK AT MOST 1048576: true; the input reads as it did. -/
def outboxPlaysUptoRow : OpenClaim := { program := "ytpcbfbjoiknbhaa", sum := "d59032e14adad28268c2b6272efa655886fc6198e8db2efa798036977dd93906", func := "mailcoach/mailcoachlaw22.OutboxPlays", spec := "outboxPlays", inPlace := ["internal/abi.NoEscape"], apart := false, narrowed := true }
def OutboxPlaysUptoSaid : Prop := outboxPlaysUptoRow.holds Try.pinned (OpenSpec.upto outboxPlaysSpec)

/-- 'mailcoachlaw22.OutboxGoes', WHERE WHAT IT READS IS OF BULK AT MOST 1048576: true; the input reads as it did. -/
def outboxGoesUptoRow : OpenClaim := { program := "ytpcbfbjoiknbhaa", sum := "d59032e14adad28268c2b6272efa655886fc6198e8db2efa798036977dd93906", func := "mailcoach/mailcoachlaw22.OutboxGoes", spec := "outboxGoes", inPlace := ["internal/abi.NoEscape"], apart := false, narrowed := true }
def OutboxGoesUptoSaid : Prop := outboxGoesUptoRow.holds Try.pinned (OpenSpec.upto outboxGoesSpec)

/-- 'mailcoachlaw22.OutboxOrder', WHERE WHAT IT READS IS OF BULK AT MOST 1048576: true; the input reads as it did. -/
def outboxOrderUptoRow : OpenClaim := { program := "ytpcbfbjoiknbhaa", sum := "d59032e14adad28268c2b6272efa655886fc6198e8db2efa798036977dd93906", func := "mailcoach/mailcoachlaw22.OutboxOrder", spec := "outboxOrder", inPlace := ["internal/abi.NoEscape"], apart := false, narrowed := true }
def OutboxOrderUptoSaid : Prop := outboxOrderUptoRow.holds Try.pinned (OpenSpec.upto outboxOrderSpec)

end Rows
end Go.Proofs.Ytpcbfbjoiknbhaa
