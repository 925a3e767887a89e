/-
  No cell of these rows narrows 'for every input' (looked for: loops, veiled, ifaces, maps, wideKeys, modest, calm, conditions, laid).
  DERIVED. THE GIVEN ROWS OF THIS SEAT. 5 by the template 'for every input the law returns true; each argument reads behind the call as it read before'; 0 by the template 'total and deterministic' (their statements: YtgapflalhgfgkaaTotals.lean).
  GIVEN WITH THE SEED: the statements are not yours to turn. If you find one false, say at which input.
  Laid BY PROGRAM, IN A SANDBOX (cutbox-rows.mjs): the forced cells as the released guide's own fill.sh prints them over the translation 5adbee5ecadf9a0a… (all of the seat's roots in one cut). By AI agents, Wed Nov 11 2026. No macro, syntax, notation, axiom, sorry.
-/
import Derived.Test.YtgapflalhgfgkaaChecked
import GoSem.Claim
import GoSem.ClaimJoined
import GoSem.ClaimMapViews
import Derived.JoinedTies
import Derived.KernelRfl
namespace Go.Proofs.Ytgapflalhgfgkaa
/- THE CELL 'sum', in the pinned program and in every row, IS THE sha256 OF THE DUMP (.gsa) THAT YtgapflalhgfgkaaProg.lean LOADS. Nothing in Lean hashes anything: it is a label: what it is worth is what the hold of that sum in a sandbox is worth. -/
noncomputable def Try.pinned : Pinned := { name := "ytgapflalhgfgkaa", sum := "5adbee5ecadf9a0a4ba898f36f69e1d76796effe511a8ceaef0c0bf58f9dde19", checked := Try.checked }
namespace Rows
def none {H : Type} : Left H := { results := [], args := [] }

/-- 'mailcoachlaw8.MethodTells': WHATEVER THE INPUT: true; the input reads as it did. -/
def methodTellsSpec : ChangeSpec := { name := "methodTells", fn := fun _ => fun
  | [d1, d2, d3, d4] => { results := [.lit (.bool true)], args := [d1, d2, d3, d4] }
  | _ => none }
def methodTellsRow : OpenClaim := { program := "ytgapflalhgfgkaa", sum := "5adbee5ecadf9a0a4ba898f36f69e1d76796effe511a8ceaef0c0bf58f9dde19", func := "mailcoach/mailcoachlaw8.MethodTells", spec := "methodTells", unfollowed := true, recurses := true, apart := false }
def MethodTellsSaid : Prop := methodTellsRow.holds Try.pinned (OpenSpec.ofChange methodTellsSpec)

/-- ITS FALSE NEIGHBOUR: 'it returns false'. Refute it at one input. -/
def methodTellsWrong : ChangeSpec := { name := "methodTells", fn := fun _ => fun
  | [d1, d2, d3, d4] => { results := [.lit (.bool false)], args := [d1, d2, d3, d4] }
  | _ => none }
def MethodTellsWrongFalsely : Prop := methodTellsRow.holds Try.pinned (OpenSpec.ofChange methodTellsWrong)

/-- 'mailcoachlaw8.MethodBack': WHATEVER THE INPUT: true; the input reads as it did. -/
def methodBackSpec : ChangeSpec := { name := "methodBack", fn := fun _ => fun
  | [d1, d2, d3, d4] => { results := [.lit (.bool true)], args := [d1, d2, d3, d4] }
  | _ => none }
def methodBackRow : OpenClaim := { program := "ytgapflalhgfgkaa", sum := "5adbee5ecadf9a0a4ba898f36f69e1d76796effe511a8ceaef0c0bf58f9dde19", func := "mailcoach/mailcoachlaw8.MethodBack", spec := "methodBack", unfollowed := true, recurses := true, apart := false }
def MethodBackSaid : Prop := methodBackRow.holds Try.pinned (OpenSpec.ofChange methodBackSpec)

/-- ITS FALSE NEIGHBOUR: 'it returns false'. Refute it at one input. -/
def methodBackWrong : ChangeSpec := { name := "methodBack", fn := fun _ => fun
  | [d1, d2, d3, d4] => { results := [.lit (.bool false)], args := [d1, d2, d3, d4] }
  | _ => none }
def MethodBackWrongFalsely : Prop := methodBackRow.holds Try.pinned (OpenSpec.ofChange methodBackWrong)

/-- 'mailcoachlaw8.MethodTurned': WHATEVER THE INPUT: true; the input reads as it did. -/
def methodTurnedSpec : ChangeSpec := { name := "methodTurned", fn := fun _ => fun
  | [d1, d2, d3] => { results := [.lit (.bool true)], args := [d1, d2, d3] }
  | _ => none }
def methodTurnedRow : OpenClaim := { program := "ytgapflalhgfgkaa", sum := "5adbee5ecadf9a0a4ba898f36f69e1d76796effe511a8ceaef0c0bf58f9dde19", func := "mailcoach/mailcoachlaw8.MethodTurned", spec := "methodTurned", unfollowed := true, recurses := true, apart := false }
def MethodTurnedSaid : Prop := methodTurnedRow.holds Try.pinned (OpenSpec.ofChange methodTurnedSpec)

/-- ITS FALSE NEIGHBOUR: 'it returns false'. Refute it at one input. -/
def methodTurnedWrong : ChangeSpec := { name := "methodTurned", fn := fun _ => fun
  | [d1, d2, d3] => { results := [.lit (.bool false)], args := [d1, d2, d3] }
  | _ => none }
def MethodTurnedWrongFalsely : Prop := methodTurnedRow.holds Try.pinned (OpenSpec.ofChange methodTurnedWrong)

/-- 'mailcoachlaw8.MethodKinds': WHATEVER THE INPUT: true; the input reads as it did. -/
def methodKindsSpec : ChangeSpec := { name := "methodKinds", fn := fun _ => fun
  | [d1, d2, d3, d4] => { results := [.lit (.bool true)], args := [d1, d2, d3, d4] }
  | _ => none }
def methodKindsRow : OpenClaim := { program := "ytgapflalhgfgkaa", sum := "5adbee5ecadf9a0a4ba898f36f69e1d76796effe511a8ceaef0c0bf58f9dde19", func := "mailcoach/mailcoachlaw8.MethodKinds", spec := "methodKinds", unfollowed := true, recurses := true, apart := false }
def MethodKindsSaid : Prop := methodKindsRow.holds Try.pinned (OpenSpec.ofChange methodKindsSpec)

/-- ITS FALSE NEIGHBOUR: 'it returns false'. Refute it at one input. -/
def methodKindsWrong : ChangeSpec := { name := "methodKinds", fn := fun _ => fun
  | [d1, d2, d3, d4] => { results := [.lit (.bool false)], args := [d1, d2, d3, d4] }
  | _ => none }
def MethodKindsWrongFalsely : Prop := methodKindsRow.holds Try.pinned (OpenSpec.ofChange methodKindsWrong)

/-- 'mailcoachlaw8.MethodLimits': WHATEVER THE INPUT: true; the input reads as it did. -/
def methodLimitsSpec : ChangeSpec := { name := "methodLimits", fn := fun _ => fun
  | [d1, d2] => { results := [.lit (.bool true)], args := [d1, d2] }
  | _ => none }
def methodLimitsRow : OpenClaim := { program := "ytgapflalhgfgkaa", sum := "5adbee5ecadf9a0a4ba898f36f69e1d76796effe511a8ceaef0c0bf58f9dde19", func := "mailcoach/mailcoachlaw8.MethodLimits", spec := "methodLimits", unfollowed := true, recurses := true, apart := false }
def MethodLimitsSaid : Prop := methodLimitsRow.holds Try.pinned (OpenSpec.ofChange methodLimitsSpec)

/-- ITS FALSE NEIGHBOUR: 'it returns false'. Refute it at one input. -/
def methodLimitsWrong : ChangeSpec := { name := "methodLimits", fn := fun _ => fun
  | [d1, d2] => { results := [.lit (.bool false)], args := [d1, d2] }
  | _ => none }
def MethodLimitsWrongFalsely : Prop := methodLimitsRow.holds Try.pinned (OpenSpec.ofChange methodLimitsWrong)

/- THE SECOND FORM. 'bulk': how many values and letters a reading holds, each counted each time it is reached (what is shared counts as often as it is met; a slice's spare places count too). A statement '..UptoSaid' is the law's where the arguments, and the package variables that the reading takes, are together of bulk at most 1048576: NARROWER than '..Said'. Prove '..Said' where nothing that the law and all that it calls make is longer than what came in: it says more and counts as full. Else prove '..UptoSaid'. A law counts once. -/
mutual
def uptoBulk {H : Type} : DataW H → Nat
  | .lit (.string bytes) => bytes.length + 1
  | .lit _ => 1
  | .nil => 1
  | .ptr d => uptoBulk d + 1
  | .slice elems spare => uptoBulkAll elems + uptoBulkAll spare + 1
  | .agg parts => uptoBulkAll parts + 1
  | .iface _ d => uptoBulk d + 1
  | .map entries => uptoBulkEntries entries + 1
  | .held _ => 1
def uptoBulkAll {H : Type} : List (DataW H) → Nat
  | [] => 0
  | d :: r => uptoBulk d + uptoBulkAll r
def uptoBulkEntries {H : Type} : List (Lit × DataW H) → Nat
  | [] => 0
  | x :: r => uptoBulkEntry x + uptoBulkEntries r
def uptoBulkEntry {H : Type} : Lit × DataW H → Nat
  | (.string bytes, d) => bytes.length + uptoBulk d + 1
  | (_, d) => uptoBulk d + 1
 end
def uptoSmall : (H : Type) → List (DataW H) → Bool := fun _ ds => decide (uptoBulkAll ds ≤ 1048576)
def OpenSpec.upto (s : _root_.Go.ChangeSpec) : _root_.Go.OpenSpec := { _root_.Go.OpenSpec.ofChange s with cond := some uptoSmall }

/-- 'mailcoachlaw8.MethodTells', WHERE WHAT IT READS IS OF BULK AT MOST 1048576: true; the input reads as it did. -/
def methodTellsUptoRow : OpenClaim := { program := "ytgapflalhgfgkaa", sum := "5adbee5ecadf9a0a4ba898f36f69e1d76796effe511a8ceaef0c0bf58f9dde19", func := "mailcoach/mailcoachlaw8.MethodTells", spec := "methodTells", unfollowed := true, recurses := true, apart := false, narrowed := true }
def MethodTellsUptoSaid : Prop := methodTellsUptoRow.holds Try.pinned (OpenSpec.upto methodTellsSpec)

/-- 'mailcoachlaw8.MethodBack', WHERE WHAT IT READS IS OF BULK AT MOST 1048576: true; the input reads as it did. -/
def methodBackUptoRow : OpenClaim := { program := "ytgapflalhgfgkaa", sum := "5adbee5ecadf9a0a4ba898f36f69e1d76796effe511a8ceaef0c0bf58f9dde19", func := "mailcoach/mailcoachlaw8.MethodBack", spec := "methodBack", unfollowed := true, recurses := true, apart := false, narrowed := true }
def MethodBackUptoSaid : Prop := methodBackUptoRow.holds Try.pinned (OpenSpec.upto methodBackSpec)

/-- 'mailcoachlaw8.MethodTurned', WHERE WHAT IT READS IS OF BULK AT MOST 1048576: true; the input reads as it did. -/
def methodTurnedUptoRow : OpenClaim := { program := "ytgapflalhgfgkaa", sum := "5adbee5ecadf9a0a4ba898f36f69e1d76796effe511a8ceaef0c0bf58f9dde19", func := "mailcoach/mailcoachlaw8.MethodTurned", spec := "methodTurned", unfollowed := true, recurses := true, apart := false, narrowed := true }
def MethodTurnedUptoSaid : Prop := methodTurnedUptoRow.holds Try.pinned (OpenSpec.upto methodTurnedSpec)

/-- 'mailcoachlaw8.MethodKinds', WHERE WHAT IT READS IS OF BULK AT MOST 1048576: true; the input reads as it did. -/
def methodKindsUptoRow : OpenClaim := { program := "ytgapflalhgfgkaa", sum := "5adbee5ecadf9a0a4ba898f36f69e1d76796effe511a8ceaef0c0bf58f9dde19", func := "mailcoach/mailcoachlaw8.MethodKinds", spec := "methodKinds", unfollowed := true, recurses := true, apart := false, narrowed := true }
def MethodKindsUptoSaid : Prop := methodKindsUptoRow.holds Try.pinned (OpenSpec.upto methodKindsSpec)

/-- 'mailcoachlaw8.MethodLimits', WHERE WHAT IT READS IS OF BULK AT MOST 1048576: true; the input reads as it did. -/
def methodLimitsUptoRow : OpenClaim := { program := "ytgapflalhgfgkaa", sum := "5adbee5ecadf9a0a4ba898f36f69e1d76796effe511a8ceaef0c0bf58f9dde19", func := "mailcoach/mailcoachlaw8.MethodLimits", spec := "methodLimits", unfollowed := true, recurses := true, apart := false, narrowed := true }
def MethodLimitsUptoSaid : Prop := methodLimitsUptoRow.holds Try.pinned (OpenSpec.upto methodLimitsSpec)

end Rows
end Go.Proofs.Ytgapflalhgfgkaa
