/-
  No cell of these rows narrows 'for every input' (looked for: loops, veiled, ifaces, maps, wideKeys, modest, calm, conditions, laid).
  DERIVED. THE GIVEN ROWS OF THIS SEAT. 4 by the template 'for every input the law returns true; each argument reads behind the call as it read before'; 0 by the template 'total and deterministic' (their statements: YtkdngcoblohhjaaTotals.lean).
  GIVEN WITH THE SEED: the statements are not yours to turn. If you find one false, say at which input.
  Laid BY PROGRAM, IN A SANDBOX (cutbox-rows.mjs): the forced cells as the released guide's own fill.sh prints them over the translation aadc98a888e82543… (all of the seat's roots in one cut). By AI agents, Wed Nov 11 2026. No macro, syntax, notation, axiom, sorry.
-/
import Derived.Test.YtkdngcoblohhjaaChecked
import GoSem.Claim
import GoSem.ClaimJoined
import GoSem.ClaimMapViews
import Derived.JoinedTies
import Derived.KernelRfl
namespace Go.Proofs.Ytkdngcoblohhjaa
/- THE CELL 'sum', in the pinned program and in every row, IS THE sha256 OF THE DUMP (.gsa) THAT YtkdngcoblohhjaaProg.lean LOADS. Nothing in Lean hashes anything: it is a label: what it is worth is what the hold of that sum in a sandbox is worth. -/
noncomputable def Try.pinned : Pinned := { name := "ytkdngcoblohhjaa", sum := "aadc98a888e82543815f1130114f730a437690f9c20048cc5a96549948c1768c", checked := Try.checked }
namespace Rows
def none {H : Type} : Left H := { results := [], args := [] }

/-- 'mailcoachlaw16.QueueLimits': WHATEVER THE INPUT: true; the input reads as it did. -/
def queueLimitsSpec : ChangeSpec := { name := "queueLimits", fn := fun _ => fun
  | [d1, d2, d3] => { results := [.lit (.bool true)], args := [d1, d2, d3] }
  | _ => none }
def queueLimitsRow : OpenClaim := { program := "ytkdngcoblohhjaa", sum := "aadc98a888e82543815f1130114f730a437690f9c20048cc5a96549948c1768c", func := "mailcoach/mailcoachlaw16.QueueLimits", spec := "queueLimits", inPlace := ["slices.overlaps[mailcoach/api.Entry]"], unfollowed := true, recurses := true, apart := false }
def QueueLimitsSaid : Prop := queueLimitsRow.holds Try.pinned (OpenSpec.ofChange queueLimitsSpec)

/-- ITS FALSE NEIGHBOUR: 'it returns false'. Refute it at one input. -/
def queueLimitsWrong : ChangeSpec := { name := "queueLimits", fn := fun _ => fun
  | [d1, d2, d3] => { results := [.lit (.bool false)], args := [d1, d2, d3] }
  | _ => none }
def QueueLimitsWrongFalsely : Prop := queueLimitsRow.holds Try.pinned (OpenSpec.ofChange queueLimitsWrong)

/-- 'mailcoachlaw16.QueueDrops': WHATEVER THE INPUT: true; the input reads as it did. -/
def queueDropsSpec : ChangeSpec := { name := "queueDrops", fn := fun _ => fun
  | [d1, d2] => { results := [.lit (.bool true)], args := [d1, d2] }
  | _ => none }
def queueDropsRow : OpenClaim := { program := "ytkdngcoblohhjaa", sum := "aadc98a888e82543815f1130114f730a437690f9c20048cc5a96549948c1768c", func := "mailcoach/mailcoachlaw16.QueueDrops", spec := "queueDrops", inPlace := ["slices.overlaps[mailcoach/api.Entry]"], unfollowed := true, recurses := true, apart := false }
def QueueDropsSaid : Prop := queueDropsRow.holds Try.pinned (OpenSpec.ofChange queueDropsSpec)

/-- ITS FALSE NEIGHBOUR: 'it returns false'. Refute it at one input. -/
def queueDropsWrong : ChangeSpec := { name := "queueDrops", fn := fun _ => fun
  | [d1, d2] => { results := [.lit (.bool false)], args := [d1, d2] }
  | _ => none }
def QueueDropsWrongFalsely : Prop := queueDropsRow.holds Try.pinned (OpenSpec.ofChange queueDropsWrong)

/-- 'mailcoachlaw16.QueueBacks': WHATEVER THE INPUT: true; the input reads as it did. -/
def queueBacksSpec : ChangeSpec := { name := "queueBacks", fn := fun _ => fun
  | [d1, d2] => { results := [.lit (.bool true)], args := [d1, d2] }
  | _ => none }
def queueBacksRow : OpenClaim := { program := "ytkdngcoblohhjaa", sum := "aadc98a888e82543815f1130114f730a437690f9c20048cc5a96549948c1768c", func := "mailcoach/mailcoachlaw16.QueueBacks", spec := "queueBacks", inPlace := ["slices.overlaps[mailcoach/api.Entry]"], unfollowed := true, recurses := true, apart := false }
def QueueBacksSaid : Prop := queueBacksRow.holds Try.pinned (OpenSpec.ofChange queueBacksSpec)

/-- ITS FALSE NEIGHBOUR: 'it returns false'. Refute it at one input. -/
def queueBacksWrong : ChangeSpec := { name := "queueBacks", fn := fun _ => fun
  | [d1, d2] => { results := [.lit (.bool false)], args := [d1, d2] }
  | _ => none }
def QueueBacksWrongFalsely : Prop := queueBacksRow.holds Try.pinned (OpenSpec.ofChange queueBacksWrong)

/-- 'mailcoachlaw16.QueueEmpties': WHATEVER THE INPUT: true; the input reads as it did. -/
def queueEmptiesSpec : ChangeSpec := { name := "queueEmpties", fn := fun _ => fun
  | [d1, d2, d3] => { results := [.lit (.bool true)], args := [d1, d2, d3] }
  | _ => none }
def queueEmptiesRow : OpenClaim := { program := "ytkdngcoblohhjaa", sum := "aadc98a888e82543815f1130114f730a437690f9c20048cc5a96549948c1768c", func := "mailcoach/mailcoachlaw16.QueueEmpties", spec := "queueEmpties", inPlace := ["slices.overlaps[mailcoach/api.Entry]"], unfollowed := true, recurses := true, apart := false }
def QueueEmptiesSaid : Prop := queueEmptiesRow.holds Try.pinned (OpenSpec.ofChange queueEmptiesSpec)

/-- ITS FALSE NEIGHBOUR: 'it returns false'. Refute it at one input. -/
def queueEmptiesWrong : ChangeSpec := { name := "queueEmpties", fn := fun _ => fun
  | [d1, d2, d3] => { results := [.lit (.bool false)], args := [d1, d2, d3] }
  | _ => none }
def QueueEmptiesWrongFalsely : Prop := queueEmptiesRow.holds Try.pinned (OpenSpec.ofChange queueEmptiesWrong)

/- THE SECOND FORM. 'bulk': how many values and letters a reading holds, each counted each time it is reached (what is shared counts as often as it is met; a slice's spare places count too). A statement '..UptoSaid' is the law's where the arguments, and the package variables that the reading takes, are together of bulk at most 1048576: NARROWER than '..Said'. Prove '..Said' where nothing that the law and all that it calls make is longer than what came in: it says more and counts as full. Else prove '..UptoSaid'. A law counts once. -/
mutual
def uptoBulk {H : Type} : DataW H → Nat
  | .lit (.string bytes) => bytes.length + 1
  | .lit _ => 1
  | .nil => 1
  | .ptr d => uptoBulk d + 1
  | .slice elems spare => uptoBulkAll elems + uptoBulkAll spare + 1
  | .agg parts => uptoBulkAll parts + 1
  | .iface _ d => uptoBulk d + 1
  | .map entries => uptoBulkEntries entries + 1
  | .held _ => 1
def uptoBulkAll {H : Type} : List (DataW H) → Nat
  | [] => 0
  | d :: r => uptoBulk d + uptoBulkAll r
def uptoBulkEntries {H : Type} : List (Lit × DataW H) → Nat
  | [] => 0
  | x :: r => uptoBulkEntry x + uptoBulkEntries r
def uptoBulkEntry {H : Type} : Lit × DataW H → Nat
  | (.string bytes, d) => bytes.length + uptoBulk d + 1
  | (_, d) => uptoBulk d + 1
 end
def uptoSmall : (H : Type) → List (DataW H) → Bool := fun _ ds => decide (uptoBulkAll ds ≤ 1048576)
def OpenSpec.upto (s : _root_.Go.ChangeSpec) : _root_.Go.OpenSpec := { _root_.Go.OpenSpec.ofChange s with cond := some uptoSmall }

/-- 'mailcoachlaw16.QueueLimits', WHERE WHAT IT READS IS OF BULK AT MOST 1048576: true; the input reads as it did. -/
def queueLimitsUptoRow : OpenClaim := { program := "ytkdngcoblohhjaa", sum := "aadc98a888e82543815f1130114f730a437690f9c20048cc5a96549948c1768c", func := "mailcoach/mailcoachlaw16.QueueLimits", spec := "queueLimits", inPlace := ["slices.overlaps[mailcoach/api.Entry]"], unfollowed := true, recurses := true, apart := false, narrowed := true }
def QueueLimitsUptoSaid : Prop := queueLimitsUptoRow.holds Try.pinned (OpenSpec.upto queueLimitsSpec)

/-- 'mailcoachlaw16.QueueDrops', WHERE WHAT IT READS IS OF BULK AT MOST 1048576: true; the input reads as it did. -/
def queueDropsUptoRow : OpenClaim := { program := "ytkdngcoblohhjaa", sum := "aadc98a888e82543815f1130114f730a437690f9c20048cc5a96549948c1768c", func := "mailcoach/mailcoachlaw16.QueueDrops", spec := "queueDrops", inPlace := ["slices.overlaps[mailcoach/api.Entry]"], unfollowed := true, recurses := true, apart := false, narrowed := true }
def QueueDropsUptoSaid : Prop := queueDropsUptoRow.holds Try.pinned (OpenSpec.upto queueDropsSpec)

/-- 'mailcoachlaw16.QueueBacks', WHERE WHAT IT READS IS OF BULK AT MOST 1048576: true; the input reads as it did. -/
def queueBacksUptoRow : OpenClaim := { program := "ytkdngcoblohhjaa", sum := "aadc98a888e82543815f1130114f730a437690f9c20048cc5a96549948c1768c", func := "mailcoach/mailcoachlaw16.QueueBacks", spec := "queueBacks", inPlace := ["slices.overlaps[mailcoach/api.Entry]"], unfollowed := true, recurses := true, apart := false, narrowed := true }
def QueueBacksUptoSaid : Prop := queueBacksUptoRow.holds Try.pinned (OpenSpec.upto queueBacksSpec)

/-- 'mailcoachlaw16.QueueEmpties', WHERE WHAT IT READS IS OF BULK AT MOST 1048576: true; the input reads as it did. -/
def queueEmptiesUptoRow : OpenClaim := { program := "ytkdngcoblohhjaa", sum := "aadc98a888e82543815f1130114f730a437690f9c20048cc5a96549948c1768c", func := "mailcoach/mailcoachlaw16.QueueEmpties", spec := "queueEmpties", inPlace := ["slices.overlaps[mailcoach/api.Entry]"], unfollowed := true, recurses := true, apart := false, narrowed := true }
def QueueEmptiesUptoSaid : Prop := queueEmptiesUptoRow.holds Try.pinned (OpenSpec.upto queueEmptiesSpec)

end Rows
end Go.Proofs.Ytkdngcoblohhjaa
