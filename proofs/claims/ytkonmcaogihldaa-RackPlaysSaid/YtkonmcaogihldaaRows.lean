/-
  No cell of these rows narrows 'for every input' (looked for: loops, veiled, ifaces, maps, wideKeys, modest, calm, conditions, laid).
  DERIVED. THE GIVEN ROWS OF THIS SEAT. 4 by the template 'for every input the law returns true; each argument reads behind the call as it read before'; 0 by the template 'total and deterministic' (their statements: YtkonmcaogihldaaTotals.lean).
  GIVEN WITH THE SEED: the statements are not yours to turn. If you find one false, say at which input.
  Laid BY PROGRAM, IN A SANDBOX (cutbox-rows.mjs): the forced cells as the released guide's own fill.sh prints them over the translation c906d67d64643eb3… (all of the seat's roots in one cut). By AI agents, Wed Nov 11 2026. No macro, syntax, notation, axiom, sorry.
-/
import Derived.Test.YtkonmcaogihldaaChecked
import GoSem.Claim
import GoSem.ClaimJoined
import GoSem.ClaimMapViews
import Derived.JoinedTies
import Derived.KernelRfl
namespace Go.Proofs.Ytkonmcaogihldaa
/- THE CELL 'sum', in the pinned program and in every row, IS THE sha256 OF THE DUMP (.gsa) THAT YtkonmcaogihldaaProg.lean LOADS. Nothing in Lean hashes anything: it is a label: what it is worth is what the hold of that sum in a sandbox is worth. -/
noncomputable def Try.pinned : Pinned := { name := "ytkonmcaogihldaa", sum := "c906d67d64643eb3cbaa3b57f5bb8d1f891f17af6b5e2362cdf91aa56b5b5c4a", checked := Try.checked }
namespace Rows
def none {H : Type} : Left H := { results := [], args := [] }

/-- 'mailcoachlaw15.RackGone': WHATEVER THE INPUT: true; the input reads as it did. -/
def rackGoneSpec : ChangeSpec := { name := "rackGone", fn := fun _ => fun
  | [d1, d2] => { results := [.lit (.bool true)], args := [d1, d2] }
  | _ => none }
def rackGoneRow : OpenClaim := { program := "ytkonmcaogihldaa", sum := "c906d67d64643eb3cbaa3b57f5bb8d1f891f17af6b5e2362cdf91aa56b5b5c4a", func := "mailcoach/mailcoachlaw15.RackGone", spec := "rackGone", inPlace := ["slices.overlaps[mailcoach/api.Entry]"], unfollowed := true, recurses := true, apart := false }
def RackGoneSaid : Prop := rackGoneRow.holds Try.pinned (OpenSpec.ofChange rackGoneSpec)

/-- ITS FALSE NEIGHBOUR: 'it returns false'. Refute it at one input. -/
def rackGoneWrong : ChangeSpec := { name := "rackGone", fn := fun _ => fun
  | [d1, d2] => { results := [.lit (.bool false)], args := [d1, d2] }
  | _ => none }
def RackGoneWrongFalsely : Prop := rackGoneRow.holds Try.pinned (OpenSpec.ofChange rackGoneWrong)

/-- 'mailcoachlaw15.RackPlays': WHATEVER THE INPUT: true; the input reads as it did. -/
def rackPlaysSpec : ChangeSpec := { name := "rackPlays", fn := fun _ => fun
  | [d] => { results := [.lit (.bool true)], args := [d] }
  | _ => none }
def rackPlaysRow : OpenClaim := { program := "ytkonmcaogihldaa", sum := "c906d67d64643eb3cbaa3b57f5bb8d1f891f17af6b5e2362cdf91aa56b5b5c4a", func := "mailcoach/mailcoachlaw15.RackPlays", spec := "rackPlays", inPlace := ["slices.overlaps[mailcoach/api.Entry]"], unfollowed := true, recurses := true, apart := false }
def RackPlaysSaid : Prop := rackPlaysRow.holds Try.pinned (OpenSpec.ofChange rackPlaysSpec)

/-- ITS FALSE NEIGHBOUR: 'it returns false'. Refute it at one input. -/
def rackPlaysWrong : ChangeSpec := { name := "rackPlays", fn := fun _ => fun
  | [d] => { results := [.lit (.bool false)], args := [d] }
  | _ => none }
def RackPlaysWrongFalsely : Prop := rackPlaysRow.holds Try.pinned (OpenSpec.ofChange rackPlaysWrong)

/-- 'mailcoachlaw15.RackOrders': WHATEVER THE INPUT: true; the input reads as it did. -/
def rackOrdersSpec : ChangeSpec := { name := "rackOrders", fn := fun _ => fun
  | [d1, d2] => { results := [.lit (.bool true)], args := [d1, d2] }
  | _ => none }
def rackOrdersRow : OpenClaim := { program := "ytkonmcaogihldaa", sum := "c906d67d64643eb3cbaa3b57f5bb8d1f891f17af6b5e2362cdf91aa56b5b5c4a", func := "mailcoach/mailcoachlaw15.RackOrders", spec := "rackOrders", inPlace := ["slices.overlaps[mailcoach/api.Entry]"], unfollowed := true, recurses := true, apart := false }
def RackOrdersSaid : Prop := rackOrdersRow.holds Try.pinned (OpenSpec.ofChange rackOrdersSpec)

/-- ITS FALSE NEIGHBOUR: 'it returns false'. Refute it at one input. -/
def rackOrdersWrong : ChangeSpec := { name := "rackOrders", fn := fun _ => fun
  | [d1, d2] => { results := [.lit (.bool false)], args := [d1, d2] }
  | _ => none }
def RackOrdersWrongFalsely : Prop := rackOrdersRow.holds Try.pinned (OpenSpec.ofChange rackOrdersWrong)

/-- 'mailcoachlaw15.RackBack': WHATEVER THE INPUT: true; the input reads as it did. -/
def rackBackSpec : ChangeSpec := { name := "rackBack", fn := fun _ => fun
  | [d1, d2] => { results := [.lit (.bool true)], args := [d1, d2] }
  | _ => none }
def rackBackRow : OpenClaim := { program := "ytkonmcaogihldaa", sum := "c906d67d64643eb3cbaa3b57f5bb8d1f891f17af6b5e2362cdf91aa56b5b5c4a", func := "mailcoach/mailcoachlaw15.RackBack", spec := "rackBack", inPlace := ["slices.overlaps[mailcoach/api.Entry]"], unfollowed := true, recurses := true, apart := false }
def RackBackSaid : Prop := rackBackRow.holds Try.pinned (OpenSpec.ofChange rackBackSpec)

/-- ITS FALSE NEIGHBOUR: 'it returns false'. Refute it at one input. -/
def rackBackWrong : ChangeSpec := { name := "rackBack", fn := fun _ => fun
  | [d1, d2] => { results := [.lit (.bool false)], args := [d1, d2] }
  | _ => none }
def RackBackWrongFalsely : Prop := rackBackRow.holds Try.pinned (OpenSpec.ofChange rackBackWrong)

/- THE SECOND FORM. 'bulk': how many values and letters a reading holds, each counted each time it is reached (what is shared counts as often as it is met; a slice's spare places count too). A statement '..UptoSaid' is the law's where the arguments, and the package variables that the reading takes, are together of bulk at most 1048576: NARROWER than '..Said'. Prove '..Said' where nothing that the law and all that it calls make is longer than what came in: it says more and counts as full. Else prove '..UptoSaid'. A law counts once. -/
mutual
def uptoBulk {H : Type} : DataW H → Nat
  | .lit (.string bytes) => bytes.length + 1
  | .lit _ => 1
  | .nil => 1
  | .ptr d => uptoBulk d + 1
  | .slice elems spare => uptoBulkAll elems + uptoBulkAll spare + 1
  | .agg parts => uptoBulkAll parts + 1
  | .iface _ d => uptoBulk d + 1
  | .map entries => uptoBulkEntries entries + 1
  | .held _ => 1
def uptoBulkAll {H : Type} : List (DataW H) → Nat
  | [] => 0
  | d :: r => uptoBulk d + uptoBulkAll r
def uptoBulkEntries {H : Type} : List (Lit × DataW H) → Nat
  | [] => 0
  | x :: r => uptoBulkEntry x + uptoBulkEntries r
def uptoBulkEntry {H : Type} : Lit × DataW H → Nat
  | (.string bytes, d) => bytes.length + uptoBulk d + 1
  | (_, d) => uptoBulk d + 1
 end
def uptoSmall : (H : Type) → List (DataW H) → Bool := fun _ ds => decide (uptoBulkAll ds ≤ 1048576)
def OpenSpec.upto (s : _root_.Go.ChangeSpec) : _root_.Go.OpenSpec := { _root_.Go.OpenSpec.ofChange s with cond := some uptoSmall }

/-- 'mailcoachlaw15.RackGone', WHERE WHAT IT READS IS OF BULK AT MOST 1048576: true; the input reads as it did. -/
def rackGoneUptoRow : OpenClaim := { program := "ytkonmcaogihldaa", sum := "c906d67d64643eb3cbaa3b57f5bb8d1f891f17af6b5e2362cdf91aa56b5b5c4a", func := "mailcoach/mailcoachlaw15.RackGone", spec := "rackGone", inPlace := ["slices.overlaps[mailcoach/api.Entry]"], unfollowed := true, recurses := true, apart := false, narrowed := true }
def RackGoneUptoSaid : Prop := rackGoneUptoRow.holds Try.pinned (OpenSpec.upto rackGoneSpec)

/-- 'mailcoachlaw15.RackPlays', WHERE WHAT IT READS IS OF BULK AT MOST 1048576: true; the input reads as it did. -/
def rackPlaysUptoRow : OpenClaim := { program := "ytkonmcaogihldaa", sum := "c906d67d64643eb3cbaa3b57f5bb8d1f891f17af6b5e2362cdf91aa56b5b5c4a", func := "mailcoach/mailcoachlaw15.RackPlays", spec := "rackPlays", inPlace := ["slices.overlaps[mailcoach/api.Entry]"], unfollowed := true, recurses := true, apart := false, narrowed := true }
def RackPlaysUptoSaid : Prop := rackPlaysUptoRow.holds Try.pinned (OpenSpec.upto rackPlaysSpec)

/-- 'mailcoachlaw15.RackOrders', WHERE WHAT IT READS IS OF BULK AT MOST 1048576: true; the input reads as it did. -/
def rackOrdersUptoRow : OpenClaim := { program := "ytkonmcaogihldaa", sum := "c906d67d64643eb3cbaa3b57f5bb8d1f891f17af6b5e2362cdf91aa56b5b5c4a", func := "mailcoach/mailcoachlaw15.RackOrders", spec := "rackOrders", inPlace := ["slices.overlaps[mailcoach/api.Entry]"], unfollowed := true, recurses := true, apart := false, narrowed := true }
def RackOrdersUptoSaid : Prop := rackOrdersUptoRow.holds Try.pinned (OpenSpec.upto rackOrdersSpec)

/-- 'mailcoachlaw15.RackBack', WHERE WHAT IT READS IS OF BULK AT MOST 1048576: true; the input reads as it did. -/
def rackBackUptoRow : OpenClaim := { program := "ytkonmcaogihldaa", sum := "c906d67d64643eb3cbaa3b57f5bb8d1f891f17af6b5e2362cdf91aa56b5b5c4a", func := "mailcoach/mailcoachlaw15.RackBack", spec := "rackBack", inPlace := ["slices.overlaps[mailcoach/api.Entry]"], unfollowed := true, recurses := true, apart := false, narrowed := true }
def RackBackUptoSaid : Prop := rackBackUptoRow.holds Try.pinned (OpenSpec.upto rackBackSpec)

end Rows
end Go.Proofs.Ytkonmcaogihldaa
