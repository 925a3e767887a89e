/-
  No cell of these rows narrows 'for every input' (looked for: loops, veiled, ifaces, maps, wideKeys, modest, calm, conditions, laid).
  DERIVED. THE GIVEN ROWS OF THIS SEAT. 3 by the template 'for every input the law returns true; each argument reads behind the call as it read before'; 0 by the template 'total and deterministic' (their statements: YtdamajkkdoffdaaTotals.lean).
  GIVEN WITH THE SEED: the statements are not yours to turn. If you find one false, say at which input.
  Laid BY PROGRAM, IN A SANDBOX (cutbox-rows.mjs): the forced cells as the released guide's own fill.sh prints them over the translation 5faaec4b591dbee9… (all of the seat's roots in one cut). By AI agents, Wed Nov 11 2026. No macro, syntax, notation, axiom, sorry.
-/
import Derived.Test.YtdamajkkdoffdaaChecked
import GoSem.Claim
import GoSem.ClaimJoined
import GoSem.ClaimMapViews
import Derived.JoinedTies
import Derived.KernelRfl
namespace Go.Proofs.Ytdamajkkdoffdaa
/- THE CELL 'sum', in the pinned program and in every row, IS THE sha256 OF THE DUMP (.gsa) THAT YtdamajkkdoffdaaProg.lean LOADS. Nothing in Lean hashes anything: it is a label: what it is worth is what the hold of that sum in a sandbox is worth. -/
noncomputable def Try.pinned : Pinned := { name := "ytdamajkkdoffdaa", sum := "5faaec4b591dbee9e5f41684aee5fc3ad315c9646eb164dd460c864f80de7897", checked := Try.checked }
namespace Rows
def none {H : Type} : Left H := { results := [], args := [] }

/-- 'mailcoachlaw14.EntryTimes': WHATEVER THE INPUT: true; the input reads as it did. -/
def entryTimesSpec : ChangeSpec := { name := "entryTimes", fn := fun _ => fun
  | [d1, d2, d3, d4] => { results := [.lit (.bool true)], args := [d1, d2, d3, d4] }
  | _ => none }
def entryTimesRow : OpenClaim := { program := "ytdamajkkdoffdaa", sum := "5faaec4b591dbee9e5f41684aee5fc3ad315c9646eb164dd460c864f80de7897", func := "mailcoach/mailcoachlaw14.EntryTimes", spec := "entryTimes", apart := false }
def EntryTimesSaid : Prop := entryTimesRow.holds Try.pinned (OpenSpec.ofChange entryTimesSpec)

/-- ITS FALSE NEIGHBOUR: 'it returns false'. Refute it at one input. -/
def entryTimesWrong : ChangeSpec := { name := "entryTimes", fn := fun _ => fun
  | [d1, d2, d3, d4] => { results := [.lit (.bool false)], args := [d1, d2, d3, d4] }
  | _ => none }
def EntryTimesWrongFalsely : Prop := entryTimesRow.holds Try.pinned (OpenSpec.ofChange entryTimesWrong)

/-- 'mailcoachlaw14.EntryOrders': WHATEVER THE INPUT: true; the input reads as it did. -/
def entryOrdersSpec : ChangeSpec := { name := "entryOrders", fn := fun _ => fun
  | [d1, d2, d3] => { results := [.lit (.bool true)], args := [d1, d2, d3] }
  | _ => none }
def entryOrdersRow : OpenClaim := { program := "ytdamajkkdoffdaa", sum := "5faaec4b591dbee9e5f41684aee5fc3ad315c9646eb164dd460c864f80de7897", func := "mailcoach/mailcoachlaw14.EntryOrders", spec := "entryOrders", apart := false }
def EntryOrdersSaid : Prop := entryOrdersRow.holds Try.pinned (OpenSpec.ofChange entryOrdersSpec)

/-- ITS FALSE NEIGHBOUR: 'it returns false'. Refute it at one input. -/
def entryOrdersWrong : ChangeSpec := { name := "entryOrders", fn := fun _ => fun
  | [d1, d2, d3] => { results := [.lit (.bool false)], args := [d1, d2, d3] }
  | _ => none }
def EntryOrdersWrongFalsely : Prop := entryOrdersRow.holds Try.pinned (OpenSpec.ofChange entryOrdersWrong)

/-- 'mailcoachlaw14.EntryOptions': WHATEVER THE INPUT: true; the input reads as it did. -/
def entryOptionsSpec : ChangeSpec := { name := "entryOptions", fn := fun _ => fun
  | [d1, d2, d3, d4, d5, d6] => { results := [.lit (.bool true)], args := [d1, d2, d3, d4, d5, d6] }
  | _ => none }
def entryOptionsRow : OpenClaim := { program := "ytdamajkkdoffdaa", sum := "5faaec4b591dbee9e5f41684aee5fc3ad315c9646eb164dd460c864f80de7897", func := "mailcoach/mailcoachlaw14.EntryOptions", spec := "entryOptions", apart := false }
def EntryOptionsSaid : Prop := entryOptionsRow.holds Try.pinned (OpenSpec.ofChange entryOptionsSpec)

/-- ITS FALSE NEIGHBOUR: 'it returns false'. Refute it at one input. -/
def entryOptionsWrong : ChangeSpec := { name := "entryOptions", fn := fun _ => fun
  | [d1, d2, d3, d4, d5, d6] => { results := [.lit (.bool false)], args := [d1, d2, d3, d4, d5, d6] }
  | _ => none }
def EntryOptionsWrongFalsely : Prop := entryOptionsRow.holds Try.pinned (OpenSpec.ofChange entryOptionsWrong)

/- THE SECOND FORM. 'bulk': how many values and letters a reading holds, each counted each time it is reached (what is shared counts as often as it is met; a slice's spare places count too). A statement '..UptoSaid' is the law's where the arguments, and the package variables that the reading takes, are together of bulk at most 1048576: NARROWER than '..Said'. Prove '..Said' where nothing that the law and all that it calls make is longer than what came in: it says more and counts as full. Else prove '..UptoSaid'. A law counts once. -/
mutual
def uptoBulk {H : Type} : DataW H → Nat
  | .lit (.string bytes) => bytes.length + 1
  | .lit _ => 1
  | .nil => 1
  | .ptr d => uptoBulk d + 1
  | .slice elems spare => uptoBulkAll elems + uptoBulkAll spare + 1
  | .agg parts => uptoBulkAll parts + 1
  | .iface _ d => uptoBulk d + 1
  | .map entries => uptoBulkEntries entries + 1
  | .held _ => 1
def uptoBulkAll {H : Type} : List (DataW H) → Nat
  | [] => 0
  | d :: r => uptoBulk d + uptoBulkAll r
def uptoBulkEntries {H : Type} : List (Lit × DataW H) → Nat
  | [] => 0
  | x :: r => uptoBulkEntry x + uptoBulkEntries r
def uptoBulkEntry {H : Type} : Lit × DataW H → Nat
  | (.string bytes, d) => bytes.length + uptoBulk d + 1
  | (_, d) => uptoBulk d + 1
 end
def uptoSmall : (H : Type) → List (DataW H) → Bool := fun _ ds => decide (uptoBulkAll ds ≤ 1048576)
def OpenSpec.upto (s : _root_.Go.ChangeSpec) : _root_.Go.OpenSpec := { _root_.Go.OpenSpec.ofChange s with cond := some uptoSmall }

/-- 'mailcoachlaw14.EntryTimes', WHERE WHAT IT READS IS OF BULK AT MOST 1048576: true; the input reads as it did. -/
def entryTimesUptoRow : OpenClaim := { program := "ytdamajkkdoffdaa", sum := "5faaec4b591dbee9e5f41684aee5fc3ad315c9646eb164dd460c864f80de7897", func := "mailcoach/mailcoachlaw14.EntryTimes", spec := "entryTimes", apart := false, narrowed := true }
def EntryTimesUptoSaid : Prop := entryTimesUptoRow.holds Try.pinned (OpenSpec.upto entryTimesSpec)

/-- 'mailcoachlaw14.EntryOrders', WHERE WHAT IT READS IS OF BULK AT MOST 1048576: true; the input reads as it did. -/
def entryOrdersUptoRow : OpenClaim := { program := "ytdamajkkdoffdaa", sum := "5faaec4b591dbee9e5f41684aee5fc3ad315c9646eb164dd460c864f80de7897", func := "mailcoach/mailcoachlaw14.EntryOrders", spec := "entryOrders", apart := false, narrowed := true }
def EntryOrdersUptoSaid : Prop := entryOrdersUptoRow.holds Try.pinned (OpenSpec.upto entryOrdersSpec)

/-- 'mailcoachlaw14.EntryOptions', WHERE WHAT IT READS IS OF BULK AT MOST 1048576: true; the input reads as it did. -/
def entryOptionsUptoRow : OpenClaim := { program := "ytdamajkkdoffdaa", sum := "5faaec4b591dbee9e5f41684aee5fc3ad315c9646eb164dd460c864f80de7897", func := "mailcoach/mailcoachlaw14.EntryOptions", spec := "entryOptions", apart := false, narrowed := true }
def EntryOptionsUptoSaid : Prop := entryOptionsUptoRow.holds Try.pinned (OpenSpec.upto entryOptionsSpec)

end Rows
end Go.Proofs.Ytdamajkkdoffdaa
