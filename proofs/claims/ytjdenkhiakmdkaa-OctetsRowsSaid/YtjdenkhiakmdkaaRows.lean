/-
  No cell of these rows narrows 'for every input' (looked for: loops, veiled, ifaces, maps, wideKeys, modest, calm, conditions, laid).
  DERIVED. THE GIVEN ROWS OF THIS SEAT. 4 by the template 'for every input the law returns true; each argument reads behind the call as it read before'; 0 by the template 'total and deterministic' (their statements: YtjdenkhiakmdkaaTotals.lean).
  GIVEN WITH THE SEED: the statements are not yours to turn. If you find one false, say at which input.
  Laid BY PROGRAM, IN A SANDBOX (cutbox-rows.mjs): the forced cells as the released guide's own fill.sh prints them over the translation f486fed00e2cc4f9… (all of the seat's roots in one cut). By AI agents, Wed Nov 11 2026. No macro, syntax, notation, axiom, sorry.
-/
import Derived.Test.YtjdenkhiakmdkaaChecked
import GoSem.Claim
import GoSem.ClaimJoined
import GoSem.ClaimMapViews
import Derived.JoinedTies
import Derived.KernelRfl
namespace Go.Proofs.Ytjdenkhiakmdkaa
/- THE CELL 'sum', in the pinned program and in every row, IS THE sha256 OF THE DUMP (.gsa) THAT YtjdenkhiakmdkaaProg.lean LOADS. Nothing in Lean hashes anything: it is a label: what it is worth is what the hold of that sum in a sandbox is worth. -/
noncomputable def Try.pinned : Pinned := { name := "ytjdenkhiakmdkaa", sum := "f486fed00e2cc4f94f798db9e7cb344d9f2549751a23cf1ddf764cb050c9710c", checked := Try.checked }
namespace Rows
def none {H : Type} : Left H := { results := [], args := [] }

/-- 'mailcoachlaw6.OctetsTell': WHATEVER THE INPUT: true; the input reads as it did. -/
def octetsTellSpec : ChangeSpec := { name := "octetsTell", fn := fun _ => fun
  | [d1, d2, d3, d4, d5] => { results := [.lit (.bool true)], args := [d1, d2, d3, d4, d5] }
  | _ => none }
def octetsTellRow : OpenClaim := { program := "ytjdenkhiakmdkaa", sum := "f486fed00e2cc4f94f798db9e7cb344d9f2549751a23cf1ddf764cb050c9710c", func := "mailcoach/mailcoachlaw6.OctetsTell", spec := "octetsTell", apart := false }
def OctetsTellSaid : Prop := octetsTellRow.holds Try.pinned (OpenSpec.ofChange octetsTellSpec)

/-- ITS FALSE NEIGHBOUR: 'it returns false'. Refute it at one input. -/
def octetsTellWrong : ChangeSpec := { name := "octetsTell", fn := fun _ => fun
  | [d1, d2, d3, d4, d5] => { results := [.lit (.bool false)], args := [d1, d2, d3, d4, d5] }
  | _ => none }
def OctetsTellWrongFalsely : Prop := octetsTellRow.holds Try.pinned (OpenSpec.ofChange octetsTellWrong)

/-- 'mailcoachlaw6.OctetsBack': WHATEVER THE INPUT: true; the input reads as it did. -/
def octetsBackSpec : ChangeSpec := { name := "octetsBack", fn := fun _ => fun
  | [d1, d2, d3, d4, d5] => { results := [.lit (.bool true)], args := [d1, d2, d3, d4, d5] }
  | _ => none }
def octetsBackRow : OpenClaim := { program := "ytjdenkhiakmdkaa", sum := "f486fed00e2cc4f94f798db9e7cb344d9f2549751a23cf1ddf764cb050c9710c", func := "mailcoach/mailcoachlaw6.OctetsBack", spec := "octetsBack", apart := false }
def OctetsBackSaid : Prop := octetsBackRow.holds Try.pinned (OpenSpec.ofChange octetsBackSpec)

/-- ITS FALSE NEIGHBOUR: 'it returns false'. Refute it at one input. -/
def octetsBackWrong : ChangeSpec := { name := "octetsBack", fn := fun _ => fun
  | [d1, d2, d3, d4, d5] => { results := [.lit (.bool false)], args := [d1, d2, d3, d4, d5] }
  | _ => none }
def OctetsBackWrongFalsely : Prop := octetsBackRow.holds Try.pinned (OpenSpec.ofChange octetsBackWrong)

/-- 'mailcoachlaw6.OctetsRows': WHATEVER THE INPUT: true; the input reads as it did. -/
def octetsRowsSpec : ChangeSpec := { name := "octetsRows", fn := fun _ => fun
  | [d] => { results := [.lit (.bool true)], args := [d] }
  | _ => none }
def octetsRowsRow : OpenClaim := { program := "ytjdenkhiakmdkaa", sum := "f486fed00e2cc4f94f798db9e7cb344d9f2549751a23cf1ddf764cb050c9710c", func := "mailcoach/mailcoachlaw6.OctetsRows", spec := "octetsRows", apart := false }
def OctetsRowsSaid : Prop := octetsRowsRow.holds Try.pinned (OpenSpec.ofChange octetsRowsSpec)

/-- ITS FALSE NEIGHBOUR: 'it returns false'. Refute it at one input. -/
def octetsRowsWrong : ChangeSpec := { name := "octetsRows", fn := fun _ => fun
  | [d] => { results := [.lit (.bool false)], args := [d] }
  | _ => none }
def OctetsRowsWrongFalsely : Prop := octetsRowsRow.holds Try.pinned (OpenSpec.ofChange octetsRowsWrong)

/-- 'mailcoachlaw6.OctetsMost': WHATEVER THE INPUT: true; the input reads as it did. -/
def octetsMostSpec : ChangeSpec := { name := "octetsMost", fn := fun _ => fun
  | [d1, d2] => { results := [.lit (.bool true)], args := [d1, d2] }
  | _ => none }
def octetsMostRow : OpenClaim := { program := "ytjdenkhiakmdkaa", sum := "f486fed00e2cc4f94f798db9e7cb344d9f2549751a23cf1ddf764cb050c9710c", func := "mailcoach/mailcoachlaw6.OctetsMost", spec := "octetsMost", apart := false }
def OctetsMostSaid : Prop := octetsMostRow.holds Try.pinned (OpenSpec.ofChange octetsMostSpec)

/-- ITS FALSE NEIGHBOUR: 'it returns false'. Refute it at one input. -/
def octetsMostWrong : ChangeSpec := { name := "octetsMost", fn := fun _ => fun
  | [d1, d2] => { results := [.lit (.bool false)], args := [d1, d2] }
  | _ => none }
def OctetsMostWrongFalsely : Prop := octetsMostRow.holds Try.pinned (OpenSpec.ofChange octetsMostWrong)

/- THE SECOND FORM. 'bulk': how many values and letters a reading holds, each counted each time it is reached (what is shared counts as often as it is met; a slice's spare places count too). A statement '..UptoSaid' is the law's where the arguments, and the package variables that the reading takes, are together of bulk at most 1048576: NARROWER than '..Said'. Prove '..Said' where nothing that the law and all that it calls make is longer than what came in: it says more and counts as full. Else prove '..UptoSaid'. A law counts once. -/
mutual
def uptoBulk {H : Type} : DataW H → Nat
  | .lit (.string bytes) => bytes.length + 1
  | .lit _ => 1
  | .nil => 1
  | .ptr d => uptoBulk d + 1
  | .slice elems spare => uptoBulkAll elems + uptoBulkAll spare + 1
  | .agg parts => uptoBulkAll parts + 1
  | .iface _ d => uptoBulk d + 1
  | .map entries => uptoBulkEntries entries + 1
  | .held _ => 1
def uptoBulkAll {H : Type} : List (DataW H) → Nat
  | [] => 0
  | d :: r => uptoBulk d + uptoBulkAll r
def uptoBulkEntries {H : Type} : List (Lit × DataW H) → Nat
  | [] => 0
  | x :: r => uptoBulkEntry x + uptoBulkEntries r
def uptoBulkEntry {H : Type} : Lit × DataW H → Nat
  | (.string bytes, d) => bytes.length + uptoBulk d + 1
  | (_, d) => uptoBulk d + 1
 end
def uptoSmall : (H : Type) → List (DataW H) → Bool := fun _ ds => decide (uptoBulkAll ds ≤ 1048576)
def OpenSpec.upto (s : _root_.Go.ChangeSpec) : _root_.Go.OpenSpec := { _root_.Go.OpenSpec.ofChange s with cond := some uptoSmall }

/-- 'mailcoachlaw6.OctetsTell', WHERE WHAT IT READS IS OF BULK AT MOST 1048576: true; the input reads as it did. -/
def octetsTellUptoRow : OpenClaim := { program := "ytjdenkhiakmdkaa", sum := "f486fed00e2cc4f94f798db9e7cb344d9f2549751a23cf1ddf764cb050c9710c", func := "mailcoach/mailcoachlaw6.OctetsTell", spec := "octetsTell", apart := false, narrowed := true }
def OctetsTellUptoSaid : Prop := octetsTellUptoRow.holds Try.pinned (OpenSpec.upto octetsTellSpec)

/-- 'mailcoachlaw6.OctetsBack', WHERE WHAT IT READS IS OF BULK AT MOST 1048576: true; the input reads as it did. -/
def octetsBackUptoRow : OpenClaim := { program := "ytjdenkhiakmdkaa", sum := "f486fed00e2cc4f94f798db9e7cb344d9f2549751a23cf1ddf764cb050c9710c", func := "mailcoach/mailcoachlaw6.OctetsBack", spec := "octetsBack", apart := false, narrowed := true }
def OctetsBackUptoSaid : Prop := octetsBackUptoRow.holds Try.pinned (OpenSpec.upto octetsBackSpec)

/-- 'mailcoachlaw6.OctetsRows', WHERE WHAT IT READS IS OF BULK AT MOST 1048576: true; the input reads as it did. -/
def octetsRowsUptoRow : OpenClaim := { program := "ytjdenkhiakmdkaa", sum := "f486fed00e2cc4f94f798db9e7cb344d9f2549751a23cf1ddf764cb050c9710c", func := "mailcoach/mailcoachlaw6.OctetsRows", spec := "octetsRows", apart := false, narrowed := true }
def OctetsRowsUptoSaid : Prop := octetsRowsUptoRow.holds Try.pinned (OpenSpec.upto octetsRowsSpec)

/-- 'mailcoachlaw6.OctetsMost', WHERE WHAT IT READS IS OF BULK AT MOST 1048576: true; the input reads as it did. -/
def octetsMostUptoRow : OpenClaim := { program := "ytjdenkhiakmdkaa", sum := "f486fed00e2cc4f94f798db9e7cb344d9f2549751a23cf1ddf764cb050c9710c", func := "mailcoach/mailcoachlaw6.OctetsMost", spec := "octetsMost", apart := false, narrowed := true }
def OctetsMostUptoSaid : Prop := octetsMostUptoRow.holds Try.pinned (OpenSpec.upto octetsMostSpec)

end Rows
end Go.Proofs.Ytjdenkhiakmdkaa
