/-
  No cell of these rows narrows 'for every input' (looked for: loops, veiled, ifaces, maps, wideKeys, modest, calm, conditions, laid).
  DERIVED. THE GIVEN ROWS OF THIS SEAT. 3 by the template 'for every input the law returns true; each argument reads behind the call as it read before'; 0 by the template 'total and deterministic' (their statements: YtllffogcdeempaaTotals.lean).
  GIVEN WITH THE SEED: the statements are not yours to turn. If you find one false, say at which input.
  Laid BY PROGRAM, IN A SANDBOX (cutbox-rows.mjs): the forced cells as the released guide's own fill.sh prints them over the translation 191f481e9ce2ee7e… (all of the seat's roots in one cut). By AI agents, Wed Nov 11 2026. No macro, syntax, notation, axiom, sorry.
-/
import Derived.Test.YtllffogcdeempaaChecked
import GoSem.Claim
import GoSem.ClaimJoined
import GoSem.ClaimMapViews
import Derived.JoinedTies
import Derived.KernelRfl
namespace Go.Proofs.Ytllffogcdeempaa
/- THE CELL 'sum', in the pinned program and in every row, IS THE sha256 OF THE DUMP (.gsa) THAT YtllffogcdeempaaProg.lean LOADS. Nothing in Lean hashes anything: it is a label: what it is worth is what the hold of that sum in a sandbox is worth. -/
noncomputable def Try.pinned : Pinned := { name := "ytllffogcdeempaa", sum := "191f481e9ce2ee7ef08411c8b1eaa88085aed3d63911822bbc7322d99cd5f7f6", checked := Try.checked }
namespace Rows
def none {H : Type} : Left H := { results := [], args := [] }

/-- 'mailcoachlaw17.SlipPlays': WHATEVER THE INPUT: true; the input reads as it did. -/
def slipPlaysSpec : ChangeSpec := { name := "slipPlays", fn := fun _ => fun
  | [d1, d2] => { results := [.lit (.bool true)], args := [d1, d2] }
  | _ => none }
def slipPlaysRow : OpenClaim := { program := "ytllffogcdeempaa", sum := "191f481e9ce2ee7ef08411c8b1eaa88085aed3d63911822bbc7322d99cd5f7f6", func := "mailcoach/mailcoachlaw17.SlipPlays", spec := "slipPlays", inPlace := ["slices.overlaps[mailcoach/api.Slip]"], apart := false }
def SlipPlaysSaid : Prop := slipPlaysRow.holds Try.pinned (OpenSpec.ofChange slipPlaysSpec)

/-- ITS FALSE NEIGHBOUR: 'it returns false'. Refute it at one input. -/
def slipPlaysWrong : ChangeSpec := { name := "slipPlays", fn := fun _ => fun
  | [d1, d2] => { results := [.lit (.bool false)], args := [d1, d2] }
  | _ => none }
def SlipPlaysWrongFalsely : Prop := slipPlaysRow.holds Try.pinned (OpenSpec.ofChange slipPlaysWrong)

/-- 'mailcoachlaw17.SlipTags': WHATEVER THE INPUT: true; the input reads as it did. -/
def slipTagsSpec : ChangeSpec := { name := "slipTags", fn := fun _ => fun
  | [d1, d2] => { results := [.lit (.bool true)], args := [d1, d2] }
  | _ => none }
def slipTagsRow : OpenClaim := { program := "ytllffogcdeempaa", sum := "191f481e9ce2ee7ef08411c8b1eaa88085aed3d63911822bbc7322d99cd5f7f6", func := "mailcoach/mailcoachlaw17.SlipTags", spec := "slipTags", inPlace := ["slices.overlaps[mailcoach/api.Slip]"], apart := false }
def SlipTagsSaid : Prop := slipTagsRow.holds Try.pinned (OpenSpec.ofChange slipTagsSpec)

/-- ITS FALSE NEIGHBOUR: 'it returns false'. Refute it at one input. -/
def slipTagsWrong : ChangeSpec := { name := "slipTags", fn := fun _ => fun
  | [d1, d2] => { results := [.lit (.bool false)], args := [d1, d2] }
  | _ => none }
def SlipTagsWrongFalsely : Prop := slipTagsRow.holds Try.pinned (OpenSpec.ofChange slipTagsWrong)

/-- 'mailcoachlaw17.SlipConsumers': WHATEVER THE INPUT: true; the input reads as it did. -/
def slipConsumersSpec : ChangeSpec := { name := "slipConsumers", fn := fun _ => fun
  | [d1, d2] => { results := [.lit (.bool true)], args := [d1, d2] }
  | _ => none }
def slipConsumersRow : OpenClaim := { program := "ytllffogcdeempaa", sum := "191f481e9ce2ee7ef08411c8b1eaa88085aed3d63911822bbc7322d99cd5f7f6", func := "mailcoach/mailcoachlaw17.SlipConsumers", spec := "slipConsumers", inPlace := ["slices.overlaps[mailcoach/api.Slip]"], apart := false }
def SlipConsumersSaid : Prop := slipConsumersRow.holds Try.pinned (OpenSpec.ofChange slipConsumersSpec)

/-- ITS FALSE NEIGHBOUR: 'it returns false'. Refute it at one input. -/
def slipConsumersWrong : ChangeSpec := { name := "slipConsumers", fn := fun _ => fun
  | [d1, d2] => { results := [.lit (.bool false)], args := [d1, d2] }
  | _ => none }
def SlipConsumersWrongFalsely : Prop := slipConsumersRow.holds Try.pinned (OpenSpec.ofChange slipConsumersWrong)

/- THE SECOND FORM. 'bulk': how many values and letters a reading holds, each counted each time it is reached (what is shared counts as often as it is met; a slice's spare places count too). A statement '..UptoSaid' is the law's where the arguments, and the package variables that the reading takes, are together of bulk at most 1048576: NARROWER than '..Said'. Prove '..Said' where nothing that the law and all that it calls make is longer than what came in: it says more and counts as full. Else prove '..UptoSaid'. A law counts once. -/
mutual
def uptoBulk {H : Type} : DataW H → Nat
  | .lit (.string bytes) => bytes.length + 1
  | .lit _ => 1
  | .nil => 1
  | .ptr d => uptoBulk d + 1
  | .slice elems spare => uptoBulkAll elems + uptoBulkAll spare + 1
  | .agg parts => uptoBulkAll parts + 1
  | .iface _ d => uptoBulk d + 1
  | .map entries => uptoBulkEntries entries + 1
  | .held _ => 1
def uptoBulkAll {H : Type} : List (DataW H) → Nat
  | [] => 0
  | d :: r => uptoBulk d + uptoBulkAll r
def uptoBulkEntries {H : Type} : List (Lit × DataW H) → Nat
  | [] => 0
  | x :: r => uptoBulkEntry x + uptoBulkEntries r
def uptoBulkEntry {H : Type} : Lit × DataW H → Nat
  | (.string bytes, d) => bytes.length + uptoBulk d + 1
  | (_, d) => uptoBulk d + 1
 end
def uptoSmall : (H : Type) → List (DataW H) → Bool := fun _ ds => decide (uptoBulkAll ds ≤ 1048576)
def OpenSpec.upto (s : _root_.Go.ChangeSpec) : _root_.Go.OpenSpec := { _root_.Go.OpenSpec.ofChange s with cond := some uptoSmall }

/-- 'mailcoachlaw17.SlipPlays', WHERE WHAT IT READS IS OF BULK AT MOST 1048576: true; the input reads as it did. -/
def slipPlaysUptoRow : OpenClaim := { program := "ytllffogcdeempaa", sum := "191f481e9ce2ee7ef08411c8b1eaa88085aed3d63911822bbc7322d99cd5f7f6", func := "mailcoach/mailcoachlaw17.SlipPlays", spec := "slipPlays", inPlace := ["slices.overlaps[mailcoach/api.Slip]"], apart := false, narrowed := true }
def SlipPlaysUptoSaid : Prop := slipPlaysUptoRow.holds Try.pinned (OpenSpec.upto slipPlaysSpec)

/-- 'mailcoachlaw17.SlipTags', WHERE WHAT IT READS IS OF BULK AT MOST 1048576: true; the input reads as it did. -/
def slipTagsUptoRow : OpenClaim := { program := "ytllffogcdeempaa", sum := "191f481e9ce2ee7ef08411c8b1eaa88085aed3d63911822bbc7322d99cd5f7f6", func := "mailcoach/mailcoachlaw17.SlipTags", spec := "slipTags", inPlace := ["slices.overlaps[mailcoach/api.Slip]"], apart := false, narrowed := true }
def SlipTagsUptoSaid : Prop := slipTagsUptoRow.holds Try.pinned (OpenSpec.upto slipTagsSpec)

/-- 'mailcoachlaw17.SlipConsumers', WHERE WHAT IT READS IS OF BULK AT MOST 1048576: true; the input reads as it did. -/
def slipConsumersUptoRow : OpenClaim := { program := "ytllffogcdeempaa", sum := "191f481e9ce2ee7ef08411c8b1eaa88085aed3d63911822bbc7322d99cd5f7f6", func := "mailcoach/mailcoachlaw17.SlipConsumers", spec := "slipConsumers", inPlace := ["slices.overlaps[mailcoach/api.Slip]"], apart := false, narrowed := true }
def SlipConsumersUptoSaid : Prop := slipConsumersUptoRow.holds Try.pinned (OpenSpec.upto slipConsumersSpec)

end Rows
end Go.Proofs.Ytllffogcdeempaa
