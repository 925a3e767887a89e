/- Closed facts on this seat's program, for the abstract evaluator: written by gen2.py. -/
import Derived.Test.YtjdenkhiakmdkaaFwZB
import Derived.Test.YtjdenkhiakmdkaaProg
set_option linter.all false
namespace Go.Proofs.Ytjdenkhiakmdkaa
open Go.Ab
def prs : FuncId → Nat → List (Nat × Nat)
  | _, _ => []
set_option maxRecDepth 100000 in
theorem prsOk : progOkB Try.prog prs = true := by kernel_rfl
theorem mixed : Try.prog.follows .mixedOrders = true := by kernel_rfl
theorem sz3 : sizeT Try.prog 3 = some 1 := by kernel_rfl
theorem sz4 : sizeT Try.prog 4 = some 1 := by kernel_rfl
theorem sz5 : sizeT Try.prog 5 = some 1 := by kernel_rfl
theorem sz9 : sizeT Try.prog 9 = some 1 := by kernel_rfl
theorem sz23 : sizeT Try.prog 23 = some 1 := by kernel_rfl
theorem sz37 : sizeT Try.prog 37 = some 1 := by kernel_rfl
theorem sz38 : sizeT Try.prog 38 = some 1 := by kernel_rfl
theorem sz40 : sizeT Try.prog 40 = some 1 := by kernel_rfl
theorem sz42 : sizeT Try.prog 42 = some 1 := by kernel_rfl
theorem ag3 : isAggT Try.prog 3 = some false := by kernel_rfl
theorem ag4 : isAggT Try.prog 4 = some false := by kernel_rfl
theorem ag5 : isAggT Try.prog 5 = some false := by kernel_rfl
theorem ag9 : isAggT Try.prog 9 = some false := by kernel_rfl
theorem ag23 : isAggT Try.prog 23 = some false := by kernel_rfl
theorem ag37 : isAggT Try.prog 37 = some false := by kernel_rfl
theorem ag38 : isAggT Try.prog 38 = some false := by kernel_rfl
theorem ag40 : isAggT Try.prog 40 = some false := by kernel_rfl
theorem ag42 : isAggT Try.prog 42 = some false := by kernel_rfl
theorem ip3 : isPtr Try.prog 3 = false := by kernel_rfl
theorem is3 : isSl Try.prog 3 = false := by kernel_rfl
theorem ze3 : zeroCells? Try.prog 3 = some #[.int .i64 0] := by kernel_rfl
theorem ip4 : isPtr Try.prog 4 = false := by kernel_rfl
theorem is4 : isSl Try.prog 4 = false := by kernel_rfl
theorem ze4 : zeroCells? Try.prog 4 = some #[.bool false] := by kernel_rfl
def br4 := @bool_rules Try.prog 4 Try.underlying4 ip4 is4
theorem ip5 : isPtr Try.prog 5 = false := by kernel_rfl
theorem is5 : isSl Try.prog 5 = false := by kernel_rfl
theorem ze5 : zeroCells? Try.prog 5 = some #[.int .u8 0] := by kernel_rfl
theorem ip9 : isPtr Try.prog 9 = false := by kernel_rfl
theorem is9 : isSl Try.prog 9 = false := by kernel_rfl
theorem ze9 : zeroCells? Try.prog 9 = some #[.string ⟨#[]⟩] := by kernel_rfl
def sr9 := @str_rules2 Try.prog 9 Try.underlying9 ip9 is9
def sl9 := @str_len Try.prog 9 Try.underlying9
def si9 := @str_ix Try.prog 9 Try.underlying9
def ss9 := @str_sl Try.prog 9 Try.underlying9 ip9 is9
theorem ip23 : isPtr Try.prog 23 = false := by kernel_rfl
theorem is23 : isSl Try.prog 23 = false := by kernel_rfl
theorem ze23 : zeroCells? Try.prog 23 = some #[.int .i64 0] := by kernel_rfl
theorem ip37 : isPtr Try.prog 37 = false := by kernel_rfl
theorem is37 : isSl Try.prog 37 = false := by kernel_rfl
theorem ze37 : zeroCells? Try.prog 37 = some #[.int .u64 0] := by kernel_rfl
theorem ip38 : isPtr Try.prog 38 = false := by kernel_rfl
theorem is38 : isSl Try.prog 38 = false := by kernel_rfl
theorem ze38 : zeroCells? Try.prog 38 = some #[.int .u64 0] := by kernel_rfl
theorem ip40 : isPtr Try.prog 40 = false := by kernel_rfl
theorem is40 : isSl Try.prog 40 = true := by kernel_rfl
theorem ze40 : zeroCells? Try.prog 40 = some #[.slice none 0 0] := by kernel_rfl
theorem el40 : elemT Try.prog 40 = some 9 := by kernel_rfl
def ll40 := @slice_len Try.prog 40 9 Try.underlying40
def ln40 := @slice_nil Try.prog 40 ip40 is40
def la40 := @slice_ia Try.prog 40 9 1 Try.underlying40 sz9
theorem ip42 : isPtr Try.prog 42 = false := by kernel_rfl
theorem is42 : isSl Try.prog 42 = true := by kernel_rfl
theorem ze42 : zeroCells? Try.prog 42 = some #[.slice none 0 0] := by kernel_rfl
theorem el42 : elemT Try.prog 42 = some 5 := by kernel_rfl
def ll42 := @slice_len Try.prog 42 5 Try.underlying42
def ln42 := @slice_nil Try.prog 42 ip42 is42
def la42 := @slice_ia Try.prog 42 5 1 Try.underlying42 sz5
def cv3_5 := @cv_rule Try.prog 3 5 .i64 .u8 Try.underlying3 Try.underlying5
def cv3_38 := @cv_rule Try.prog 3 38 .i64 .u64 Try.underlying3 Try.underlying38
def cv5_3 := @cv_rule Try.prog 5 3 .u8 .i64 Try.underlying5 Try.underlying3
def cv37_3 := @cv_rule Try.prog 37 3 .u64 .i64 Try.underlying37 Try.underlying3
theorem by5 : bytesT Try.prog 5 = some 1 := by kernel_rfl
def mk42 := @mk_rule Try.prog 42 5 (.int .u8 0) 1 el42 ze5 sz5 by5
theorem bs42_1_0 (x0 : Int) {nid : Nat} : evBuildSlice Try.prog nid 42 1 [(0, .int .u8 x0)] = some ⟨.slice (some ⟨nid, 0, none⟩) 1 1, [(nid, some (.cells [.int .u8 x0] 5 true))], []⟩ := by kernel_rfl
def fxU := And.intro (And.intro (And.intro (@Try.underlying3) (@Try.underlying4)) (And.intro (@Try.underlying5) (@Try.underlying9))) (And.intro (And.intro (@Try.underlying23) (@Try.underlying37)) (And.intro (@Try.underlying38) (And.intro (@Try.underlying40) (@Try.underlying42))))
def fxSZ := And.intro (And.intro (And.intro (And.intro (@sz3) (@sz4)) (And.intro (@sz5) (@sz9))) (And.intro (And.intro (@sz23) (@sz37)) (And.intro (@sz38) (And.intro (@sz40) (@sz42))))) (And.intro (And.intro (And.intro (@ag3) (@ag4)) (And.intro (@ag5) (@ag9))) (And.intro (And.intro (@ag23) (@ag37)) (And.intro (@ag38) (And.intro (@ag40) (@ag42)))))
def fxZE := And.intro (And.intro (And.intro (@ze3) (@ze4)) (And.intro (@ze5) (@ze9))) (And.intro (And.intro (@ze23) (@ze37)) (And.intro (@ze38) (And.intro (@ze40) (@ze42))))
theorem fxFA : (undef = undef) = True := noFacts
theorem fxFE : (undef = undef) = True := noFacts
def fxEL := And.intro (@el40) (And.intro (@el42) (@by5))
def fxI := And.intro (And.intro (And.intro (ip3) (And.intro (is3) (ip4))) (And.intro (And.intro (is4) (ip5)) (And.intro (is5) (ip9)))) (And.intro (And.intro (is9) (And.intro (ip23) (is23))) (And.intro (And.intro (ip37) (is37)) (And.intro (ip38) (is38))))
def fxB := And.intro (br4) (And.intro (ln40) (ln42))
def fxST := sr9
def fxLEN := And.intro (sl9) (And.intro (ll40) (ll42))
def fxIX := si9
def fxSS := ss9
def fxIA := And.intro (la40) (la42)
theorem fxEQ : (undef = undef) = True := noFacts
def fxCV := And.intro (And.intro (cv3_5) (cv3_38)) (And.intro (cv5_3) (cv37_3))
def fxMK := mk42
def fxBU := @bs42_1_0
end Go.Proofs.Ytjdenkhiakmdkaa
