/- Closed facts on this seat's program, for the abstract evaluator: written by gen2.py. -/
import Derived.Test.YtoiefffgajddmaaFwZB
import Derived.Test.YtoiefffgajddmaaProg
set_option linter.all false
namespace Go.Proofs.Ytoiefffgajddmaa
open Go.Ab
def prs : FuncId → Nat → List (Nat × Nat)
  | 3, 5 => [(1, 2), (7, 8)]
  | 8, 3 => [(2, 4), (2, 8), (5, 8)]
  | 9, 3 => [(2, 4), (2, 8), (5, 8)]
  | _, _ => []
set_option maxRecDepth 100000 in
theorem prsOk : progOkB Try.prog prs = true := by kernel_rfl
theorem mixed : Try.prog.follows .mixedOrders = true := by kernel_rfl
theorem sz3 : sizeT Try.prog 3 = some 1 := by kernel_rfl
theorem sz4 : sizeT Try.prog 4 = some 1 := by kernel_rfl
theorem sz5 : sizeT Try.prog 5 = some 1 := by kernel_rfl
theorem sz9 : sizeT Try.prog 9 = some 1 := by kernel_rfl
theorem sz22 : sizeT Try.prog 22 = some 3 := by kernel_rfl
theorem sz23 : sizeT Try.prog 23 = some 3 := by kernel_rfl
theorem sz28 : sizeT Try.prog 28 = some 1 := by kernel_rfl
theorem sz30 : sizeT Try.prog 30 = some 1 := by kernel_rfl
theorem sz31 : sizeT Try.prog 31 = some 1 := by kernel_rfl
theorem sz40 : sizeT Try.prog 40 = some 1 := by kernel_rfl
theorem ag3 : isAggT Try.prog 3 = some false := by kernel_rfl
theorem ag4 : isAggT Try.prog 4 = some false := by kernel_rfl
theorem ag5 : isAggT Try.prog 5 = some false := by kernel_rfl
theorem ag9 : isAggT Try.prog 9 = some false := by kernel_rfl
theorem ag22 : isAggT Try.prog 22 = some true := by kernel_rfl
theorem ag23 : isAggT Try.prog 23 = some true := by kernel_rfl
theorem ag28 : isAggT Try.prog 28 = some false := by kernel_rfl
theorem ag30 : isAggT Try.prog 30 = some false := by kernel_rfl
theorem ag31 : isAggT Try.prog 31 = some false := by kernel_rfl
theorem ag40 : isAggT Try.prog 40 = some false := by kernel_rfl
theorem ip3 : isPtr Try.prog 3 = false := by kernel_rfl
theorem is3 : isSl Try.prog 3 = false := by kernel_rfl
theorem ze3 : zeroCells? Try.prog 3 = some #[.int .i64 0] := by kernel_rfl
theorem ip4 : isPtr Try.prog 4 = false := by kernel_rfl
theorem is4 : isSl Try.prog 4 = false := by kernel_rfl
theorem ze4 : zeroCells? Try.prog 4 = some #[.bool false] := by kernel_rfl
def br4 := @bool_rules Try.prog 4 Try.underlying4 ip4 is4
theorem ip5 : isPtr Try.prog 5 = false := by kernel_rfl
theorem is5 : isSl Try.prog 5 = false := by kernel_rfl
theorem ze5 : zeroCells? Try.prog 5 = some #[.int .u8 0] := by kernel_rfl
theorem ip9 : isPtr Try.prog 9 = false := by kernel_rfl
theorem is9 : isSl Try.prog 9 = false := by kernel_rfl
theorem ze9 : zeroCells? Try.prog 9 = some #[.string ⟨#[]⟩] := by kernel_rfl
def sr9 := @str_rules2 Try.prog 9 Try.underlying9 ip9 is9
def sl9 := @str_len Try.prog 9 Try.underlying9
def si9 := @str_ix Try.prog 9 Try.underlying9
def ss9 := @str_sl Try.prog 9 Try.underlying9 ip9 is9
theorem ip22 : isPtr Try.prog 22 = false := by kernel_rfl
theorem is22 : isSl Try.prog 22 = false := by kernel_rfl
theorem ze22 : zeroCells? Try.prog 22 = some #[.int .i64 0, .int .i64 0, .int .i64 0] := by kernel_rfl
theorem ip23 : isPtr Try.prog 23 = false := by kernel_rfl
theorem is23 : isSl Try.prog 23 = false := by kernel_rfl
theorem ze23 : zeroCells? Try.prog 23 = some #[.int .i64 0, .int .i64 0, .int .i64 0] := by kernel_rfl
theorem fa23_0 {b o : Nat} : evFieldAddr Try.prog 23 (.pointer (some ⟨b, o, none⟩)) 0 = some (.pointer (some ⟨b, o + 0, none⟩)) := by kernel_rfl
theorem fa23_1 {b o : Nat} : evFieldAddr Try.prog 23 (.pointer (some ⟨b, o, none⟩)) 1 = some (.pointer (some ⟨b, o + 1, none⟩)) := by kernel_rfl
theorem fa23_2 {b o : Nat} : evFieldAddr Try.prog 23 (.pointer (some ⟨b, o, none⟩)) 2 = some (.pointer (some ⟨b, o + 2, none⟩)) := by kernel_rfl
theorem eq23 (a0 b0 : Int) (a1 b1 : Int) (a2 b2 : Int) {xo yo : Operand} : evBin Try.prog .eql 23 xo yo (.agg #[.int .i64 a0, .int .i64 a1, .int .i64 a2]) (.agg #[.int .i64 b0, .int .i64 b1, .int .i64 b2]) = some (.bool (((a0 == b0) && ((a1 == b1) && ((a2 == b2) && true))))) := eq_agg 10 ip23 is23 (by kernel_rfl) (by kernel_rfl) (by kernel_rfl) (by kernel_rfl)
theorem ne23 (a0 b0 : Int) (a1 b1 : Int) (a2 b2 : Int) {xo yo : Operand} : evBin Try.prog .neq 23 xo yo (.agg #[.int .i64 a0, .int .i64 a1, .int .i64 a2]) (.agg #[.int .i64 b0, .int .i64 b1, .int .i64 b2]) = some (.bool (!(((a0 == b0) && ((a1 == b1) && ((a2 == b2) && true)))))) := ne_agg 10 ip23 is23 (by kernel_rfl) (by kernel_rfl) (by kernel_rfl) (by kernel_rfl)
theorem ip28 : isPtr Try.prog 28 = false := by kernel_rfl
theorem is28 : isSl Try.prog 28 = true := by kernel_rfl
theorem ze28 : zeroCells? Try.prog 28 = some #[.slice none 0 0] := by kernel_rfl
theorem el28 : elemT Try.prog 28 = some 5 := by kernel_rfl
def ll28 := @slice_len Try.prog 28 5 Try.underlying28
def ln28 := @slice_nil Try.prog 28 ip28 is28
def la28 := @slice_ia Try.prog 28 5 1 Try.underlying28 sz5
theorem ip30 : isPtr Try.prog 30 = false := by kernel_rfl
theorem is30 : isSl Try.prog 30 = false := by kernel_rfl
theorem ze30 : zeroCells? Try.prog 30 = some #[.int .u16 0] := by kernel_rfl
theorem ip31 : isPtr Try.prog 31 = false := by kernel_rfl
theorem is31 : isSl Try.prog 31 = false := by kernel_rfl
theorem ze31 : zeroCells? Try.prog 31 = some #[.int .i64 0] := by kernel_rfl
theorem ip40 : isPtr Try.prog 40 = false := by kernel_rfl
theorem is40 : isSl Try.prog 40 = false := by kernel_rfl
theorem ze40 : zeroCells? Try.prog 40 = some #[.int .u64 0] := by kernel_rfl
def cv3_5 := @cv_rule Try.prog 3 5 .i64 .u8 Try.underlying3 Try.underlying5
def cv3_40 := @cv_rule Try.prog 3 40 .i64 .u64 Try.underlying3 Try.underlying40
def cv5_3 := @cv_rule Try.prog 5 3 .u8 .i64 Try.underlying5 Try.underlying3
def cv30_3 := @cv_rule Try.prog 30 3 .u16 .i64 Try.underlying30 Try.underlying3
theorem by5 : bytesT Try.prog 5 = some 1 := by kernel_rfl
def mk28 := @mk_rule Try.prog 28 5 (.int .u8 0) 1 el28 ze5 sz5 by5
theorem bu23_0_1_2 (x0 : Int) (x1 : Int) (x2 : Int) : evBuild Try.prog 23 [(0, .int .i64 x0), (1, .int .i64 x1), (2, .int .i64 x2)] = some (.agg #[.int .i64 x0, .int .i64 x1, .int .i64 x2]) := by kernel_rfl
theorem bu23_0 (x0 : Int) : evBuild Try.prog 23 [(0, .int .i64 x0)] = some (.agg #[.int .i64 x0, .int .i64 0, .int .i64 0]) := by kernel_rfl
theorem bu23_  : evBuild Try.prog 23 [] = some (.agg #[.int .i64 0, .int .i64 0, .int .i64 0]) := by kernel_rfl
theorem bs28_1_0 (x0 : Int) {nid : Nat} : evBuildSlice Try.prog nid 28 1 [(0, .int .u8 x0)] = some ⟨.slice (some ⟨nid, 0, none⟩) 1 1, [(nid, some (.cells [.int .u8 x0] 5 true))], []⟩ := by kernel_rfl
def fxU := And.intro (And.intro (And.intro (@Try.underlying3) (@Try.underlying4)) (And.intro (@Try.underlying5) (And.intro (@Try.underlying9) (@Try.underlying22)))) (And.intro (And.intro (@Try.underlying23) (@Try.underlying28)) (And.intro (@Try.underlying30) (And.intro (@Try.underlying31) (@Try.underlying40))))
def fxSZ := And.intro (And.intro (And.intro (And.intro (@sz3) (@sz4)) (And.intro (@sz5) (And.intro (@sz9) (@sz22)))) (And.intro (And.intro (@sz23) (@sz28)) (And.intro (@sz30) (And.intro (@sz31) (@sz40))))) (And.intro (And.intro (And.intro (@ag3) (@ag4)) (And.intro (@ag5) (And.intro (@ag9) (@ag22)))) (And.intro (And.intro (@ag23) (@ag28)) (And.intro (@ag30) (And.intro (@ag31) (@ag40)))))
def fxZE := And.intro (And.intro (And.intro (@ze3) (@ze4)) (And.intro (@ze5) (And.intro (@ze9) (@ze22)))) (And.intro (And.intro (@ze23) (@ze28)) (And.intro (@ze30) (And.intro (@ze31) (@ze40))))
def fxFA := And.intro (@fa23_0) (And.intro (@fa23_1) (@fa23_2))
theorem fxFE : (undef = undef) = True := noFacts
def fxEL := And.intro (@el28) (@by5)
def fxI := And.intro (And.intro (And.intro (ip3) (And.intro (is3) (ip4))) (And.intro (And.intro (is4) (ip5)) (And.intro (is5) (ip9)))) (And.intro (And.intro (is9) (And.intro (ip30) (is30))) (And.intro (And.intro (ip31) (is31)) (And.intro (ip40) (is40))))
def fxB := And.intro (br4) (ln28)
def fxST := sr9
def fxLEN := And.intro (sl9) (ll28)
def fxIX := si9
def fxSS := ss9
def fxIA := la28
def fxEQ := And.intro (@eq23) (@ne23)
def fxCV := And.intro (And.intro (cv3_5) (cv3_40)) (And.intro (cv5_3) (cv30_3))
def fxMK := mk28
def fxBU := And.intro (And.intro (@bu23_0_1_2) (@bu23_0)) (And.intro (@bu23_) (@bs28_1_0))
end Go.Proofs.Ytoiefffgajddmaa
