/- Closed facts on this seat's program, for the abstract evaluator: written by gen2.py. -/
import Derived.Test.YtafojiikgppdgaaFwG3
import Derived.Test.YtafojiikgppdgaaProg
set_option linter.all false
namespace Go.Proofs.Ytafojiikgppdgaa
open Go.Ab
def prs : FuncId → Nat → List (Nat × Nat)
  | 3, 13 => [(3, 6)]
  | 3, 18 => [(3, 6)]
  | 3, 22 => [(14, 18)]
  | 9, 5 => [(4, 7)]
  | 21, 1 => [(4, 6), (4, 8)]
  | _, _ => []
set_option maxRecDepth 100000 in
theorem prsOk : progOkB Try.prog prs = true := by kernel_rfl
theorem mixed : Try.prog.follows .mixedOrders = true := by kernel_rfl
theorem sz3 : sizeT Try.prog 3 = some 1 := by kernel_rfl
theorem sz4 : sizeT Try.prog 4 = some 1 := by kernel_rfl
theorem sz5 : sizeT Try.prog 5 = some 1 := by kernel_rfl
theorem sz22 : sizeT Try.prog 22 = some 1 := by kernel_rfl
theorem sz24 : sizeT Try.prog 24 = some 1 := by kernel_rfl
theorem sz26 : sizeT Try.prog 26 = some 1 := by kernel_rfl
theorem sz27 : sizeT Try.prog 27 = some 1 := by kernel_rfl
theorem sz28 : sizeT Try.prog 28 = some 1 := by kernel_rfl
theorem sz29 : sizeT Try.prog 29 = some 1 := by kernel_rfl
theorem sz30 : sizeT Try.prog 30 = some 3 := by kernel_rfl
theorem sz31 : sizeT Try.prog 31 = some 3 := by kernel_rfl
theorem sz35 : sizeT Try.prog 35 = some 1 := by kernel_rfl
theorem sz41 : sizeT Try.prog 41 = some 2 := by kernel_rfl
theorem sz42 : sizeT Try.prog 42 = some 2 := by kernel_rfl
theorem sz44 : sizeT Try.prog 44 = some 1 := by kernel_rfl
theorem sz46 : sizeT Try.prog 46 = some 1 := by kernel_rfl
theorem sz48 : sizeT Try.prog 48 = some 1 := by kernel_rfl
theorem sz51 : sizeT Try.prog 51 = some 1 := by kernel_rfl
theorem sz52 : sizeT Try.prog 52 = some 1 := by kernel_rfl
theorem sz53 : sizeT Try.prog 53 = some 1 := by kernel_rfl
theorem sz54 : sizeT Try.prog 54 = some 2 := by kernel_rfl
theorem sz55 : sizeT Try.prog 55 = some 2 := by kernel_rfl
theorem sz65 : sizeT Try.prog 65 = some 1 := by kernel_rfl
theorem ag3 : isAggT Try.prog 3 = some false := by kernel_rfl
theorem ag4 : isAggT Try.prog 4 = some false := by kernel_rfl
theorem ag5 : isAggT Try.prog 5 = some false := by kernel_rfl
theorem ag22 : isAggT Try.prog 22 = some false := by kernel_rfl
theorem ag24 : isAggT Try.prog 24 = some false := by kernel_rfl
theorem ag26 : isAggT Try.prog 26 = some false := by kernel_rfl
theorem ag27 : isAggT Try.prog 27 = some false := by kernel_rfl
theorem ag28 : isAggT Try.prog 28 = some true := by kernel_rfl
theorem ag29 : isAggT Try.prog 29 = some true := by kernel_rfl
theorem ag30 : isAggT Try.prog 30 = some true := by kernel_rfl
theorem ag31 : isAggT Try.prog 31 = some true := by kernel_rfl
theorem ag35 : isAggT Try.prog 35 = some false := by kernel_rfl
theorem ag41 : isAggT Try.prog 41 = some true := by kernel_rfl
theorem ag42 : isAggT Try.prog 42 = some true := by kernel_rfl
theorem ag44 : isAggT Try.prog 44 = some false := by kernel_rfl
theorem ag46 : isAggT Try.prog 46 = some false := by kernel_rfl
theorem ag48 : isAggT Try.prog 48 = some false := by kernel_rfl
theorem ag51 : isAggT Try.prog 51 = some false := by kernel_rfl
theorem ag52 : isAggT Try.prog 52 = some true := by kernel_rfl
theorem ag53 : isAggT Try.prog 53 = some true := by kernel_rfl
theorem ag54 : isAggT Try.prog 54 = some true := by kernel_rfl
theorem ag55 : isAggT Try.prog 55 = some true := by kernel_rfl
theorem ag65 : isAggT Try.prog 65 = some false := by kernel_rfl
theorem ip3 : isPtr Try.prog 3 = false := by kernel_rfl
theorem is3 : isSl Try.prog 3 = false := by kernel_rfl
theorem ze3 : zeroCells? Try.prog 3 = some #[.int .i64 0] := by kernel_rfl
theorem ip4 : isPtr Try.prog 4 = false := by kernel_rfl
theorem is4 : isSl Try.prog 4 = false := by kernel_rfl
theorem ze4 : zeroCells? Try.prog 4 = some #[.bool false] := by kernel_rfl
def br4 := @bool_rules Try.prog 4 Try.underlying4 ip4 is4
theorem ip5 : isPtr Try.prog 5 = false := by kernel_rfl
theorem is5 : isSl Try.prog 5 = false := by kernel_rfl
theorem ze5 : zeroCells? Try.prog 5 = some #[.int .u8 0] := by kernel_rfl
theorem ip22 : isPtr Try.prog 22 = false := by kernel_rfl
theorem is22 : isSl Try.prog 22 = true := by kernel_rfl
theorem ze22 : zeroCells? Try.prog 22 = some #[.slice none 0 0] := by kernel_rfl
theorem el22 : elemT Try.prog 22 = some 31 := by kernel_rfl
def ll22 := @slice_len Try.prog 22 31 Try.underlying22
def ln22 := @slice_nil Try.prog 22 ip22 is22
def la22 := @slice_ia Try.prog 22 31 3 Try.underlying22 sz31
theorem ip24 : isPtr Try.prog 24 = true := by kernel_rfl
theorem is24 : isSl Try.prog 24 = false := by kernel_rfl
theorem ze24 : zeroCells? Try.prog 24 = some #[.pointer none] := by kernel_rfl
def pr24 := @ptr_rules Try.prog 24 ip24
theorem ip26 : isPtr Try.prog 26 = true := by kernel_rfl
theorem is26 : isSl Try.prog 26 = false := by kernel_rfl
theorem ze26 : zeroCells? Try.prog 26 = some #[.pointer none] := by kernel_rfl
def pr26 := @ptr_rules Try.prog 26 ip26
theorem ip27 : isPtr Try.prog 27 = false := by kernel_rfl
theorem is27 : isSl Try.prog 27 = true := by kernel_rfl
theorem ze27 : zeroCells? Try.prog 27 = some #[.slice none 0 0] := by kernel_rfl
theorem el27 : elemT Try.prog 27 = some 42 := by kernel_rfl
def ll27 := @slice_len Try.prog 27 42 Try.underlying27
def ln27 := @slice_nil Try.prog 27 ip27 is27
def la27 := @slice_ia Try.prog 27 42 2 Try.underlying27 sz42
theorem ip28 : isPtr Try.prog 28 = false := by kernel_rfl
theorem is28 : isSl Try.prog 28 = false := by kernel_rfl
theorem ze28 : zeroCells? Try.prog 28 = some #[.slice none 0 0] := by kernel_rfl
theorem ip29 : isPtr Try.prog 29 = false := by kernel_rfl
theorem is29 : isSl Try.prog 29 = false := by kernel_rfl
theorem ze29 : zeroCells? Try.prog 29 = some #[.slice none 0 0] := by kernel_rfl
theorem fa29_0 {b o : Nat} : evFieldAddr Try.prog 29 (.pointer (some ⟨b, o, none⟩)) 0 = some (.pointer (some ⟨b, o + 0, none⟩)) := by kernel_rfl
theorem ip30 : isPtr Try.prog 30 = false := by kernel_rfl
theorem is30 : isSl Try.prog 30 = false := by kernel_rfl
theorem ze30 : zeroCells? Try.prog 30 = some #[.int .i64 0, .int .i64 0, .int .i64 0] := by kernel_rfl
theorem ip31 : isPtr Try.prog 31 = false := by kernel_rfl
theorem is31 : isSl Try.prog 31 = false := by kernel_rfl
theorem ze31 : zeroCells? Try.prog 31 = some #[.int .i64 0, .int .i64 0, .int .i64 0] := by kernel_rfl
theorem fa31_0 {b o : Nat} : evFieldAddr Try.prog 31 (.pointer (some ⟨b, o, none⟩)) 0 = some (.pointer (some ⟨b, o + 0, none⟩)) := by kernel_rfl
theorem fa31_1 {b o : Nat} : evFieldAddr Try.prog 31 (.pointer (some ⟨b, o, none⟩)) 1 = some (.pointer (some ⟨b, o + 1, none⟩)) := by kernel_rfl
theorem fa31_2 {b o : Nat} : evFieldAddr Try.prog 31 (.pointer (some ⟨b, o, none⟩)) 2 = some (.pointer (some ⟨b, o + 2, none⟩)) := by kernel_rfl
theorem ip35 : isPtr Try.prog 35 = false := by kernel_rfl
theorem is35 : isSl Try.prog 35 = true := by kernel_rfl
theorem ze35 : zeroCells? Try.prog 35 = some #[.slice none 0 0] := by kernel_rfl
theorem el35 : elemT Try.prog 35 = some 3 := by kernel_rfl
def ll35 := @slice_len Try.prog 35 3 Try.underlying35
def ln35 := @slice_nil Try.prog 35 ip35 is35
def la35 := @slice_ia Try.prog 35 3 1 Try.underlying35 sz3
theorem ip41 : isPtr Try.prog 41 = false := by kernel_rfl
theorem is41 : isSl Try.prog 41 = false := by kernel_rfl
theorem ze41 : zeroCells? Try.prog 41 = some #[.int .i64 0, .int .i64 0] := by kernel_rfl
theorem ip42 : isPtr Try.prog 42 = false := by kernel_rfl
theorem is42 : isSl Try.prog 42 = false := by kernel_rfl
theorem ze42 : zeroCells? Try.prog 42 = some #[.int .i64 0, .int .i64 0] := by kernel_rfl
theorem fa42_0 {b o : Nat} : evFieldAddr Try.prog 42 (.pointer (some ⟨b, o, none⟩)) 0 = some (.pointer (some ⟨b, o + 0, none⟩)) := by kernel_rfl
theorem fa42_1 {b o : Nat} : evFieldAddr Try.prog 42 (.pointer (some ⟨b, o, none⟩)) 1 = some (.pointer (some ⟨b, o + 1, none⟩)) := by kernel_rfl
theorem ip44 : isPtr Try.prog 44 = false := by kernel_rfl
theorem is44 : isSl Try.prog 44 = false := by kernel_rfl
theorem ze44 : zeroCells? Try.prog 44 = some #[.complex .f64 0 0] := by kernel_rfl
theorem ip46 : isPtr Try.prog 46 = false := by kernel_rfl
theorem is46 : isSl Try.prog 46 = false := by kernel_rfl
theorem ze46 : zeroCells? Try.prog 46 = some #[.float .f64 0] := by kernel_rfl
theorem ip48 : isPtr Try.prog 48 = false := by kernel_rfl
theorem is48 : isSl Try.prog 48 = true := by kernel_rfl
theorem ze48 : zeroCells? Try.prog 48 = some #[.slice none 0 0] := by kernel_rfl
theorem el48 : elemT Try.prog 48 = some 5 := by kernel_rfl
def ll48 := @slice_len Try.prog 48 5 Try.underlying48
def ln48 := @slice_nil Try.prog 48 ip48 is48
def la48 := @slice_ia Try.prog 48 5 1 Try.underlying48 sz5
theorem ip51 : isPtr Try.prog 51 = false := by kernel_rfl
theorem is51 : isSl Try.prog 51 = true := by kernel_rfl
theorem ze51 : zeroCells? Try.prog 51 = some #[.slice none 0 0] := by kernel_rfl
theorem el51 : elemT Try.prog 51 = some 55 := by kernel_rfl
def ll51 := @slice_len Try.prog 51 55 Try.underlying51
def ln51 := @slice_nil Try.prog 51 ip51 is51
def la51 := @slice_ia Try.prog 51 55 2 Try.underlying51 sz55
theorem ip52 : isPtr Try.prog 52 = false := by kernel_rfl
theorem is52 : isSl Try.prog 52 = false := by kernel_rfl
theorem ze52 : zeroCells? Try.prog 52 = some #[.slice none 0 0] := by kernel_rfl
theorem ip53 : isPtr Try.prog 53 = false := by kernel_rfl
theorem is53 : isSl Try.prog 53 = false := by kernel_rfl
theorem ze53 : zeroCells? Try.prog 53 = some #[.slice none 0 0] := by kernel_rfl
theorem fa53_0 {b o : Nat} : evFieldAddr Try.prog 53 (.pointer (some ⟨b, o, none⟩)) 0 = some (.pointer (some ⟨b, o + 0, none⟩)) := by kernel_rfl
theorem ip54 : isPtr Try.prog 54 = false := by kernel_rfl
theorem is54 : isSl Try.prog 54 = false := by kernel_rfl
theorem ze54 : zeroCells? Try.prog 54 = some #[.int .i64 0, .int .i64 0] := by kernel_rfl
theorem ip55 : isPtr Try.prog 55 = false := by kernel_rfl
theorem is55 : isSl Try.prog 55 = false := by kernel_rfl
theorem ze55 : zeroCells? Try.prog 55 = some #[.int .i64 0, .int .i64 0] := by kernel_rfl
theorem fa55_0 {b o : Nat} : evFieldAddr Try.prog 55 (.pointer (some ⟨b, o, none⟩)) 0 = some (.pointer (some ⟨b, o + 0, none⟩)) := by kernel_rfl
theorem fa55_1 {b o : Nat} : evFieldAddr Try.prog 55 (.pointer (some ⟨b, o, none⟩)) 1 = some (.pointer (some ⟨b, o + 1, none⟩)) := by kernel_rfl
theorem ip65 : isPtr Try.prog 65 = false := by kernel_rfl
theorem is65 : isSl Try.prog 65 = false := by kernel_rfl
def cv5_3 := @cv_rule Try.prog 5 3 .u8 .i64 Try.underlying5 Try.underlying3
theorem bu29_  : evBuild Try.prog 29 [] = some (.agg #[.slice none 0 0]) := by kernel_rfl
theorem bu53_  : evBuild Try.prog 53 [] = some (.agg #[.slice none 0 0]) := by kernel_rfl
theorem bu55_0_1 (x0 : Int) (x1 : Int) : evBuild Try.prog 55 [(0, .int .i64 x0), (1, .int .i64 x1)] = some (.agg #[.int .i64 x0, .int .i64 x1]) := by kernel_rfl
theorem bu42_0_1 (x0 : Int) (x1 : Int) : evBuild Try.prog 42 [(0, .int .i64 x0), (1, .int .i64 x1)] = some (.agg #[.int .i64 x0, .int .i64 x1]) := by kernel_rfl
theorem bs51_1_0 (x0_0 : Int) (x0_1 : Int) {nid : Nat} : evBuildSlice Try.prog nid 51 1 [(0, .agg #[.int .i64 x0_0, .int .i64 x0_1])] = some ⟨.slice (some ⟨nid, 0, none⟩) 1 1, [(nid, some (.cells [.int .i64 x0_0, .int .i64 x0_1] 55 true))], []⟩ := by kernel_rfl
theorem bs27_1_0 (x0_0 : Int) (x0_1 : Int) {nid : Nat} : evBuildSlice Try.prog nid 27 1 [(0, .agg #[.int .i64 x0_0, .int .i64 x0_1])] = some ⟨.slice (some ⟨nid, 0, none⟩) 1 1, [(nid, some (.cells [.int .i64 x0_0, .int .i64 x0_1] 42 true))], []⟩ := by kernel_rfl
theorem bs35_1_0 (x0 : Int) {nid : Nat} : evBuildSlice Try.prog nid 35 1 [(0, .int .i64 x0)] = some ⟨.slice (some ⟨nid, 0, none⟩) 1 1, [(nid, some (.cells [.int .i64 x0] 3 true))], []⟩ := by kernel_rfl
theorem bs35_2_0_1 (x0 : Int) (x1 : Int) {nid : Nat} : evBuildSlice Try.prog nid 35 2 [(0, .int .i64 x0), (1, .int .i64 x1)] = some ⟨.slice (some ⟨nid, 0, none⟩) 2 2, [(nid, some (.cells [.int .i64 x0, .int .i64 x1] 3 true))], []⟩ := by kernel_rfl
theorem ap27_27 : AppT Try.prog 27 27 42 2 16 := ⟨by kernel_rfl, ⟨_, Try.underlying27, rfl⟩, by kernel_rfl, by kernel_rfl, ⟨_, ze42, rfl⟩, by decide⟩
theorem ap35_35 : AppT Try.prog 35 35 3 1 8 := ⟨by kernel_rfl, ⟨_, Try.underlying35, rfl⟩, by kernel_rfl, by kernel_rfl, ⟨_, ze3, rfl⟩, by decide⟩
theorem ap51_51 : AppT Try.prog 51 51 55 2 16 := ⟨by kernel_rfl, ⟨_, Try.underlying51, rfl⟩, by kernel_rfl, by kernel_rfl, ⟨_, ze55, rfl⟩, by decide⟩
def fxU := And.intro (And.intro (And.intro (And.intro (@Try.underlying3) (@Try.underlying4)) (And.intro (@Try.underlying5) (And.intro (@Try.underlying22) (@Try.underlying24)))) (And.intro (And.intro (@Try.underlying26) (And.intro (@Try.underlying27) (@Try.underlying28))) (And.intro (@Try.underlying29) (And.intro (@Try.underlying30) (@Try.underlying31))))) (And.intro (And.intro (And.intro (@Try.underlying35) (And.intro (@Try.underlying41) (@Try.underlying42))) (And.intro (@Try.underlying44) (And.intro (@Try.underlying46) (@Try.underlying48)))) (And.intro (And.intro (@Try.underlying51) (And.intro (@Try.underlying52) (@Try.underlying53))) (And.intro (@Try.underlying54) (And.intro (@Try.underlying55) (@Try.underlying65)))))
def fxSZ := And.intro (And.intro (And.intro (And.intro (And.intro (@sz3) (@sz4)) (And.intro (@sz5) (And.intro (@sz22) (@sz24)))) (And.intro (And.intro (@sz26) (And.intro (@sz27) (@sz28))) (And.intro (@sz29) (And.intro (@sz30) (@sz31))))) (And.intro (And.intro (And.intro (@sz35) (And.intro (@sz41) (@sz42))) (And.intro (@sz44) (And.intro (@sz46) (@sz48)))) (And.intro (And.intro (@sz51) (And.intro (@sz52) (@sz53))) (And.intro (@sz54) (And.intro (@sz55) (@sz65)))))) (And.intro (And.intro (And.intro (And.intro (@ag3) (@ag4)) (And.intro (@ag5) (And.intro (@ag22) (@ag24)))) (And.intro (And.intro (@ag26) (And.intro (@ag27) (@ag28))) (And.intro (@ag29) (And.intro (@ag30) (@ag31))))) (And.intro (And.intro (And.intro (@ag35) (And.intro (@ag41) (@ag42))) (And.intro (@ag44) (And.intro (@ag46) (@ag48)))) (And.intro (And.intro (@ag51) (And.intro (@ag52) (@ag53))) (And.intro (@ag54) (And.intro (@ag55) (@ag65))))))
def fxZE := And.intro (And.intro (And.intro (And.intro (@ze3) (@ze4)) (And.intro (@ze5) (And.intro (@ze22) (@ze24)))) (And.intro (And.intro (@ze26) (And.intro (@ze27) (@ze28))) (And.intro (@ze29) (And.intro (@ze30) (@ze31))))) (And.intro (And.intro (And.intro (@ze35) (@ze41)) (And.intro (@ze42) (And.intro (@ze44) (@ze46)))) (And.intro (And.intro (@ze48) (And.intro (@ze51) (@ze52))) (And.intro (@ze53) (And.intro (@ze54) (@ze55)))))
def fxFA := And.intro (And.intro (And.intro (@fa29_0) (@fa31_0)) (And.intro (@fa31_1) (@fa31_2))) (And.intro (And.intro (@fa42_0) (@fa42_1)) (And.intro (@fa53_0) (And.intro (@fa55_0) (@fa55_1))))
theorem fxFE : (undef = undef) = True := noFacts
def fxEL := And.intro (And.intro (@el22) (@el27)) (And.intro (@el35) (And.intro (@el48) (@el51)))
def fxI := And.intro (And.intro (ip3) (And.intro (is3) (ip4))) (And.intro (is4) (And.intro (ip5) (is5)))
def fxB := And.intro (And.intro (And.intro (br4) (ln22)) (And.intro (pr24) (pr26))) (And.intro (And.intro (ln27) (ln35)) (And.intro (ln48) (ln51)))
theorem fxST : (undef = undef) = True := noFacts
def fxLEN := And.intro (And.intro (ll22) (ll27)) (And.intro (ll35) (And.intro (ll48) (ll51)))
theorem fxIX : (undef = undef) = True := noFacts
theorem fxSS : (undef = undef) = True := noFacts
def fxIA := And.intro (And.intro (la22) (la27)) (And.intro (la35) (And.intro (la48) (la51)))
theorem fxEQ : (undef = undef) = True := noFacts
def fxCV := cv5_3
theorem fxMK : (undef = undef) = True := noFacts
def fxBU := And.intro (And.intro (And.intro (@bu29_) (@bu53_)) (And.intro (@bu55_0_1) (@bu42_0_1))) (And.intro (And.intro (@bs51_1_0) (@bs27_1_0)) (And.intro (@bs35_1_0) (@bs35_2_0_1)))
end Go.Proofs.Ytafojiikgppdgaa
