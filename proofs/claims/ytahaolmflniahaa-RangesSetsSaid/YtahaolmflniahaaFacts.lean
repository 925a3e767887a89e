/- Closed facts on this seat's program, for the abstract evaluator: written by gen2.py. -/
import Derived.Test.YtahaolmflniahaaFwG3
import Derived.Test.YtahaolmflniahaaProg
set_option linter.all false
namespace Go.Proofs.Ytahaolmflniahaa
open Go.Ab
def prs : FuncId → Nat → List (Nat × Nat)
  | 3, 15 => [(13, 17)]
  | 4, 28 => [(2, 5)]
  | _, _ => []
set_option maxRecDepth 100000 in
theorem prsOk : progOkB Try.prog prs = true := by kernel_rfl
theorem mixed : Try.prog.follows .mixedOrders = true := by kernel_rfl
theorem sz3 : sizeT Try.prog 3 = some 1 := by kernel_rfl
theorem sz4 : sizeT Try.prog 4 = some 1 := by kernel_rfl
theorem sz5 : sizeT Try.prog 5 = some 1 := by kernel_rfl
theorem sz22 : sizeT Try.prog 22 = some 1 := by kernel_rfl
theorem sz24 : sizeT Try.prog 24 = some 1 := by kernel_rfl
theorem sz26 : sizeT Try.prog 26 = some 1 := by kernel_rfl
theorem sz27 : sizeT Try.prog 27 = some 1 := by kernel_rfl
theorem sz28 : sizeT Try.prog 28 = some 1 := by kernel_rfl
theorem sz29 : sizeT Try.prog 29 = some 1 := by kernel_rfl
theorem sz30 : sizeT Try.prog 30 = some 3 := by kernel_rfl
theorem sz31 : sizeT Try.prog 31 = some 3 := by kernel_rfl
theorem sz40 : sizeT Try.prog 40 = some 2 := by kernel_rfl
theorem sz42 : sizeT Try.prog 42 = some 1 := by kernel_rfl
theorem sz45 : sizeT Try.prog 45 = some 1 := by kernel_rfl
theorem sz46 : sizeT Try.prog 46 = some 300 := by kernel_rfl
theorem sz50 : sizeT Try.prog 50 = some 1 := by kernel_rfl
theorem sz51 : sizeT Try.prog 51 = some 1 := by kernel_rfl
theorem sz59 : sizeT Try.prog 59 = some 1 := by kernel_rfl
theorem ag3 : isAggT Try.prog 3 = some false := by kernel_rfl
theorem ag4 : isAggT Try.prog 4 = some false := by kernel_rfl
theorem ag5 : isAggT Try.prog 5 = some false := by kernel_rfl
theorem ag22 : isAggT Try.prog 22 = some false := by kernel_rfl
theorem ag24 : isAggT Try.prog 24 = some false := by kernel_rfl
theorem ag26 : isAggT Try.prog 26 = some false := by kernel_rfl
theorem ag27 : isAggT Try.prog 27 = some false := by kernel_rfl
theorem ag28 : isAggT Try.prog 28 = some true := by kernel_rfl
theorem ag29 : isAggT Try.prog 29 = some true := by kernel_rfl
theorem ag30 : isAggT Try.prog 30 = some true := by kernel_rfl
theorem ag31 : isAggT Try.prog 31 = some true := by kernel_rfl
theorem ag40 : isAggT Try.prog 40 = some true := by kernel_rfl
theorem ag42 : isAggT Try.prog 42 = some false := by kernel_rfl
theorem ag45 : isAggT Try.prog 45 = some false := by kernel_rfl
theorem ag46 : isAggT Try.prog 46 = some true := by kernel_rfl
theorem ag50 : isAggT Try.prog 50 = some true := by kernel_rfl
theorem ag51 : isAggT Try.prog 51 = some true := by kernel_rfl
theorem ag59 : isAggT Try.prog 59 = some false := by kernel_rfl
theorem ip3 : isPtr Try.prog 3 = false := by kernel_rfl
theorem is3 : isSl Try.prog 3 = false := by kernel_rfl
theorem ze3 : zeroCells? Try.prog 3 = some #[.int .i64 0] := by kernel_rfl
theorem ip4 : isPtr Try.prog 4 = false := by kernel_rfl
theorem is4 : isSl Try.prog 4 = false := by kernel_rfl
theorem ze4 : zeroCells? Try.prog 4 = some #[.bool false] := by kernel_rfl
def br4 := @bool_rules Try.prog 4 Try.underlying4 ip4 is4
theorem ip5 : isPtr Try.prog 5 = false := by kernel_rfl
theorem is5 : isSl Try.prog 5 = false := by kernel_rfl
theorem ze5 : zeroCells? Try.prog 5 = some #[.int .u8 0] := by kernel_rfl
theorem ip22 : isPtr Try.prog 22 = false := by kernel_rfl
theorem is22 : isSl Try.prog 22 = true := by kernel_rfl
theorem ze22 : zeroCells? Try.prog 22 = some #[.slice none 0 0] := by kernel_rfl
theorem el22 : elemT Try.prog 22 = some 31 := by kernel_rfl
def ll22 := @slice_len Try.prog 22 31 Try.underlying22
def ln22 := @slice_nil Try.prog 22 ip22 is22
def la22 := @slice_ia Try.prog 22 31 3 Try.underlying22 sz31
theorem ip24 : isPtr Try.prog 24 = true := by kernel_rfl
theorem is24 : isSl Try.prog 24 = false := by kernel_rfl
theorem ze24 : zeroCells? Try.prog 24 = some #[.pointer none] := by kernel_rfl
def pr24 := @ptr_rules Try.prog 24 ip24
theorem ip26 : isPtr Try.prog 26 = true := by kernel_rfl
theorem is26 : isSl Try.prog 26 = false := by kernel_rfl
theorem ze26 : zeroCells? Try.prog 26 = some #[.pointer none] := by kernel_rfl
def pr26 := @ptr_rules Try.prog 26 ip26
theorem ip27 : isPtr Try.prog 27 = false := by kernel_rfl
theorem is27 : isSl Try.prog 27 = true := by kernel_rfl
theorem ze27 : zeroCells? Try.prog 27 = some #[.slice none 0 0] := by kernel_rfl
theorem el27 : elemT Try.prog 27 = some 40 := by kernel_rfl
def ll27 := @slice_len Try.prog 27 40 Try.underlying27
def ln27 := @slice_nil Try.prog 27 ip27 is27
def la27 := @slice_ia Try.prog 27 40 2 Try.underlying27 sz40
theorem ip28 : isPtr Try.prog 28 = false := by kernel_rfl
theorem is28 : isSl Try.prog 28 = false := by kernel_rfl
theorem ze28 : zeroCells? Try.prog 28 = some #[.slice none 0 0] := by kernel_rfl
theorem ip29 : isPtr Try.prog 29 = false := by kernel_rfl
theorem is29 : isSl Try.prog 29 = false := by kernel_rfl
theorem ze29 : zeroCells? Try.prog 29 = some #[.slice none 0 0] := by kernel_rfl
theorem fa29_0 {b o : Nat} : evFieldAddr Try.prog 29 (.pointer (some ⟨b, o, none⟩)) 0 = some (.pointer (some ⟨b, o + 0, none⟩)) := by kernel_rfl
theorem ip30 : isPtr Try.prog 30 = false := by kernel_rfl
theorem is30 : isSl Try.prog 30 = false := by kernel_rfl
theorem ze30 : zeroCells? Try.prog 30 = some #[.bool false, .int .i64 0, .int .i64 0] := by kernel_rfl
theorem ip31 : isPtr Try.prog 31 = false := by kernel_rfl
theorem is31 : isSl Try.prog 31 = false := by kernel_rfl
theorem ze31 : zeroCells? Try.prog 31 = some #[.bool false, .int .i64 0, .int .i64 0] := by kernel_rfl
theorem fa31_0 {b o : Nat} : evFieldAddr Try.prog 31 (.pointer (some ⟨b, o, none⟩)) 0 = some (.pointer (some ⟨b, o + 0, none⟩)) := by kernel_rfl
theorem fa31_1 {b o : Nat} : evFieldAddr Try.prog 31 (.pointer (some ⟨b, o, none⟩)) 1 = some (.pointer (some ⟨b, o + 1, none⟩)) := by kernel_rfl
theorem fa31_2 {b o : Nat} : evFieldAddr Try.prog 31 (.pointer (some ⟨b, o, none⟩)) 2 = some (.pointer (some ⟨b, o + 2, none⟩)) := by kernel_rfl
theorem ip40 : isPtr Try.prog 40 = false := by kernel_rfl
theorem is40 : isSl Try.prog 40 = false := by kernel_rfl
theorem ze40 : zeroCells? Try.prog 40 = some #[.int .i64 0, .int .i64 0] := by kernel_rfl
def al40 := @array_len Try.prog 40 3 2 Try.underlying40
def aa40 := @array_ia Try.prog 40 3 2 1 Try.underlying40 sz3
def ai40 := @array_ix Try.prog 40 3 2 1 Try.underlying40 sz3 ag3
theorem eq40 (a0 b0 : Int) (a1 b1 : Int) {xo yo : Operand} : evBin Try.prog .eql 40 xo yo (.agg #[.int .i64 a0, .int .i64 a1]) (.agg #[.int .i64 b0, .int .i64 b1]) = some (.bool (((a0 == b0) && ((a1 == b1) && true)))) := eq_agg 10 ip40 is40 (by kernel_rfl) (by kernel_rfl) (by kernel_rfl) (by kernel_rfl)
theorem ne40 (a0 b0 : Int) (a1 b1 : Int) {xo yo : Operand} : evBin Try.prog .neq 40 xo yo (.agg #[.int .i64 a0, .int .i64 a1]) (.agg #[.int .i64 b0, .int .i64 b1]) = some (.bool (!(((a0 == b0) && ((a1 == b1) && true))))) := ne_agg 10 ip40 is40 (by kernel_rfl) (by kernel_rfl) (by kernel_rfl) (by kernel_rfl)
theorem ip42 : isPtr Try.prog 42 = false := by kernel_rfl
theorem is42 : isSl Try.prog 42 = true := by kernel_rfl
theorem ze42 : zeroCells? Try.prog 42 = some #[.slice none 0 0] := by kernel_rfl
theorem el42 : elemT Try.prog 42 = some 3 := by kernel_rfl
def ll42 := @slice_len Try.prog 42 3 Try.underlying42
def ln42 := @slice_nil Try.prog 42 ip42 is42
def la42 := @slice_ia Try.prog 42 3 1 Try.underlying42 sz3
theorem ip45 : isPtr Try.prog 45 = false := by kernel_rfl
theorem is45 : isSl Try.prog 45 = true := by kernel_rfl
theorem ze45 : zeroCells? Try.prog 45 = some #[.slice none 0 0] := by kernel_rfl
theorem el45 : elemT Try.prog 45 = some 5 := by kernel_rfl
def ll45 := @slice_len Try.prog 45 5 Try.underlying45
def ln45 := @slice_nil Try.prog 45 ip45 is45
def la45 := @slice_ia Try.prog 45 5 1 Try.underlying45 sz5
theorem ip46 : isPtr Try.prog 46 = false := by kernel_rfl
theorem is46 : isSl Try.prog 46 = false := by kernel_rfl
theorem ze46 : zeroCells? Try.prog 46 = some #[.bool false, .bool false, .bool false, .bool false, .bool false, .bool false, .bool false, .bool false, .bool false, .bool false, .bool false, .bool false, .bool false, .bool false, .bool false, .bool false, .bool false, .bool false, .bool false, .bool false, .bool false, .bool false, .bool false, .bool false, .bool false, .bool false, .bool false, .bool false, .bool false, .bool false, .bool false, .bool false, .bool false, .bool false, .bool false, .bool false, .bool false, .bool false, .bool false, .bool false, .bool false, .bool false, .bool false, .bool false, .bool false, .bool false, .bool false, .bool false, .bool false, .bool false, .bool false, .bool false, .bool false, .bool false, .bool false, .bool false, .bool false, .bool false, .bool false, .bool false, .bool false, .bool false, .bool false, .bool false, .bool false, .bool false, .bool false, .bool false, .bool false, .bool false, .bool false, .bool false, .bool false, .bool false, .bool false, .bool false, .bool false, .bool false, .bool false, .bool false, .bool false, .bool false, .bool false, .bool false, .bool false, .bool false, .bool false, .bool false, .bool false, .bool false, .bool false, .bool false, .bool false, .bool false, .bool false, .bool false, .bool false, .bool false, .bool false, .bool false, .bool false, .bool false, .bool false, .bool false, .bool false, .bool false, .bool false, .bool false, .bool false, .bool false, .bool false, .bool false, .bool false, .bool false, .bool false, .bool false, .bool false, .bool false, .bool false, .bool false, .bool false, .bool false, .bool false, .bool false, .bool false, .bool false, .bool false, .bool false, .bool false, .bool false, .bool false, .bool false, .bool false, .bool false, .bool false, .bool false, .bool false, .bool false, .bool false, .bool false, .bool false, .bool false, .bool false, .bool false, .bool false, .bool false, .bool false, .bool false, .bool false, .bool false, .bool false, .bool false, .bool false, .bool false, .bool false, .bool false, .bool false, .bool false, .bool false, .bool false, .bool false, .bool false, .bool false, .bool false, .bool false, .bool false, .bool false, .bool false, .bool false, .bool false, .bool false, .bool false, .bool false, .bool false, .bool false, .bool false, .bool false, .bool false, .bool false, .bool false, .bool false, .bool false, .bool false, .bool false, .bool false, .bool false, .bool false, .bool false, .bool false, .bool false, .bool false, .bool false, .bool false, .bool false, .bool false, .bool false, .bool false, .bool false, .bool false, .bool false, .bool false, .bool false, .bool false, .bool false, .bool false, .bool false, .bool false, .bool false, .bool false, .bool false, .bool false, .bool false, .bool false, .bool false, .bool false, .bool false, .bool false, .bool false, .bool false, .bool false, .bool false, .bool false, .bool false, .bool false, .bool false, .bool false, .bool false, .bool false, .bool false, .bool false, .bool false, .bool false, .bool false, .bool false, .bool false, .bool false, .bool false, .bool false, .bool false, .bool false, .bool false, .bool false, .bool false, .bool false, .bool false, .bool false, .bool false, .bool false, .bool false, .bool false, .bool false, .bool false, .bool false, .bool false, .bool false, .bool false, .bool false, .bool false, .bool false, .bool false, .bool false, .bool false, .bool false, .bool false, .bool false, .bool false, .bool false, .bool false, .bool false, .bool false, .bool false, .bool false, .bool false, .bool false, .bool false, .bool false, .bool false, .bool false, .bool false, .bool false, .bool false, .bool false, .bool false, .bool false, .bool false, .bool false, .bool false, .bool false, .bool false, .bool false, .bool false, .bool false, .bool false, .bool false, .bool false, .bool false, .bool false, .bool false, .bool false, .bool false] := by kernel_rfl
def al46 := @array_len Try.prog 46 4 300 Try.underlying46
def aa46 := @array_ia Try.prog 46 4 300 1 Try.underlying46 sz4
def ai46 := @array_ix Try.prog 46 4 300 1 Try.underlying46 sz4 ag4
theorem ip50 : isPtr Try.prog 50 = false := by kernel_rfl
theorem is50 : isSl Try.prog 50 = false := by kernel_rfl
theorem ze50 : zeroCells? Try.prog 50 = some #[.slice none 0 0] := by kernel_rfl
theorem ip51 : isPtr Try.prog 51 = false := by kernel_rfl
theorem is51 : isSl Try.prog 51 = false := by kernel_rfl
theorem ze51 : zeroCells? Try.prog 51 = some #[.slice none 0 0] := by kernel_rfl
theorem fa51_0 {b o : Nat} : evFieldAddr Try.prog 51 (.pointer (some ⟨b, o, none⟩)) 0 = some (.pointer (some ⟨b, o + 0, none⟩)) := by kernel_rfl
theorem ip59 : isPtr Try.prog 59 = false := by kernel_rfl
theorem is59 : isSl Try.prog 59 = false := by kernel_rfl
def cv5_3 := @cv_rule Try.prog 5 3 .u8 .i64 Try.underlying5 Try.underlying3
theorem bu29_  : evBuild Try.prog 29 [] = some (.agg #[.slice none 0 0]) := by kernel_rfl
theorem bu40_0_1 (x0 : Int) (x1 : Int) : evBuild Try.prog 40 [(0, .int .i64 x0), (1, .int .i64 x1)] = some (.agg #[.int .i64 x0, .int .i64 x1]) := by kernel_rfl
theorem bu51_  : evBuild Try.prog 51 [] = some (.agg #[.slice none 0 0]) := by kernel_rfl
theorem bs27_1_0 (x0_0 : Int) (x0_1 : Int) {nid : Nat} : evBuildSlice Try.prog nid 27 1 [(0, .agg #[.int .i64 x0_0, .int .i64 x0_1])] = some ⟨.slice (some ⟨nid, 0, none⟩) 1 1, [(nid, some (.cells [.int .i64 x0_0, .int .i64 x0_1] 40 true))], []⟩ := by kernel_rfl
theorem bs42_1_0 (x0 : Int) {nid : Nat} : evBuildSlice Try.prog nid 42 1 [(0, .int .i64 x0)] = some ⟨.slice (some ⟨nid, 0, none⟩) 1 1, [(nid, some (.cells [.int .i64 x0] 3 true))], []⟩ := by kernel_rfl
theorem bs27_2_0_1 (x0_0 : Int) (x0_1 : Int) (x1_0 : Int) (x1_1 : Int) {nid : Nat} : evBuildSlice Try.prog nid 27 2 [(0, .agg #[.int .i64 x0_0, .int .i64 x0_1]), (1, .agg #[.int .i64 x1_0, .int .i64 x1_1])] = some ⟨.slice (some ⟨nid, 0, none⟩) 2 2, [(nid, some (.cells [.int .i64 x0_0, .int .i64 x0_1, .int .i64 x1_0, .int .i64 x1_1] 40 true))], []⟩ := by kernel_rfl
theorem bs27_0_  {nid : Nat} : evBuildSlice Try.prog nid 27 0 [] = some ⟨.slice (some ⟨nid, 0, none⟩) 0 0, [(nid, some (.cells [] 40 true))], []⟩ := by kernel_rfl
theorem ap27_27 : AppT Try.prog 27 27 40 2 16 := ⟨by kernel_rfl, ⟨_, Try.underlying27, rfl⟩, by kernel_rfl, by kernel_rfl, ⟨_, ze40, rfl⟩, by decide⟩
theorem ap42_42 : AppT Try.prog 42 42 3 1 8 := ⟨by kernel_rfl, ⟨_, Try.underlying42, rfl⟩, by kernel_rfl, by kernel_rfl, ⟨_, ze3, rfl⟩, by decide⟩
def fxU := And.intro (And.intro (And.intro (And.intro (@Try.underlying3) (@Try.underlying4)) (And.intro (@Try.underlying5) (@Try.underlying22))) (And.intro (And.intro (@Try.underlying24) (@Try.underlying26)) (And.intro (@Try.underlying27) (And.intro (@Try.underlying28) (@Try.underlying29))))) (And.intro (And.intro (And.intro (@Try.underlying30) (@Try.underlying31)) (And.intro (@Try.underlying40) (@Try.underlying42))) (And.intro (And.intro (@Try.underlying45) (@Try.underlying46)) (And.intro (@Try.underlying50) (And.intro (@Try.underlying51) (@Try.underlying59)))))
def fxSZ := And.intro (And.intro (And.intro (And.intro (And.intro (@sz3) (@sz4)) (And.intro (@sz5) (@sz22))) (And.intro (And.intro (@sz24) (@sz26)) (And.intro (@sz27) (And.intro (@sz28) (@sz29))))) (And.intro (And.intro (And.intro (@sz30) (@sz31)) (And.intro (@sz40) (@sz42))) (And.intro (And.intro (@sz45) (@sz46)) (And.intro (@sz50) (And.intro (@sz51) (@sz59)))))) (And.intro (And.intro (And.intro (And.intro (@ag3) (@ag4)) (And.intro (@ag5) (@ag22))) (And.intro (And.intro (@ag24) (@ag26)) (And.intro (@ag27) (And.intro (@ag28) (@ag29))))) (And.intro (And.intro (And.intro (@ag30) (@ag31)) (And.intro (@ag40) (@ag42))) (And.intro (And.intro (@ag45) (@ag46)) (And.intro (@ag50) (And.intro (@ag51) (@ag59))))))
def fxZE := And.intro (And.intro (And.intro (And.intro (@ze3) (@ze4)) (And.intro (@ze5) (@ze22))) (And.intro (And.intro (@ze24) (@ze26)) (And.intro (@ze27) (@ze28)))) (And.intro (And.intro (And.intro (@ze29) (@ze30)) (And.intro (@ze31) (@ze40))) (And.intro (And.intro (@ze42) (@ze45)) (And.intro (@ze46) (And.intro (@ze50) (@ze51)))))
def fxFA := And.intro (And.intro (@fa29_0) (@fa31_0)) (And.intro (@fa31_1) (And.intro (@fa31_2) (@fa51_0)))
theorem fxFE : (undef = undef) = True := noFacts
def fxEL := And.intro (And.intro (@el22) (@el27)) (And.intro (@el42) (@el45))
def fxI := And.intro (And.intro (ip3) (And.intro (is3) (ip4))) (And.intro (is4) (And.intro (ip5) (is5)))
def fxB := And.intro (And.intro (br4) (And.intro (ln22) (pr24))) (And.intro (And.intro (pr26) (ln27)) (And.intro (ln42) (ln45)))
theorem fxST : (undef = undef) = True := noFacts
def fxLEN := And.intro (And.intro (ll22) (And.intro (ll27) (al40))) (And.intro (ll42) (And.intro (ll45) (al46)))
def fxIX := And.intro (ai40) (ai46)
theorem fxSS : (undef = undef) = True := noFacts
def fxIA := And.intro (And.intro (la22) (And.intro (la27) (aa40))) (And.intro (la42) (And.intro (la45) (aa46)))
def fxEQ := And.intro (@eq40) (@ne40)
def fxCV := cv5_3
theorem fxMK : (undef = undef) = True := noFacts
def fxBU := And.intro (And.intro (@bu29_) (And.intro (@bu40_0_1) (@bu51_))) (And.intro (And.intro (@bs27_1_0) (@bs42_1_0)) (And.intro (@bs27_2_0_1) (@bs27_0_)))
end Go.Proofs.Ytahaolmflniahaa
