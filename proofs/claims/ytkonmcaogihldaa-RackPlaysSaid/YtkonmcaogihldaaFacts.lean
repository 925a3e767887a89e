/- Closed facts on this seat's program, for the abstract evaluator: written by gen2.py. -/
import Derived.Test.YtkonmcaogihldaaFwG3
import Derived.Test.YtkonmcaogihldaaProg
set_option linter.all false
namespace Go.Proofs.Ytkonmcaogihldaa
open Go.Ab
def prs : FuncId → Nat → List (Nat × Nat)
  | 9, 6 => [(4, 7)]
  | 16, 1 => [(3, 7)]
  | 20, 3 => [(3, 13), (7, 13), (12, 13)]
  | _, _ => []
set_option maxRecDepth 100000 in
theorem prsOk : progOkB Try.prog prs = true := by kernel_rfl
theorem mixed : Try.prog.follows .mixedOrders = true := by kernel_rfl
theorem sz3 : sizeT Try.prog 3 = some 1 := by kernel_rfl
theorem sz4 : sizeT Try.prog 4 = some 1 := by kernel_rfl
theorem sz5 : sizeT Try.prog 5 = some 1 := by kernel_rfl
theorem sz9 : sizeT Try.prog 9 = some 1 := by kernel_rfl
theorem sz22 : sizeT Try.prog 22 = some 1 := by kernel_rfl
theorem sz24 : sizeT Try.prog 24 = some 1 := by kernel_rfl
theorem sz26 : sizeT Try.prog 26 = some 1 := by kernel_rfl
theorem sz27 : sizeT Try.prog 27 = some 10 := by kernel_rfl
theorem sz28 : sizeT Try.prog 28 = some 10 := by kernel_rfl
theorem sz29 : sizeT Try.prog 29 = some 1 := by kernel_rfl
theorem sz33 : sizeT Try.prog 33 = some 1 := by kernel_rfl
theorem sz34 : sizeT Try.prog 34 = some 11 := by kernel_rfl
theorem sz35 : sizeT Try.prog 35 = some 11 := by kernel_rfl
theorem sz49 : sizeT Try.prog 49 = some 1 := by kernel_rfl
theorem sz50 : sizeT Try.prog 50 = some 1 := by kernel_rfl
theorem ag3 : isAggT Try.prog 3 = some false := by kernel_rfl
theorem ag4 : isAggT Try.prog 4 = some false := by kernel_rfl
theorem ag5 : isAggT Try.prog 5 = some false := by kernel_rfl
theorem ag9 : isAggT Try.prog 9 = some false := by kernel_rfl
theorem ag22 : isAggT Try.prog 22 = some false := by kernel_rfl
theorem ag24 : isAggT Try.prog 24 = some false := by kernel_rfl
theorem ag26 : isAggT Try.prog 26 = some false := by kernel_rfl
theorem ag27 : isAggT Try.prog 27 = some true := by kernel_rfl
theorem ag28 : isAggT Try.prog 28 = some true := by kernel_rfl
theorem ag29 : isAggT Try.prog 29 = some false := by kernel_rfl
theorem ag33 : isAggT Try.prog 33 = some false := by kernel_rfl
theorem ag34 : isAggT Try.prog 34 = some true := by kernel_rfl
theorem ag35 : isAggT Try.prog 35 = some true := by kernel_rfl
theorem ag49 : isAggT Try.prog 49 = some true := by kernel_rfl
theorem ag50 : isAggT Try.prog 50 = some true := by kernel_rfl
theorem ip3 : isPtr Try.prog 3 = false := by kernel_rfl
theorem is3 : isSl Try.prog 3 = false := by kernel_rfl
theorem ze3 : zeroCells? Try.prog 3 = some #[.int .i64 0] := by kernel_rfl
theorem ip4 : isPtr Try.prog 4 = false := by kernel_rfl
theorem is4 : isSl Try.prog 4 = false := by kernel_rfl
theorem ze4 : zeroCells? Try.prog 4 = some #[.bool false] := by kernel_rfl
def br4 := @bool_rules Try.prog 4 Try.underlying4 ip4 is4
theorem ip5 : isPtr Try.prog 5 = false := by kernel_rfl
theorem is5 : isSl Try.prog 5 = false := by kernel_rfl
theorem ze5 : zeroCells? Try.prog 5 = some #[.int .u8 0] := by kernel_rfl
theorem ip9 : isPtr Try.prog 9 = false := by kernel_rfl
theorem is9 : isSl Try.prog 9 = false := by kernel_rfl
theorem ze9 : zeroCells? Try.prog 9 = some #[.string ⟨#[]⟩] := by kernel_rfl
def sr9 := @str_rules2 Try.prog 9 Try.underlying9 ip9 is9
def sl9 := @str_len Try.prog 9 Try.underlying9
def si9 := @str_ix Try.prog 9 Try.underlying9
def ss9 := @str_sl Try.prog 9 Try.underlying9 ip9 is9
theorem ip22 : isPtr Try.prog 22 = false := by kernel_rfl
theorem is22 : isSl Try.prog 22 = true := by kernel_rfl
theorem ze22 : zeroCells? Try.prog 22 = some #[.slice none 0 0] := by kernel_rfl
theorem el22 : elemT Try.prog 22 = some 5 := by kernel_rfl
def ll22 := @slice_len Try.prog 22 5 Try.underlying22
def ln22 := @slice_nil Try.prog 22 ip22 is22
def la22 := @slice_ia Try.prog 22 5 1 Try.underlying22 sz5
theorem ip24 : isPtr Try.prog 24 = true := by kernel_rfl
theorem is24 : isSl Try.prog 24 = false := by kernel_rfl
theorem ze24 : zeroCells? Try.prog 24 = some #[.pointer none] := by kernel_rfl
def pr24 := @ptr_rules Try.prog 24 ip24
theorem ip26 : isPtr Try.prog 26 = false := by kernel_rfl
theorem is26 : isSl Try.prog 26 = false := by kernel_rfl
theorem ip27 : isPtr Try.prog 27 = false := by kernel_rfl
theorem is27 : isSl Try.prog 27 = false := by kernel_rfl
theorem ze27 : zeroCells? Try.prog 27 = some #[.int .i64 0, .int .i64 0, .int .i64 0, .string ⟨#[]⟩, .string ⟨#[]⟩, .int .i64 0, .int .i64 0, .int .i64 0, .bool false, .int .i64 0] := by kernel_rfl
theorem ip28 : isPtr Try.prog 28 = false := by kernel_rfl
theorem is28 : isSl Try.prog 28 = false := by kernel_rfl
theorem ze28 : zeroCells? Try.prog 28 = some #[.int .i64 0, .int .i64 0, .int .i64 0, .string ⟨#[]⟩, .string ⟨#[]⟩, .int .i64 0, .int .i64 0, .int .i64 0, .bool false, .int .i64 0] := by kernel_rfl
theorem fa28_0 {b o : Nat} : evFieldAddr Try.prog 28 (.pointer (some ⟨b, o, none⟩)) 0 = some (.pointer (some ⟨b, o + 0, none⟩)) := by kernel_rfl
theorem fa28_5 {b o : Nat} : evFieldAddr Try.prog 28 (.pointer (some ⟨b, o, none⟩)) 5 = some (.pointer (some ⟨b, o + 5, none⟩)) := by kernel_rfl
theorem fa28_7 {b o : Nat} : evFieldAddr Try.prog 28 (.pointer (some ⟨b, o, none⟩)) 7 = some (.pointer (some ⟨b, o + 7, none⟩)) := by kernel_rfl
theorem eq28 (a0 b0 : Int) (a1 b1 : Int) (a2 b2 : Int) (a3 b3 : ByteArray) (a4 b4 : ByteArray) (a5 b5 : Int) (a6 b6 : Int) (a7 b7 : Int) (a8 b8 : Bool) (a9 b9 : Int) {xo yo : Operand} : evBin Try.prog .eql 28 xo yo (.agg #[.int .i64 a0, .int .i64 a1, .int .i64 a2, .string a3, .string a4, .int .i64 a5, .int .i64 a6, .int .i64 a7, .bool a8, .int .i64 a9]) (.agg #[.int .i64 b0, .int .i64 b1, .int .i64 b2, .string b3, .string b4, .int .i64 b5, .int .i64 b6, .int .i64 b7, .bool b8, .int .i64 b9]) = some (.bool (((a0 == b0) && ((a1 == b1) && ((a2 == b2) && ((a3 == b3) && ((a4 == b4) && ((a5 == b5) && ((a6 == b6) && ((a7 == b7) && ((a8 == b8) && ((a9 == b9) && true)))))))))))) := eq_agg 10 ip28 is28 (by kernel_rfl) (by kernel_rfl) (by kernel_rfl) (by kernel_rfl)
theorem ne28 (a0 b0 : Int) (a1 b1 : Int) (a2 b2 : Int) (a3 b3 : ByteArray) (a4 b4 : ByteArray) (a5 b5 : Int) (a6 b6 : Int) (a7 b7 : Int) (a8 b8 : Bool) (a9 b9 : Int) {xo yo : Operand} : evBin Try.prog .neq 28 xo yo (.agg #[.int .i64 a0, .int .i64 a1, .int .i64 a2, .string a3, .string a4, .int .i64 a5, .int .i64 a6, .int .i64 a7, .bool a8, .int .i64 a9]) (.agg #[.int .i64 b0, .int .i64 b1, .int .i64 b2, .string b3, .string b4, .int .i64 b5, .int .i64 b6, .int .i64 b7, .bool b8, .int .i64 b9]) = some (.bool (!(((a0 == b0) && ((a1 == b1) && ((a2 == b2) && ((a3 == b3) && ((a4 == b4) && ((a5 == b5) && ((a6 == b6) && ((a7 == b7) && ((a8 == b8) && ((a9 == b9) && true))))))))))))) := ne_agg 10 ip28 is28 (by kernel_rfl) (by kernel_rfl) (by kernel_rfl) (by kernel_rfl)
theorem ip29 : isPtr Try.prog 29 = false := by kernel_rfl
theorem is29 : isSl Try.prog 29 = true := by kernel_rfl
theorem ze29 : zeroCells? Try.prog 29 = some #[.slice none 0 0] := by kernel_rfl
theorem el29 : elemT Try.prog 29 = some 28 := by kernel_rfl
def ll29 := @slice_len Try.prog 29 28 Try.underlying29
def ln29 := @slice_nil Try.prog 29 ip29 is29
def la29 := @slice_ia Try.prog 29 28 10 Try.underlying29 sz28
theorem ip33 : isPtr Try.prog 33 = false := by kernel_rfl
theorem is33 : isSl Try.prog 33 = true := by kernel_rfl
theorem ze33 : zeroCells? Try.prog 33 = some #[.slice none 0 0] := by kernel_rfl
theorem el33 : elemT Try.prog 33 = some 35 := by kernel_rfl
def ll33 := @slice_len Try.prog 33 35 Try.underlying33
def ln33 := @slice_nil Try.prog 33 ip33 is33
def la33 := @slice_ia Try.prog 33 35 11 Try.underlying33 sz35
theorem ip34 : isPtr Try.prog 34 = false := by kernel_rfl
theorem is34 : isSl Try.prog 34 = false := by kernel_rfl
theorem ze34 : zeroCells? Try.prog 34 = some #[.int .i64 0, .int .i64 0, .int .i64 0, .int .i64 0, .string ⟨#[]⟩, .string ⟨#[]⟩, .int .i64 0, .int .i64 0, .int .i64 0, .bool false, .int .i64 0] := by kernel_rfl
theorem ip35 : isPtr Try.prog 35 = false := by kernel_rfl
theorem is35 : isSl Try.prog 35 = false := by kernel_rfl
theorem ze35 : zeroCells? Try.prog 35 = some #[.int .i64 0, .int .i64 0, .int .i64 0, .int .i64 0, .string ⟨#[]⟩, .string ⟨#[]⟩, .int .i64 0, .int .i64 0, .int .i64 0, .bool false, .int .i64 0] := by kernel_rfl
theorem fa35_0 {b o : Nat} : evFieldAddr Try.prog 35 (.pointer (some ⟨b, o, none⟩)) 0 = some (.pointer (some ⟨b, o + 0, none⟩)) := by kernel_rfl
theorem fa35_1 {b o : Nat} : evFieldAddr Try.prog 35 (.pointer (some ⟨b, o, none⟩)) 1 = some (.pointer (some ⟨b, o + 1, none⟩)) := by kernel_rfl
theorem ip49 : isPtr Try.prog 49 = false := by kernel_rfl
theorem is49 : isSl Try.prog 49 = false := by kernel_rfl
theorem ze49 : zeroCells? Try.prog 49 = some #[.slice none 0 0] := by kernel_rfl
theorem ip50 : isPtr Try.prog 50 = false := by kernel_rfl
theorem is50 : isSl Try.prog 50 = false := by kernel_rfl
theorem ze50 : zeroCells? Try.prog 50 = some #[.slice none 0 0] := by kernel_rfl
theorem fa50_0 {b o : Nat} : evFieldAddr Try.prog 50 (.pointer (some ⟨b, o, none⟩)) 0 = some (.pointer (some ⟨b, o + 0, none⟩)) := by kernel_rfl
def cv5_3 := @cv_rule Try.prog 5 3 .u8 .i64 Try.underlying5 Try.underlying3
theorem bu28_0_5_7 (x0 : Int) (x5 : Int) (x7 : Int) : evBuild Try.prog 28 [(0, .int .i64 x0), (5, .int .i64 x5), (7, .int .i64 x7)] = some (.agg #[.int .i64 x0, .int .i64 0, .int .i64 0, .string ⟨#[]⟩, .string ⟨#[]⟩, .int .i64 x5, .int .i64 0, .int .i64 x7, .bool false, .int .i64 0]) := by kernel_rfl
theorem bu28_0_5 (x0 : Int) (x5 : Int) : evBuild Try.prog 28 [(0, .int .i64 x0), (5, .int .i64 x5)] = some (.agg #[.int .i64 x0, .int .i64 0, .int .i64 0, .string ⟨#[]⟩, .string ⟨#[]⟩, .int .i64 x5, .int .i64 0, .int .i64 0, .bool false, .int .i64 0]) := by kernel_rfl
theorem bu28_5 (x5 : Int) : evBuild Try.prog 28 [(5, .int .i64 x5)] = some (.agg #[.int .i64 0, .int .i64 0, .int .i64 0, .string ⟨#[]⟩, .string ⟨#[]⟩, .int .i64 x5, .int .i64 0, .int .i64 0, .bool false, .int .i64 0]) := by kernel_rfl
theorem bu28_0 (x0 : Int) : evBuild Try.prog 28 [(0, .int .i64 x0)] = some (.agg #[.int .i64 x0, .int .i64 0, .int .i64 0, .string ⟨#[]⟩, .string ⟨#[]⟩, .int .i64 0, .int .i64 0, .int .i64 0, .bool false, .int .i64 0]) := by kernel_rfl
theorem bu50_  : evBuild Try.prog 50 [] = some (.agg #[.slice none 0 0]) := by kernel_rfl
theorem bu28_  : evBuild Try.prog 28 [] = some (.agg #[.int .i64 0, .int .i64 0, .int .i64 0, .string ⟨#[]⟩, .string ⟨#[]⟩, .int .i64 0, .int .i64 0, .int .i64 0, .bool false, .int .i64 0]) := by kernel_rfl
theorem bs29_1_0 (x0_0 : Int) (x0_1 : Int) (x0_2 : Int) (x0_3 : ByteArray) (x0_4 : ByteArray) (x0_5 : Int) (x0_6 : Int) (x0_7 : Int) (x0_8 : Bool) (x0_9 : Int) {nid : Nat} : evBuildSlice Try.prog nid 29 1 [(0, .agg #[.int .i64 x0_0, .int .i64 x0_1, .int .i64 x0_2, .string x0_3, .string x0_4, .int .i64 x0_5, .int .i64 x0_6, .int .i64 x0_7, .bool x0_8, .int .i64 x0_9])] = some ⟨.slice (some ⟨nid, 0, none⟩) 1 1, [(nid, some (.cells [.int .i64 x0_0, .int .i64 x0_1, .int .i64 x0_2, .string x0_3, .string x0_4, .int .i64 x0_5, .int .i64 x0_6, .int .i64 x0_7, .bool x0_8, .int .i64 x0_9] 28 true))], []⟩ := by kernel_rfl
theorem bs29_0_  {nid : Nat} : evBuildSlice Try.prog nid 29 0 [] = some ⟨.slice (some ⟨nid, 0, none⟩) 0 0, [(nid, some (.cells [] 28 true))], []⟩ := by kernel_rfl
theorem ap29_29 : AppT Try.prog 29 29 28 10 96 := ⟨by kernel_rfl, ⟨_, Try.underlying29, rfl⟩, by kernel_rfl, by kernel_rfl, ⟨_, ze28, rfl⟩, by decide⟩
def fxU := And.intro (And.intro (And.intro (@Try.underlying3) (And.intro (@Try.underlying4) (@Try.underlying5))) (And.intro (And.intro (@Try.underlying9) (@Try.underlying22)) (And.intro (@Try.underlying24) (@Try.underlying26)))) (And.intro (And.intro (And.intro (@Try.underlying27) (@Try.underlying28)) (And.intro (@Try.underlying29) (@Try.underlying33))) (And.intro (And.intro (@Try.underlying34) (@Try.underlying35)) (And.intro (@Try.underlying49) (@Try.underlying50))))
def fxSZ := And.intro (And.intro (And.intro (And.intro (@sz3) (And.intro (@sz4) (@sz5))) (And.intro (And.intro (@sz9) (@sz22)) (And.intro (@sz24) (@sz26)))) (And.intro (And.intro (And.intro (@sz27) (@sz28)) (And.intro (@sz29) (@sz33))) (And.intro (And.intro (@sz34) (@sz35)) (And.intro (@sz49) (@sz50))))) (And.intro (And.intro (And.intro (@ag3) (And.intro (@ag4) (@ag5))) (And.intro (And.intro (@ag9) (@ag22)) (And.intro (@ag24) (@ag26)))) (And.intro (And.intro (And.intro (@ag27) (@ag28)) (And.intro (@ag29) (@ag33))) (And.intro (And.intro (@ag34) (@ag35)) (And.intro (@ag49) (@ag50)))))
def fxZE := And.intro (And.intro (And.intro (@ze3) (And.intro (@ze4) (@ze5))) (And.intro (And.intro (@ze9) (@ze22)) (And.intro (@ze24) (@ze27)))) (And.intro (And.intro (@ze28) (And.intro (@ze29) (@ze33))) (And.intro (And.intro (@ze34) (@ze35)) (And.intro (@ze49) (@ze50))))
def fxFA := And.intro (And.intro (@fa28_0) (And.intro (@fa28_5) (@fa28_7))) (And.intro (@fa35_0) (And.intro (@fa35_1) (@fa50_0)))
theorem fxFE : (undef = undef) = True := noFacts
def fxEL := And.intro (@el22) (And.intro (@el29) (@el33))
def fxI := And.intro (And.intro (And.intro (ip3) (is3)) (And.intro (ip4) (is4))) (And.intro (And.intro (ip5) (is5)) (And.intro (ip9) (is9)))
def fxB := And.intro (And.intro (br4) (ln22)) (And.intro (pr24) (And.intro (ln29) (ln33)))
def fxST := sr9
def fxLEN := And.intro (And.intro (sl9) (ll22)) (And.intro (ll29) (ll33))
def fxIX := si9
def fxSS := ss9
def fxIA := And.intro (la22) (And.intro (la29) (la33))
def fxEQ := And.intro (@eq28) (@ne28)
def fxCV := cv5_3
theorem fxMK : (undef = undef) = True := noFacts
def fxBU := And.intro (And.intro (And.intro (@bu28_0_5_7) (@bu28_0_5)) (And.intro (@bu28_5) (@bu28_0))) (And.intro (And.intro (@bu50_) (@bu28_)) (And.intro (@bs29_1_0) (@bs29_0_)))
end Go.Proofs.Ytkonmcaogihldaa
