/- Closed facts on this seat's program, for the abstract evaluator: written by gen2.py. -/
import Derived.Test.YtkdngcoblohhjaaFwG3
import Derived.Test.YtkdngcoblohhjaaProg
set_option linter.all false
namespace Go.Proofs.Ytkdngcoblohhjaa
open Go.Ab
def prs : FuncId → Nat → List (Nat × Nat)
  | 8, 1 => [(0, 1)]
  | 9, 3 => [(19, 23)]
  | 9, 5 => [(1, 5)]
  | 21, 3 => [(3, 13), (7, 13), (12, 13)]
  | 23, 6 => [(4, 7)]
  | _, _ => []
set_option maxRecDepth 100000 in
theorem prsOk : progOkB Try.prog prs = true := by kernel_rfl
theorem mixed : Try.prog.follows .mixedOrders = true := by kernel_rfl
theorem sz3 : sizeT Try.prog 3 = some 1 := by kernel_rfl
theorem sz4 : sizeT Try.prog 4 = some 1 := by kernel_rfl
theorem sz5 : sizeT Try.prog 5 = some 1 := by kernel_rfl
theorem sz9 : sizeT Try.prog 9 = some 1 := by kernel_rfl
theorem sz22 : sizeT Try.prog 22 = some 1 := by kernel_rfl
theorem sz24 : sizeT Try.prog 24 = some 6 := by kernel_rfl
theorem sz25 : sizeT Try.prog 25 = some 6 := by kernel_rfl
theorem sz26 : sizeT Try.prog 26 = some 1 := by kernel_rfl
theorem sz28 : sizeT Try.prog 28 = some 1 := by kernel_rfl
theorem sz31 : sizeT Try.prog 31 = some 10 := by kernel_rfl
theorem sz32 : sizeT Try.prog 32 = some 10 := by kernel_rfl
theorem sz38 : sizeT Try.prog 38 = some 1 := by kernel_rfl
theorem sz44 : sizeT Try.prog 44 = some 1 := by kernel_rfl
theorem sz46 : sizeT Try.prog 46 = some 7 := by kernel_rfl
theorem sz47 : sizeT Try.prog 47 = some 7 := by kernel_rfl
theorem sz52 : sizeT Try.prog 52 = some 1 := by kernel_rfl
theorem sz53 : sizeT Try.prog 53 = some 1 := by kernel_rfl
theorem ag3 : isAggT Try.prog 3 = some false := by kernel_rfl
theorem ag4 : isAggT Try.prog 4 = some false := by kernel_rfl
theorem ag5 : isAggT Try.prog 5 = some false := by kernel_rfl
theorem ag9 : isAggT Try.prog 9 = some false := by kernel_rfl
theorem ag22 : isAggT Try.prog 22 = some false := by kernel_rfl
theorem ag24 : isAggT Try.prog 24 = some true := by kernel_rfl
theorem ag25 : isAggT Try.prog 25 = some true := by kernel_rfl
theorem ag26 : isAggT Try.prog 26 = some false := by kernel_rfl
theorem ag28 : isAggT Try.prog 28 = some false := by kernel_rfl
theorem ag31 : isAggT Try.prog 31 = some true := by kernel_rfl
theorem ag32 : isAggT Try.prog 32 = some true := by kernel_rfl
theorem ag38 : isAggT Try.prog 38 = some false := by kernel_rfl
theorem ag44 : isAggT Try.prog 44 = some false := by kernel_rfl
theorem ag46 : isAggT Try.prog 46 = some true := by kernel_rfl
theorem ag47 : isAggT Try.prog 47 = some true := by kernel_rfl
theorem ag52 : isAggT Try.prog 52 = some true := by kernel_rfl
theorem ag53 : isAggT Try.prog 53 = some true := by kernel_rfl
theorem ip3 : isPtr Try.prog 3 = false := by kernel_rfl
theorem is3 : isSl Try.prog 3 = false := by kernel_rfl
theorem ze3 : zeroCells? Try.prog 3 = some #[.int .i64 0] := by kernel_rfl
theorem ip4 : isPtr Try.prog 4 = false := by kernel_rfl
theorem is4 : isSl Try.prog 4 = false := by kernel_rfl
theorem ze4 : zeroCells? Try.prog 4 = some #[.bool false] := by kernel_rfl
def br4 := @bool_rules Try.prog 4 Try.underlying4 ip4 is4
theorem ip5 : isPtr Try.prog 5 = false := by kernel_rfl
theorem is5 : isSl Try.prog 5 = false := by kernel_rfl
theorem ze5 : zeroCells? Try.prog 5 = some #[.int .u8 0] := by kernel_rfl
theorem ip9 : isPtr Try.prog 9 = false := by kernel_rfl
theorem is9 : isSl Try.prog 9 = false := by kernel_rfl
theorem ze9 : zeroCells? Try.prog 9 = some #[.string ⟨#[]⟩] := by kernel_rfl
def sr9 := @str_rules2 Try.prog 9 Try.underlying9 ip9 is9
def sl9 := @str_len Try.prog 9 Try.underlying9
def si9 := @str_ix Try.prog 9 Try.underlying9
def ss9 := @str_sl Try.prog 9 Try.underlying9 ip9 is9
theorem ip22 : isPtr Try.prog 22 = false := by kernel_rfl
theorem is22 : isSl Try.prog 22 = true := by kernel_rfl
theorem ze22 : zeroCells? Try.prog 22 = some #[.slice none 0 0] := by kernel_rfl
theorem el22 : elemT Try.prog 22 = some 5 := by kernel_rfl
def ll22 := @slice_len Try.prog 22 5 Try.underlying22
def ln22 := @slice_nil Try.prog 22 ip22 is22
def la22 := @slice_ia Try.prog 22 5 1 Try.underlying22 sz5
theorem ip24 : isPtr Try.prog 24 = false := by kernel_rfl
theorem is24 : isSl Try.prog 24 = false := by kernel_rfl
theorem ze24 : zeroCells? Try.prog 24 = some #[.string ⟨#[]⟩, .string ⟨#[]⟩, .int .i64 0, .int .i64 0, .int .i64 0, .int .i64 0] := by kernel_rfl
theorem ip25 : isPtr Try.prog 25 = false := by kernel_rfl
theorem is25 : isSl Try.prog 25 = false := by kernel_rfl
theorem ze25 : zeroCells? Try.prog 25 = some #[.string ⟨#[]⟩, .string ⟨#[]⟩, .int .i64 0, .int .i64 0, .int .i64 0, .int .i64 0] := by kernel_rfl
theorem fa25_2 {b o : Nat} : evFieldAddr Try.prog 25 (.pointer (some ⟨b, o, none⟩)) 2 = some (.pointer (some ⟨b, o + 2, none⟩)) := by kernel_rfl
theorem fe25_2 {cs : Array Value} : evField Try.prog 25 (.agg cs) 2 = cs[2]? := by kernel_rfl
theorem fa25_3 {b o : Nat} : evFieldAddr Try.prog 25 (.pointer (some ⟨b, o, none⟩)) 3 = some (.pointer (some ⟨b, o + 3, none⟩)) := by kernel_rfl
theorem fa25_4 {b o : Nat} : evFieldAddr Try.prog 25 (.pointer (some ⟨b, o, none⟩)) 4 = some (.pointer (some ⟨b, o + 4, none⟩)) := by kernel_rfl
theorem fa25_5 {b o : Nat} : evFieldAddr Try.prog 25 (.pointer (some ⟨b, o, none⟩)) 5 = some (.pointer (some ⟨b, o + 5, none⟩)) := by kernel_rfl
theorem ip26 : isPtr Try.prog 26 = true := by kernel_rfl
theorem is26 : isSl Try.prog 26 = false := by kernel_rfl
theorem ze26 : zeroCells? Try.prog 26 = some #[.pointer none] := by kernel_rfl
def pr26 := @ptr_rules Try.prog 26 ip26
theorem ip28 : isPtr Try.prog 28 = false := by kernel_rfl
theorem is28 : isSl Try.prog 28 = true := by kernel_rfl
theorem ze28 : zeroCells? Try.prog 28 = some #[.slice none 0 0] := by kernel_rfl
theorem el28 : elemT Try.prog 28 = some 32 := by kernel_rfl
def ll28 := @slice_len Try.prog 28 32 Try.underlying28
def ln28 := @slice_nil Try.prog 28 ip28 is28
def la28 := @slice_ia Try.prog 28 32 10 Try.underlying28 sz32
theorem ip31 : isPtr Try.prog 31 = false := by kernel_rfl
theorem is31 : isSl Try.prog 31 = false := by kernel_rfl
theorem ze31 : zeroCells? Try.prog 31 = some #[.int .i64 0, .int .i64 0, .int .i64 0, .string ⟨#[]⟩, .string ⟨#[]⟩, .int .i64 0, .int .i64 0, .int .i64 0, .bool false, .int .i64 0] := by kernel_rfl
theorem ip32 : isPtr Try.prog 32 = false := by kernel_rfl
theorem is32 : isSl Try.prog 32 = false := by kernel_rfl
theorem ze32 : zeroCells? Try.prog 32 = some #[.int .i64 0, .int .i64 0, .int .i64 0, .string ⟨#[]⟩, .string ⟨#[]⟩, .int .i64 0, .int .i64 0, .int .i64 0, .bool false, .int .i64 0] := by kernel_rfl
theorem fa32_0 {b o : Nat} : evFieldAddr Try.prog 32 (.pointer (some ⟨b, o, none⟩)) 0 = some (.pointer (some ⟨b, o + 0, none⟩)) := by kernel_rfl
theorem fa32_5 {b o : Nat} : evFieldAddr Try.prog 32 (.pointer (some ⟨b, o, none⟩)) 5 = some (.pointer (some ⟨b, o + 5, none⟩)) := by kernel_rfl
theorem fa32_6 {b o : Nat} : evFieldAddr Try.prog 32 (.pointer (some ⟨b, o, none⟩)) 6 = some (.pointer (some ⟨b, o + 6, none⟩)) := by kernel_rfl
theorem fa32_7 {b o : Nat} : evFieldAddr Try.prog 32 (.pointer (some ⟨b, o, none⟩)) 7 = some (.pointer (some ⟨b, o + 7, none⟩)) := by kernel_rfl
theorem fa32_8 {b o : Nat} : evFieldAddr Try.prog 32 (.pointer (some ⟨b, o, none⟩)) 8 = some (.pointer (some ⟨b, o + 8, none⟩)) := by kernel_rfl
theorem ip38 : isPtr Try.prog 38 = false := by kernel_rfl
theorem is38 : isSl Try.prog 38 = false := by kernel_rfl
theorem ip44 : isPtr Try.prog 44 = true := by kernel_rfl
theorem is44 : isSl Try.prog 44 = false := by kernel_rfl
theorem ze44 : zeroCells? Try.prog 44 = some #[.pointer none] := by kernel_rfl
def pr44 := @ptr_rules Try.prog 44 ip44
theorem ip46 : isPtr Try.prog 46 = false := by kernel_rfl
theorem is46 : isSl Try.prog 46 = false := by kernel_rfl
theorem ze46 : zeroCells? Try.prog 46 = some #[.string ⟨#[]⟩, .string ⟨#[]⟩, .int .i64 0, .int .i64 0, .int .i64 0, .int .i64 0, .pointer none] := by kernel_rfl
theorem ip47 : isPtr Try.prog 47 = false := by kernel_rfl
theorem is47 : isSl Try.prog 47 = false := by kernel_rfl
theorem ze47 : zeroCells? Try.prog 47 = some #[.string ⟨#[]⟩, .string ⟨#[]⟩, .int .i64 0, .int .i64 0, .int .i64 0, .int .i64 0, .pointer none] := by kernel_rfl
theorem fa47_0 {b o : Nat} : evFieldAddr Try.prog 47 (.pointer (some ⟨b, o, none⟩)) 0 = some (.pointer (some ⟨b, o + 0, none⟩)) := by kernel_rfl
theorem fa47_1 {b o : Nat} : evFieldAddr Try.prog 47 (.pointer (some ⟨b, o, none⟩)) 1 = some (.pointer (some ⟨b, o + 6, none⟩)) := by kernel_rfl
theorem ip52 : isPtr Try.prog 52 = false := by kernel_rfl
theorem is52 : isSl Try.prog 52 = false := by kernel_rfl
theorem ze52 : zeroCells? Try.prog 52 = some #[.slice none 0 0] := by kernel_rfl
theorem ip53 : isPtr Try.prog 53 = false := by kernel_rfl
theorem is53 : isSl Try.prog 53 = false := by kernel_rfl
theorem ze53 : zeroCells? Try.prog 53 = some #[.slice none 0 0] := by kernel_rfl
theorem fa53_0 {b o : Nat} : evFieldAddr Try.prog 53 (.pointer (some ⟨b, o, none⟩)) 0 = some (.pointer (some ⟨b, o + 0, none⟩)) := by kernel_rfl
def cv5_3 := @cv_rule Try.prog 5 3 .u8 .i64 Try.underlying5 Try.underlying3
theorem bu25_2_4 (x2 : Int) (x4 : Int) : evBuild Try.prog 25 [(2, .int .i64 x2), (4, .int .i64 x4)] = some (.agg #[.string ⟨#[]⟩, .string ⟨#[]⟩, .int .i64 x2, .int .i64 0, .int .i64 x4, .int .i64 0]) := by kernel_rfl
theorem bu32_0_5 (x0 : Int) (x5 : Int) : evBuild Try.prog 32 [(0, .int .i64 x0), (5, .int .i64 x5)] = some (.agg #[.int .i64 x0, .int .i64 0, .int .i64 0, .string ⟨#[]⟩, .string ⟨#[]⟩, .int .i64 x5, .int .i64 0, .int .i64 0, .bool false, .int .i64 0]) := by kernel_rfl
theorem bu25_2 (x2 : Int) : evBuild Try.prog 25 [(2, .int .i64 x2)] = some (.agg #[.string ⟨#[]⟩, .string ⟨#[]⟩, .int .i64 x2, .int .i64 0, .int .i64 0, .int .i64 0]) := by kernel_rfl
theorem bu32_0 (x0 : Int) : evBuild Try.prog 32 [(0, .int .i64 x0)] = some (.agg #[.int .i64 x0, .int .i64 0, .int .i64 0, .string ⟨#[]⟩, .string ⟨#[]⟩, .int .i64 0, .int .i64 0, .int .i64 0, .bool false, .int .i64 0]) := by kernel_rfl
theorem bu25_4_3 (x4 : Int) (x3 : Int) : evBuild Try.prog 25 [(4, .int .i64 x4), (3, .int .i64 x3)] = some (.agg #[.string ⟨#[]⟩, .string ⟨#[]⟩, .int .i64 0, .int .i64 x3, .int .i64 x4, .int .i64 0]) := by kernel_rfl
theorem bu47_0_1 (x0_0 : ByteArray) (x0_1 : ByteArray) (x0_2 : Int) (x0_3 : Int) (x0_4 : Int) (x0_5 : Int) (x1 : Option Addr) : evBuild Try.prog 47 [(0, .agg #[.string x0_0, .string x0_1, .int .i64 x0_2, .int .i64 x0_3, .int .i64 x0_4, .int .i64 x0_5]), (1, .pointer x1)] = some (.agg #[.string x0_0, .string x0_1, .int .i64 x0_2, .int .i64 x0_3, .int .i64 x0_4, .int .i64 x0_5, .pointer x1]) := by kernel_rfl
theorem bu53_  : evBuild Try.prog 53 [] = some (.agg #[.slice none 0 0]) := by kernel_rfl
theorem bu32_  : evBuild Try.prog 32 [] = some (.agg #[.int .i64 0, .int .i64 0, .int .i64 0, .string ⟨#[]⟩, .string ⟨#[]⟩, .int .i64 0, .int .i64 0, .int .i64 0, .bool false, .int .i64 0]) := by kernel_rfl
theorem bs28_1_0 (x0_0 : Int) (x0_1 : Int) (x0_2 : Int) (x0_3 : ByteArray) (x0_4 : ByteArray) (x0_5 : Int) (x0_6 : Int) (x0_7 : Int) (x0_8 : Bool) (x0_9 : Int) {nid : Nat} : evBuildSlice Try.prog nid 28 1 [(0, .agg #[.int .i64 x0_0, .int .i64 x0_1, .int .i64 x0_2, .string x0_3, .string x0_4, .int .i64 x0_5, .int .i64 x0_6, .int .i64 x0_7, .bool x0_8, .int .i64 x0_9])] = some ⟨.slice (some ⟨nid, 0, none⟩) 1 1, [(nid, some (.cells [.int .i64 x0_0, .int .i64 x0_1, .int .i64 x0_2, .string x0_3, .string x0_4, .int .i64 x0_5, .int .i64 x0_6, .int .i64 x0_7, .bool x0_8, .int .i64 x0_9] 32 true))], []⟩ := by kernel_rfl
theorem bs28_0_  {nid : Nat} : evBuildSlice Try.prog nid 28 0 [] = some ⟨.slice (some ⟨nid, 0, none⟩) 0 0, [(nid, some (.cells [] 32 true))], []⟩ := by kernel_rfl
theorem ap28_28 : AppT Try.prog 28 28 32 10 96 := ⟨by kernel_rfl, ⟨_, Try.underlying28, rfl⟩, by kernel_rfl, by kernel_rfl, ⟨_, ze32, rfl⟩, by decide⟩
def fxU := And.intro (And.intro (And.intro (And.intro (@Try.underlying3) (@Try.underlying4)) (And.intro (@Try.underlying5) (@Try.underlying9))) (And.intro (And.intro (@Try.underlying22) (@Try.underlying24)) (And.intro (@Try.underlying25) (@Try.underlying26)))) (And.intro (And.intro (And.intro (@Try.underlying28) (@Try.underlying31)) (And.intro (@Try.underlying32) (@Try.underlying38))) (And.intro (And.intro (@Try.underlying44) (@Try.underlying46)) (And.intro (@Try.underlying47) (And.intro (@Try.underlying52) (@Try.underlying53)))))
def fxSZ := And.intro (And.intro (And.intro (And.intro (And.intro (@sz3) (@sz4)) (And.intro (@sz5) (@sz9))) (And.intro (And.intro (@sz22) (@sz24)) (And.intro (@sz25) (@sz26)))) (And.intro (And.intro (And.intro (@sz28) (@sz31)) (And.intro (@sz32) (@sz38))) (And.intro (And.intro (@sz44) (@sz46)) (And.intro (@sz47) (And.intro (@sz52) (@sz53)))))) (And.intro (And.intro (And.intro (And.intro (@ag3) (@ag4)) (And.intro (@ag5) (@ag9))) (And.intro (And.intro (@ag22) (@ag24)) (And.intro (@ag25) (@ag26)))) (And.intro (And.intro (And.intro (@ag28) (@ag31)) (And.intro (@ag32) (@ag38))) (And.intro (And.intro (@ag44) (@ag46)) (And.intro (@ag47) (And.intro (@ag52) (@ag53))))))
def fxZE := And.intro (And.intro (And.intro (And.intro (@ze3) (@ze4)) (And.intro (@ze5) (@ze9))) (And.intro (And.intro (@ze22) (@ze24)) (And.intro (@ze25) (@ze26)))) (And.intro (And.intro (And.intro (@ze28) (@ze31)) (And.intro (@ze32) (@ze44))) (And.intro (And.intro (@ze46) (@ze47)) (And.intro (@ze52) (@ze53))))
def fxFA := And.intro (And.intro (And.intro (@fa25_2) (And.intro (@fa25_3) (@fa25_4))) (And.intro (@fa25_5) (And.intro (@fa32_0) (@fa32_5)))) (And.intro (And.intro (@fa32_6) (And.intro (@fa32_7) (@fa32_8))) (And.intro (@fa47_0) (And.intro (@fa47_1) (@fa53_0))))
def fxFE := @fe25_2
def fxEL := And.intro (@el22) (@el28)
def fxI := And.intro (And.intro (And.intro (ip3) (is3)) (And.intro (ip4) (is4))) (And.intro (And.intro (ip5) (is5)) (And.intro (ip9) (is9)))
def fxB := And.intro (And.intro (br4) (ln22)) (And.intro (pr26) (And.intro (ln28) (pr44)))
def fxST := sr9
def fxLEN := And.intro (sl9) (And.intro (ll22) (ll28))
def fxIX := si9
def fxSS := ss9
def fxIA := And.intro (la22) (la28)
theorem fxEQ : (undef = undef) = True := noFacts
def fxCV := cv5_3
theorem fxMK : (undef = undef) = True := noFacts
def fxBU := And.intro (And.intro (And.intro (@bu25_2_4) (@bu32_0_5)) (And.intro (@bu25_2) (And.intro (@bu32_0) (@bu25_4_3)))) (And.intro (And.intro (@bu47_0_1) (@bu53_)) (And.intro (@bu32_) (And.intro (@bs28_1_0) (@bs28_0_))))
end Go.Proofs.Ytkdngcoblohhjaa
