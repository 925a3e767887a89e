/- Closed facts on this seat's program, for the abstract evaluator: written by gen2.py. -/
import Derived.Test.YtmclngniffgenaaFwG3
import Derived.Test.YtmclngniffgenaaProg
set_option linter.all false
namespace Go.Proofs.Ytmclngniffgenaa
open Go.Ab
def prs : FuncId → Nat → List (Nat × Nat)
  | 3, 32 => [(7, 11)]
  | 11, 3 => [(2, 6)]
  | 11, 6 => [(3, 10), (7, 10)]
  | 11, 7 => [(3, 6)]
  | 12, 6 => [(4, 7)]
  | 15, 7 => [(3, 9)]
  | 26, 7 => [(4, 12)]
  | _, _ => []
set_option maxRecDepth 100000 in
theorem prsOk : progOkB Try.prog prs = true := by kernel_rfl
theorem mixed : Try.prog.follows .mixedOrders = true := by kernel_rfl
theorem sz3 : sizeT Try.prog 3 = some 1 := by kernel_rfl
theorem sz4 : sizeT Try.prog 4 = some 1 := by kernel_rfl
theorem sz5 : sizeT Try.prog 5 = some 1 := by kernel_rfl
theorem sz9 : sizeT Try.prog 9 = some 1 := by kernel_rfl
theorem sz22 : sizeT Try.prog 22 = some 1 := by kernel_rfl
theorem sz24 : sizeT Try.prog 24 = some 1 := by kernel_rfl
theorem sz26 : sizeT Try.prog 26 = some 1 := by kernel_rfl
theorem sz28 : sizeT Try.prog 28 = some 1 := by kernel_rfl
theorem sz29 : sizeT Try.prog 29 = some 3 := by kernel_rfl
theorem sz30 : sizeT Try.prog 30 = some 3 := by kernel_rfl
theorem sz31 : sizeT Try.prog 31 = some 1 := by kernel_rfl
theorem sz43 : sizeT Try.prog 43 = some 1 := by kernel_rfl
theorem sz44 : sizeT Try.prog 44 = some 4 := by kernel_rfl
theorem sz45 : sizeT Try.prog 45 = some 4 := by kernel_rfl
theorem sz52 : sizeT Try.prog 52 = some 1 := by kernel_rfl
theorem sz56 : sizeT Try.prog 56 = some 1 := by kernel_rfl
theorem sz57 : sizeT Try.prog 57 = some 3 := by kernel_rfl
theorem sz58 : sizeT Try.prog 58 = some 3 := by kernel_rfl
theorem sz60 : sizeT Try.prog 60 = some 2 := by kernel_rfl
theorem sz61 : sizeT Try.prog 61 = some 2 := by kernel_rfl
theorem sz62 : sizeT Try.prog 62 = some 2 := by kernel_rfl
theorem sz63 : sizeT Try.prog 63 = some 2 := by kernel_rfl
theorem ag3 : isAggT Try.prog 3 = some false := by kernel_rfl
theorem ag4 : isAggT Try.prog 4 = some false := by kernel_rfl
theorem ag5 : isAggT Try.prog 5 = some false := by kernel_rfl
theorem ag9 : isAggT Try.prog 9 = some false := by kernel_rfl
theorem ag22 : isAggT Try.prog 22 = some false := by kernel_rfl
theorem ag24 : isAggT Try.prog 24 = some false := by kernel_rfl
theorem ag26 : isAggT Try.prog 26 = some false := by kernel_rfl
theorem ag28 : isAggT Try.prog 28 = some false := by kernel_rfl
theorem ag29 : isAggT Try.prog 29 = some true := by kernel_rfl
theorem ag30 : isAggT Try.prog 30 = some true := by kernel_rfl
theorem ag31 : isAggT Try.prog 31 = some false := by kernel_rfl
theorem ag43 : isAggT Try.prog 43 = some false := by kernel_rfl
theorem ag44 : isAggT Try.prog 44 = some true := by kernel_rfl
theorem ag45 : isAggT Try.prog 45 = some true := by kernel_rfl
theorem ag52 : isAggT Try.prog 52 = some false := by kernel_rfl
theorem ag56 : isAggT Try.prog 56 = some false := by kernel_rfl
theorem ag57 : isAggT Try.prog 57 = some true := by kernel_rfl
theorem ag58 : isAggT Try.prog 58 = some true := by kernel_rfl
theorem ag60 : isAggT Try.prog 60 = some true := by kernel_rfl
theorem ag61 : isAggT Try.prog 61 = some true := by kernel_rfl
theorem ag62 : isAggT Try.prog 62 = some true := by kernel_rfl
theorem ag63 : isAggT Try.prog 63 = some true := by kernel_rfl
theorem ip3 : isPtr Try.prog 3 = false := by kernel_rfl
theorem is3 : isSl Try.prog 3 = false := by kernel_rfl
theorem ze3 : zeroCells? Try.prog 3 = some #[.int .i64 0] := by kernel_rfl
theorem ip4 : isPtr Try.prog 4 = false := by kernel_rfl
theorem is4 : isSl Try.prog 4 = false := by kernel_rfl
theorem ze4 : zeroCells? Try.prog 4 = some #[.bool false] := by kernel_rfl
def br4 := @bool_rules Try.prog 4 Try.underlying4 ip4 is4
theorem ip5 : isPtr Try.prog 5 = false := by kernel_rfl
theorem is5 : isSl Try.prog 5 = false := by kernel_rfl
theorem ze5 : zeroCells? Try.prog 5 = some #[.int .u8 0] := by kernel_rfl
theorem ip9 : isPtr Try.prog 9 = false := by kernel_rfl
theorem is9 : isSl Try.prog 9 = false := by kernel_rfl
theorem ze9 : zeroCells? Try.prog 9 = some #[.string ⟨#[]⟩] := by kernel_rfl
def sr9 := @str_rules2 Try.prog 9 Try.underlying9 ip9 is9
def sl9 := @str_len Try.prog 9 Try.underlying9
def si9 := @str_ix Try.prog 9 Try.underlying9
def ss9 := @str_sl Try.prog 9 Try.underlying9 ip9 is9
theorem ip22 : isPtr Try.prog 22 = false := by kernel_rfl
theorem is22 : isSl Try.prog 22 = true := by kernel_rfl
theorem ze22 : zeroCells? Try.prog 22 = some #[.slice none 0 0] := by kernel_rfl
theorem el22 : elemT Try.prog 22 = some 30 := by kernel_rfl
def ll22 := @slice_len Try.prog 22 30 Try.underlying22
def ln22 := @slice_nil Try.prog 22 ip22 is22
def la22 := @slice_ia Try.prog 22 30 3 Try.underlying22 sz30
theorem ip24 : isPtr Try.prog 24 = true := by kernel_rfl
theorem is24 : isSl Try.prog 24 = false := by kernel_rfl
theorem ze24 : zeroCells? Try.prog 24 = some #[.pointer none] := by kernel_rfl
def pr24 := @ptr_rules Try.prog 24 ip24
theorem ip26 : isPtr Try.prog 26 = true := by kernel_rfl
theorem is26 : isSl Try.prog 26 = false := by kernel_rfl
theorem ze26 : zeroCells? Try.prog 26 = some #[.pointer none] := by kernel_rfl
def pr26 := @ptr_rules Try.prog 26 ip26
theorem ip28 : isPtr Try.prog 28 = false := by kernel_rfl
theorem is28 : isSl Try.prog 28 = true := by kernel_rfl
theorem ze28 : zeroCells? Try.prog 28 = some #[.slice none 0 0] := by kernel_rfl
theorem el28 : elemT Try.prog 28 = some 3 := by kernel_rfl
def ll28 := @slice_len Try.prog 28 3 Try.underlying28
def ln28 := @slice_nil Try.prog 28 ip28 is28
def la28 := @slice_ia Try.prog 28 3 1 Try.underlying28 sz3
theorem ip29 : isPtr Try.prog 29 = false := by kernel_rfl
theorem is29 : isSl Try.prog 29 = false := by kernel_rfl
theorem ze29 : zeroCells? Try.prog 29 = some #[.int .i64 0, .int .i64 0, .string ⟨#[]⟩] := by kernel_rfl
theorem ip30 : isPtr Try.prog 30 = false := by kernel_rfl
theorem is30 : isSl Try.prog 30 = false := by kernel_rfl
theorem ze30 : zeroCells? Try.prog 30 = some #[.int .i64 0, .int .i64 0, .string ⟨#[]⟩] := by kernel_rfl
theorem fa30_0 {b o : Nat} : evFieldAddr Try.prog 30 (.pointer (some ⟨b, o, none⟩)) 0 = some (.pointer (some ⟨b, o + 0, none⟩)) := by kernel_rfl
theorem fa30_1 {b o : Nat} : evFieldAddr Try.prog 30 (.pointer (some ⟨b, o, none⟩)) 1 = some (.pointer (some ⟨b, o + 1, none⟩)) := by kernel_rfl
theorem fa30_2 {b o : Nat} : evFieldAddr Try.prog 30 (.pointer (some ⟨b, o, none⟩)) 2 = some (.pointer (some ⟨b, o + 2, none⟩)) := by kernel_rfl
theorem ip31 : isPtr Try.prog 31 = false := by kernel_rfl
theorem is31 : isSl Try.prog 31 = false := by kernel_rfl
theorem ze31 : zeroCells? Try.prog 31 = some #[.int .i64 0] := by kernel_rfl
theorem ip43 : isPtr Try.prog 43 = false := by kernel_rfl
theorem is43 : isSl Try.prog 43 = true := by kernel_rfl
theorem ze43 : zeroCells? Try.prog 43 = some #[.slice none 0 0] := by kernel_rfl
theorem el43 : elemT Try.prog 43 = some 63 := by kernel_rfl
def ll43 := @slice_len Try.prog 43 63 Try.underlying43
def ln43 := @slice_nil Try.prog 43 ip43 is43
def la43 := @slice_ia Try.prog 43 63 2 Try.underlying43 sz63
theorem ip44 : isPtr Try.prog 44 = false := by kernel_rfl
theorem is44 : isSl Try.prog 44 = false := by kernel_rfl
theorem ze44 : zeroCells? Try.prog 44 = some #[.slice none 0 0, .int .i64 0, .int .i64 0, .int .i64 0] := by kernel_rfl
theorem ip45 : isPtr Try.prog 45 = false := by kernel_rfl
theorem is45 : isSl Try.prog 45 = false := by kernel_rfl
theorem ze45 : zeroCells? Try.prog 45 = some #[.slice none 0 0, .int .i64 0, .int .i64 0, .int .i64 0] := by kernel_rfl
theorem fa45_0 {b o : Nat} : evFieldAddr Try.prog 45 (.pointer (some ⟨b, o, none⟩)) 0 = some (.pointer (some ⟨b, o + 0, none⟩)) := by kernel_rfl
theorem fa45_1 {b o : Nat} : evFieldAddr Try.prog 45 (.pointer (some ⟨b, o, none⟩)) 1 = some (.pointer (some ⟨b, o + 1, none⟩)) := by kernel_rfl
theorem fa45_2 {b o : Nat} : evFieldAddr Try.prog 45 (.pointer (some ⟨b, o, none⟩)) 2 = some (.pointer (some ⟨b, o + 2, none⟩)) := by kernel_rfl
theorem fa45_3 {b o : Nat} : evFieldAddr Try.prog 45 (.pointer (some ⟨b, o, none⟩)) 3 = some (.pointer (some ⟨b, o + 3, none⟩)) := by kernel_rfl
theorem ip52 : isPtr Try.prog 52 = false := by kernel_rfl
theorem is52 : isSl Try.prog 52 = true := by kernel_rfl
theorem ze52 : zeroCells? Try.prog 52 = some #[.slice none 0 0] := by kernel_rfl
theorem el52 : elemT Try.prog 52 = some 5 := by kernel_rfl
def ll52 := @slice_len Try.prog 52 5 Try.underlying52
def ln52 := @slice_nil Try.prog 52 ip52 is52
def la52 := @slice_ia Try.prog 52 5 1 Try.underlying52 sz5
theorem ip56 : isPtr Try.prog 56 = false := by kernel_rfl
theorem is56 : isSl Try.prog 56 = false := by kernel_rfl
theorem ze56 : zeroCells? Try.prog 56 = some #[.map none] := by kernel_rfl
theorem ip57 : isPtr Try.prog 57 = false := by kernel_rfl
theorem is57 : isSl Try.prog 57 = false := by kernel_rfl
theorem ze57 : zeroCells? Try.prog 57 = some #[.map none, .int .i64 0, .int .i64 0] := by kernel_rfl
theorem ip58 : isPtr Try.prog 58 = false := by kernel_rfl
theorem is58 : isSl Try.prog 58 = false := by kernel_rfl
theorem ze58 : zeroCells? Try.prog 58 = some #[.map none, .int .i64 0, .int .i64 0] := by kernel_rfl
theorem fa58_0 {b o : Nat} : evFieldAddr Try.prog 58 (.pointer (some ⟨b, o, none⟩)) 0 = some (.pointer (some ⟨b, o + 0, none⟩)) := by kernel_rfl
theorem fa58_1 {b o : Nat} : evFieldAddr Try.prog 58 (.pointer (some ⟨b, o, none⟩)) 1 = some (.pointer (some ⟨b, o + 1, none⟩)) := by kernel_rfl
theorem fa58_2 {b o : Nat} : evFieldAddr Try.prog 58 (.pointer (some ⟨b, o, none⟩)) 2 = some (.pointer (some ⟨b, o + 2, none⟩)) := by kernel_rfl
theorem ip60 : isPtr Try.prog 60 = false := by kernel_rfl
theorem is60 : isSl Try.prog 60 = false := by kernel_rfl
theorem ze60 : zeroCells? Try.prog 60 = some #[.string ⟨#[]⟩, .int .i64 0] := by kernel_rfl
theorem ip61 : isPtr Try.prog 61 = false := by kernel_rfl
theorem is61 : isSl Try.prog 61 = false := by kernel_rfl
theorem ze61 : zeroCells? Try.prog 61 = some #[.string ⟨#[]⟩, .int .i64 0] := by kernel_rfl
theorem fa61_0 {b o : Nat} : evFieldAddr Try.prog 61 (.pointer (some ⟨b, o, none⟩)) 0 = some (.pointer (some ⟨b, o + 0, none⟩)) := by kernel_rfl
theorem fa61_1 {b o : Nat} : evFieldAddr Try.prog 61 (.pointer (some ⟨b, o, none⟩)) 1 = some (.pointer (some ⟨b, o + 1, none⟩)) := by kernel_rfl
theorem ip62 : isPtr Try.prog 62 = false := by kernel_rfl
theorem is62 : isSl Try.prog 62 = false := by kernel_rfl
theorem ze62 : zeroCells? Try.prog 62 = some #[.string ⟨#[]⟩, .int .i64 0] := by kernel_rfl
theorem ip63 : isPtr Try.prog 63 = false := by kernel_rfl
theorem is63 : isSl Try.prog 63 = false := by kernel_rfl
theorem ze63 : zeroCells? Try.prog 63 = some #[.string ⟨#[]⟩, .int .i64 0] := by kernel_rfl
theorem fa63_0 {b o : Nat} : evFieldAddr Try.prog 63 (.pointer (some ⟨b, o, none⟩)) 0 = some (.pointer (some ⟨b, o + 0, none⟩)) := by kernel_rfl
theorem fa63_1 {b o : Nat} : evFieldAddr Try.prog 63 (.pointer (some ⟨b, o, none⟩)) 1 = some (.pointer (some ⟨b, o + 1, none⟩)) := by kernel_rfl
def cv5_3 := @cv_rule Try.prog 5 3 .u8 .i64 Try.underlying5 Try.underlying3
theorem by5 : bytesT Try.prog 5 = some 1 := by kernel_rfl
def mk52 := @mk_rule Try.prog 52 5 (.int .u8 0) 1 el52 ze5 sz5 by5
theorem bu58_0_2 (x0 : Option Nat) (x2 : Int) : evBuild Try.prog 58 [(0, .map x0), (2, .int .i64 x2)] = some (.agg #[.map x0, .int .i64 0, .int .i64 x2]) := by kernel_rfl
theorem bu45_1 (x1 : Int) : evBuild Try.prog 45 [(1, .int .i64 x1)] = some (.agg #[.slice none 0 0, .int .i64 x1, .int .i64 0, .int .i64 0]) := by kernel_rfl
theorem bu61_0_1 (x0 : ByteArray) (x1 : Int) : evBuild Try.prog 61 [(0, .string x0), (1, .int .i64 x1)] = some (.agg #[.string x0, .int .i64 x1]) := by kernel_rfl
theorem bu63_0_1 (x0 : ByteArray) (x1 : Int) : evBuild Try.prog 63 [(0, .string x0), (1, .int .i64 x1)] = some (.agg #[.string x0, .int .i64 x1]) := by kernel_rfl
theorem bs28_1_0 (x0 : Int) {nid : Nat} : evBuildSlice Try.prog nid 28 1 [(0, .int .i64 x0)] = some ⟨.slice (some ⟨nid, 0, none⟩) 1 1, [(nid, some (.cells [.int .i64 x0] 3 true))], []⟩ := by kernel_rfl
theorem bs43_1_0 (x0_0 : ByteArray) (x0_1 : Int) {nid : Nat} : evBuildSlice Try.prog nid 43 1 [(0, .agg #[.string x0_0, .int .i64 x0_1])] = some ⟨.slice (some ⟨nid, 0, none⟩) 1 1, [(nid, some (.cells [.string x0_0, .int .i64 x0_1] 63 true))], []⟩ := by kernel_rfl
theorem ap28_28 : AppT Try.prog 28 28 3 1 8 := ⟨by kernel_rfl, ⟨_, Try.underlying28, rfl⟩, by kernel_rfl, by kernel_rfl, ⟨_, ze3, rfl⟩, by decide⟩
theorem ap43_43 : AppT Try.prog 43 43 63 2 24 := ⟨by kernel_rfl, ⟨_, Try.underlying43, rfl⟩, by kernel_rfl, by kernel_rfl, ⟨_, ze63, rfl⟩, by decide⟩
theorem mt56 : mapT Try.prog 56 = some (.i64, 59) := by kernel_rfl
theorem zv59 : zeroV Try.prog 59 = some (.pointer none) := by kernel_rfl
def fxU := And.intro (And.intro (And.intro (And.intro (@Try.underlying3) (@Try.underlying4)) (And.intro (@Try.underlying5) (And.intro (@Try.underlying9) (@Try.underlying22)))) (And.intro (And.intro (@Try.underlying24) (And.intro (@Try.underlying26) (@Try.underlying28))) (And.intro (@Try.underlying29) (And.intro (@Try.underlying30) (@Try.underlying31))))) (And.intro (And.intro (And.intro (@Try.underlying43) (@Try.underlying44)) (And.intro (@Try.underlying45) (And.intro (@Try.underlying52) (@Try.underlying56)))) (And.intro (And.intro (@Try.underlying57) (And.intro (@Try.underlying58) (@Try.underlying60))) (And.intro (@Try.underlying61) (And.intro (@Try.underlying62) (@Try.underlying63)))))
def fxSZ := And.intro (And.intro (And.intro (And.intro (And.intro (@sz3) (@sz4)) (And.intro (@sz5) (And.intro (@sz9) (@sz22)))) (And.intro (And.intro (@sz24) (And.intro (@sz26) (@sz28))) (And.intro (@sz29) (And.intro (@sz30) (@sz31))))) (And.intro (And.intro (And.intro (@sz43) (@sz44)) (And.intro (@sz45) (And.intro (@sz52) (@sz56)))) (And.intro (And.intro (@sz57) (And.intro (@sz58) (@sz60))) (And.intro (@sz61) (And.intro (@sz62) (@sz63)))))) (And.intro (And.intro (And.intro (And.intro (@ag3) (@ag4)) (And.intro (@ag5) (And.intro (@ag9) (@ag22)))) (And.intro (And.intro (@ag24) (And.intro (@ag26) (@ag28))) (And.intro (@ag29) (And.intro (@ag30) (@ag31))))) (And.intro (And.intro (And.intro (@ag43) (@ag44)) (And.intro (@ag45) (And.intro (@ag52) (@ag56)))) (And.intro (And.intro (@ag57) (And.intro (@ag58) (@ag60))) (And.intro (@ag61) (And.intro (@ag62) (@ag63))))))
def fxZE := And.intro (And.intro (And.intro (And.intro (@ze3) (@ze4)) (And.intro (@ze5) (And.intro (@ze9) (@ze22)))) (And.intro (And.intro (@ze24) (And.intro (@ze26) (@ze28))) (And.intro (@ze29) (And.intro (@ze30) (@ze31))))) (And.intro (And.intro (And.intro (@ze43) (@ze44)) (And.intro (@ze45) (And.intro (@ze52) (@ze56)))) (And.intro (And.intro (@ze57) (And.intro (@ze58) (@ze60))) (And.intro (@ze61) (And.intro (@ze62) (@ze63)))))
def fxFA := And.intro (And.intro (And.intro (@fa30_0) (And.intro (@fa30_1) (@fa30_2))) (And.intro (And.intro (@fa45_0) (@fa45_1)) (And.intro (@fa45_2) (@fa45_3)))) (And.intro (And.intro (@fa58_0) (And.intro (@fa58_1) (@fa58_2))) (And.intro (And.intro (@fa61_0) (@fa61_1)) (And.intro (@fa63_0) (@fa63_1))))
theorem fxFE : (undef = undef) = True := noFacts
def fxEL := And.intro (And.intro (@el22) (@el28)) (And.intro (@el43) (And.intro (@el52) (@by5)))
def fxI := And.intro (And.intro (And.intro (ip3) (is3)) (And.intro (ip4) (And.intro (is4) (ip5)))) (And.intro (And.intro (is5) (ip9)) (And.intro (is9) (And.intro (ip31) (is31))))
def fxB := And.intro (And.intro (br4) (And.intro (ln22) (pr24))) (And.intro (And.intro (pr26) (ln28)) (And.intro (ln43) (ln52)))
def fxST := sr9
def fxLEN := And.intro (And.intro (sl9) (ll22)) (And.intro (ll28) (And.intro (ll43) (ll52)))
def fxIX := si9
def fxSS := ss9
def fxIA := And.intro (And.intro (la22) (la28)) (And.intro (la43) (la52))
theorem fxEQ : (undef = undef) = True := noFacts
def fxCV := cv5_3
def fxMK := mk52
def fxBU := And.intro (And.intro (@bu58_0_2) (And.intro (@bu45_1) (@bu61_0_1))) (And.intro (@bu63_0_1) (And.intro (@bs28_1_0) (@bs43_1_0)))
def fxMT := mt56
def fxZV := zv59
end Go.Proofs.Ytmclngniffgenaa
