/- Closed facts on this seat's program, for the abstract evaluator: written by gen2.py. -/
import Derived.Test.YtgapflalhgfgkaaFwG3
import Derived.Test.YtgapflalhgfgkaaProg
set_option linter.all false
namespace Go.Proofs.Ytgapflalhgfgkaa
open Go.Ab
def prs : FuncId → Nat → List (Nat × Nat)
  | 3, 9 => [(1, 2), (8, 9), (8, 10), (16, 17)]
  | 4, 11 => [(15, 18), (15, 19)]
  | 5, 12 => [(14, 17), (15, 17)]
  | 10, 10 => [(1, 3), (1, 4)]
  | 10, 14 => [(1, 3), (1, 4)]
  | _, _ => []
set_option maxRecDepth 100000 in
theorem prsOk : progOkB Try.prog prs = true := by kernel_rfl
theorem mixed : Try.prog.follows .mixedOrders = true := by kernel_rfl
theorem sz3 : sizeT Try.prog 3 = some 1 := by kernel_rfl
theorem sz4 : sizeT Try.prog 4 = some 1 := by kernel_rfl
theorem sz5 : sizeT Try.prog 5 = some 1 := by kernel_rfl
theorem sz9 : sizeT Try.prog 9 = some 1 := by kernel_rfl
theorem sz22 : sizeT Try.prog 22 = some 1 := by kernel_rfl
theorem sz23 : sizeT Try.prog 23 = some 1 := by kernel_rfl
theorem sz24 : sizeT Try.prog 24 = some 4 := by kernel_rfl
theorem sz25 : sizeT Try.prog 25 = some 4 := by kernel_rfl
theorem sz28 : sizeT Try.prog 28 = some 1 := by kernel_rfl
theorem sz37 : sizeT Try.prog 37 = some 1 := by kernel_rfl
theorem sz39 : sizeT Try.prog 39 = some 1 := by kernel_rfl
theorem sz41 : sizeT Try.prog 41 = some 1 := by kernel_rfl
theorem sz45 : sizeT Try.prog 45 = some 1 := by kernel_rfl
theorem sz46 : sizeT Try.prog 46 = some 2 := by kernel_rfl
theorem sz47 : sizeT Try.prog 47 = some 2 := by kernel_rfl
theorem sz49 : sizeT Try.prog 49 = some 4 := by kernel_rfl
theorem sz50 : sizeT Try.prog 50 = some 4 := by kernel_rfl
theorem sz58 : sizeT Try.prog 58 = some 1 := by kernel_rfl
theorem sz73 : sizeT Try.prog 73 = some 1 := by kernel_rfl
theorem ag3 : isAggT Try.prog 3 = some false := by kernel_rfl
theorem ag4 : isAggT Try.prog 4 = some false := by kernel_rfl
theorem ag5 : isAggT Try.prog 5 = some false := by kernel_rfl
theorem ag9 : isAggT Try.prog 9 = some false := by kernel_rfl
theorem ag22 : isAggT Try.prog 22 = some false := by kernel_rfl
theorem ag23 : isAggT Try.prog 23 = some false := by kernel_rfl
theorem ag24 : isAggT Try.prog 24 = some true := by kernel_rfl
theorem ag25 : isAggT Try.prog 25 = some true := by kernel_rfl
theorem ag28 : isAggT Try.prog 28 = some false := by kernel_rfl
theorem ag37 : isAggT Try.prog 37 = some false := by kernel_rfl
theorem ag39 : isAggT Try.prog 39 = some false := by kernel_rfl
theorem ag41 : isAggT Try.prog 41 = some false := by kernel_rfl
theorem ag45 : isAggT Try.prog 45 = some false := by kernel_rfl
theorem ag46 : isAggT Try.prog 46 = some true := by kernel_rfl
theorem ag47 : isAggT Try.prog 47 = some true := by kernel_rfl
theorem ag49 : isAggT Try.prog 49 = some true := by kernel_rfl
theorem ag50 : isAggT Try.prog 50 = some true := by kernel_rfl
theorem ag58 : isAggT Try.prog 58 = some false := by kernel_rfl
theorem ag73 : isAggT Try.prog 73 = some false := by kernel_rfl
theorem ip3 : isPtr Try.prog 3 = false := by kernel_rfl
theorem is3 : isSl Try.prog 3 = false := by kernel_rfl
theorem ze3 : zeroCells? Try.prog 3 = some #[.int .i64 0] := by kernel_rfl
theorem ip4 : isPtr Try.prog 4 = false := by kernel_rfl
theorem is4 : isSl Try.prog 4 = false := by kernel_rfl
theorem ze4 : zeroCells? Try.prog 4 = some #[.bool false] := by kernel_rfl
def br4 := @bool_rules Try.prog 4 Try.underlying4 ip4 is4
theorem ip5 : isPtr Try.prog 5 = false := by kernel_rfl
theorem is5 : isSl Try.prog 5 = false := by kernel_rfl
theorem ze5 : zeroCells? Try.prog 5 = some #[.int .u8 0] := by kernel_rfl
theorem ip9 : isPtr Try.prog 9 = false := by kernel_rfl
theorem is9 : isSl Try.prog 9 = false := by kernel_rfl
theorem ze9 : zeroCells? Try.prog 9 = some #[.string ⟨#[]⟩] := by kernel_rfl
def sr9 := @str_rules2 Try.prog 9 Try.underlying9 ip9 is9
def sl9 := @str_len Try.prog 9 Try.underlying9
def si9 := @str_ix Try.prog 9 Try.underlying9
def ss9 := @str_sl Try.prog 9 Try.underlying9 ip9 is9
theorem ip22 : isPtr Try.prog 22 = false := by kernel_rfl
theorem is22 : isSl Try.prog 22 = true := by kernel_rfl
theorem ze22 : zeroCells? Try.prog 22 = some #[.slice none 0 0] := by kernel_rfl
theorem el22 : elemT Try.prog 22 = some 9 := by kernel_rfl
def ll22 := @slice_len Try.prog 22 9 Try.underlying22
def ln22 := @slice_nil Try.prog 22 ip22 is22
def la22 := @slice_ia Try.prog 22 9 1 Try.underlying22 sz9
theorem ip23 : isPtr Try.prog 23 = false := by kernel_rfl
theorem is23 : isSl Try.prog 23 = true := by kernel_rfl
theorem ze23 : zeroCells? Try.prog 23 = some #[.slice none 0 0] := by kernel_rfl
theorem el23 : elemT Try.prog 23 = some 3 := by kernel_rfl
def ll23 := @slice_len Try.prog 23 3 Try.underlying23
def ln23 := @slice_nil Try.prog 23 ip23 is23
def la23 := @slice_ia Try.prog 23 3 1 Try.underlying23 sz3
theorem ip24 : isPtr Try.prog 24 = false := by kernel_rfl
theorem is24 : isSl Try.prog 24 = false := by kernel_rfl
theorem ze24 : zeroCells? Try.prog 24 = some #[.int .i64 0, .slice none 0 0, .slice none 0 0, .int .i64 0] := by kernel_rfl
theorem ip25 : isPtr Try.prog 25 = false := by kernel_rfl
theorem is25 : isSl Try.prog 25 = false := by kernel_rfl
theorem ze25 : zeroCells? Try.prog 25 = some #[.int .i64 0, .slice none 0 0, .slice none 0 0, .int .i64 0] := by kernel_rfl
theorem fa25_0 {b o : Nat} : evFieldAddr Try.prog 25 (.pointer (some ⟨b, o, none⟩)) 0 = some (.pointer (some ⟨b, o + 0, none⟩)) := by kernel_rfl
theorem fa25_1 {b o : Nat} : evFieldAddr Try.prog 25 (.pointer (some ⟨b, o, none⟩)) 1 = some (.pointer (some ⟨b, o + 1, none⟩)) := by kernel_rfl
theorem fa25_2 {b o : Nat} : evFieldAddr Try.prog 25 (.pointer (some ⟨b, o, none⟩)) 2 = some (.pointer (some ⟨b, o + 2, none⟩)) := by kernel_rfl
theorem fa25_3 {b o : Nat} : evFieldAddr Try.prog 25 (.pointer (some ⟨b, o, none⟩)) 3 = some (.pointer (some ⟨b, o + 3, none⟩)) := by kernel_rfl
theorem ip28 : isPtr Try.prog 28 = false := by kernel_rfl
theorem is28 : isSl Try.prog 28 = false := by kernel_rfl
theorem ze28 : zeroCells? Try.prog 28 = some #[.int .i64 0] := by kernel_rfl
theorem ip37 : isPtr Try.prog 37 = false := by kernel_rfl
theorem is37 : isSl Try.prog 37 = false := by kernel_rfl
theorem ip39 : isPtr Try.prog 39 = false := by kernel_rfl
theorem is39 : isSl Try.prog 39 = false := by kernel_rfl
theorem ze39 : zeroCells? Try.prog 39 = some #[.int .u16 0] := by kernel_rfl
theorem ip41 : isPtr Try.prog 41 = false := by kernel_rfl
theorem is41 : isSl Try.prog 41 = true := by kernel_rfl
theorem ze41 : zeroCells? Try.prog 41 = some #[.slice none 0 0] := by kernel_rfl
theorem el41 : elemT Try.prog 41 = some 5 := by kernel_rfl
def ll41 := @slice_len Try.prog 41 5 Try.underlying41
def ln41 := @slice_nil Try.prog 41 ip41 is41
def la41 := @slice_ia Try.prog 41 5 1 Try.underlying41 sz5
theorem ip45 : isPtr Try.prog 45 = true := by kernel_rfl
theorem is45 : isSl Try.prog 45 = false := by kernel_rfl
theorem ze45 : zeroCells? Try.prog 45 = some #[.pointer none] := by kernel_rfl
def pr45 := @ptr_rules Try.prog 45 ip45
theorem ip46 : isPtr Try.prog 46 = false := by kernel_rfl
theorem is46 : isSl Try.prog 46 = false := by kernel_rfl
theorem ze46 : zeroCells? Try.prog 46 = some #[.string ⟨#[]⟩, .int .i64 0] := by kernel_rfl
theorem ip47 : isPtr Try.prog 47 = false := by kernel_rfl
theorem is47 : isSl Try.prog 47 = false := by kernel_rfl
theorem ze47 : zeroCells? Try.prog 47 = some #[.string ⟨#[]⟩, .int .i64 0] := by kernel_rfl
theorem fa47_0 {b o : Nat} : evFieldAddr Try.prog 47 (.pointer (some ⟨b, o, none⟩)) 0 = some (.pointer (some ⟨b, o + 0, none⟩)) := by kernel_rfl
theorem fa47_1 {b o : Nat} : evFieldAddr Try.prog 47 (.pointer (some ⟨b, o, none⟩)) 1 = some (.pointer (some ⟨b, o + 1, none⟩)) := by kernel_rfl
theorem ip49 : isPtr Try.prog 49 = false := by kernel_rfl
theorem is49 : isSl Try.prog 49 = false := by kernel_rfl
theorem ze49 : zeroCells? Try.prog 49 = some #[.int .i64 0, .int .i64 0, .bool false, .bool false] := by kernel_rfl
theorem ip50 : isPtr Try.prog 50 = false := by kernel_rfl
theorem is50 : isSl Try.prog 50 = false := by kernel_rfl
theorem ze50 : zeroCells? Try.prog 50 = some #[.int .i64 0, .int .i64 0, .bool false, .bool false] := by kernel_rfl
theorem fa50_0 {b o : Nat} : evFieldAddr Try.prog 50 (.pointer (some ⟨b, o, none⟩)) 0 = some (.pointer (some ⟨b, o + 0, none⟩)) := by kernel_rfl
theorem fa50_1 {b o : Nat} : evFieldAddr Try.prog 50 (.pointer (some ⟨b, o, none⟩)) 1 = some (.pointer (some ⟨b, o + 1, none⟩)) := by kernel_rfl
theorem fa50_2 {b o : Nat} : evFieldAddr Try.prog 50 (.pointer (some ⟨b, o, none⟩)) 2 = some (.pointer (some ⟨b, o + 2, none⟩)) := by kernel_rfl
theorem fa50_3 {b o : Nat} : evFieldAddr Try.prog 50 (.pointer (some ⟨b, o, none⟩)) 3 = some (.pointer (some ⟨b, o + 3, none⟩)) := by kernel_rfl
theorem ip58 : isPtr Try.prog 58 = false := by kernel_rfl
theorem is58 : isSl Try.prog 58 = false := by kernel_rfl
theorem ip73 : isPtr Try.prog 73 = false := by kernel_rfl
theorem is73 : isSl Try.prog 73 = false := by kernel_rfl
theorem ze73 : zeroCells? Try.prog 73 = some #[.int .u64 0] := by kernel_rfl
def cv3_5 := @cv_rule Try.prog 3 5 .i64 .u8 Try.underlying3 Try.underlying5
def cv3_73 := @cv_rule Try.prog 3 73 .i64 .u64 Try.underlying3 Try.underlying73
def cv5_3 := @cv_rule Try.prog 5 3 .u8 .i64 Try.underlying5 Try.underlying3
def cv39_3 := @cv_rule Try.prog 39 3 .u16 .i64 Try.underlying39 Try.underlying3
theorem by5 : bytesT Try.prog 5 = some 1 := by kernel_rfl
def mk41 := @mk_rule Try.prog 41 5 (.int .u8 0) 1 el41 ze5 sz5 by5
theorem bu25_0_3 (x0 : Int) (x3 : Int) : evBuild Try.prog 25 [(0, .int .i64 x0), (3, .int .i64 x3)] = some (.agg #[.int .i64 x0, .slice none 0 0, .slice none 0 0, .int .i64 x3]) := by kernel_rfl
theorem bu25_0_1_2 (x0 : Int) (x1a : Option Addr) (x1n x1c : Nat) (x2a : Option Addr) (x2n x2c : Nat) : evBuild Try.prog 25 [(0, .int .i64 x0), (1, .slice x1a x1n x1c), (2, .slice x2a x2n x2c)] = some (.agg #[.int .i64 x0, .slice x1a x1n x1c, .slice x2a x2n x2c, .int .i64 0]) := by kernel_rfl
theorem bu25_0_1_3 (x0 : Int) (x1a : Option Addr) (x1n x1c : Nat) (x3 : Int) : evBuild Try.prog 25 [(0, .int .i64 x0), (1, .slice x1a x1n x1c), (3, .int .i64 x3)] = some (.agg #[.int .i64 x0, .slice x1a x1n x1c, .slice none 0 0, .int .i64 x3]) := by kernel_rfl
theorem bu25_0 (x0 : Int) : evBuild Try.prog 25 [(0, .int .i64 x0)] = some (.agg #[.int .i64 x0, .slice none 0 0, .slice none 0 0, .int .i64 0]) := by kernel_rfl
theorem bu47_0 (x0 : ByteArray) : evBuild Try.prog 47 [(0, .string x0)] = some (.agg #[.string x0, .int .i64 0]) := by kernel_rfl
theorem bu25_  : evBuild Try.prog 25 [] = some (.agg #[.int .i64 0, .slice none 0 0, .slice none 0 0, .int .i64 0]) := by kernel_rfl
theorem bu50_0_1_2_3 (x0 : Int) (x1 : Int) (x2 : Bool) (x3 : Bool) : evBuild Try.prog 50 [(0, .int .i64 x0), (1, .int .i64 x1), (2, .bool x2), (3, .bool x3)] = some (.agg #[.int .i64 x0, .int .i64 x1, .bool x2, .bool x3]) := by kernel_rfl
theorem bu50_  : evBuild Try.prog 50 [] = some (.agg #[.int .i64 0, .int .i64 0, .bool false, .bool false]) := by kernel_rfl
theorem bs22_1_0 (x0 : ByteArray) {nid : Nat} : evBuildSlice Try.prog nid 22 1 [(0, .string x0)] = some ⟨.slice (some ⟨nid, 0, none⟩) 1 1, [(nid, some (.cells [.string x0] 9 true))], []⟩ := by kernel_rfl
theorem bs23_1_0 (x0 : Int) {nid : Nat} : evBuildSlice Try.prog nid 23 1 [(0, .int .i64 x0)] = some ⟨.slice (some ⟨nid, 0, none⟩) 1 1, [(nid, some (.cells [.int .i64 x0] 3 true))], []⟩ := by kernel_rfl
theorem bs22_2_0_1 (x0 : ByteArray) (x1 : ByteArray) {nid : Nat} : evBuildSlice Try.prog nid 22 2 [(0, .string x0), (1, .string x1)] = some ⟨.slice (some ⟨nid, 0, none⟩) 2 2, [(nid, some (.cells [.string x0, .string x1] 9 true))], []⟩ := by kernel_rfl
theorem bs41_1_0 (x0 : Int) {nid : Nat} : evBuildSlice Try.prog nid 41 1 [(0, .int .u8 x0)] = some ⟨.slice (some ⟨nid, 0, none⟩) 1 1, [(nid, some (.cells [.int .u8 x0] 5 true))], []⟩ := by kernel_rfl
theorem ap22_22 : AppT Try.prog 22 22 9 1 16 := ⟨by kernel_rfl, ⟨_, Try.underlying22, rfl⟩, by kernel_rfl, by kernel_rfl, ⟨_, ze9, rfl⟩, by decide⟩
theorem ap23_23 : AppT Try.prog 23 23 3 1 8 := ⟨by kernel_rfl, ⟨_, Try.underlying23, rfl⟩, by kernel_rfl, by kernel_rfl, ⟨_, ze3, rfl⟩, by decide⟩
def fxU := And.intro (And.intro (And.intro (And.intro (@Try.underlying3) (@Try.underlying4)) (And.intro (@Try.underlying5) (@Try.underlying9))) (And.intro (And.intro (@Try.underlying22) (@Try.underlying23)) (And.intro (@Try.underlying24) (And.intro (@Try.underlying25) (@Try.underlying28))))) (And.intro (And.intro (And.intro (@Try.underlying37) (@Try.underlying39)) (And.intro (@Try.underlying41) (And.intro (@Try.underlying45) (@Try.underlying46)))) (And.intro (And.intro (@Try.underlying47) (@Try.underlying49)) (And.intro (@Try.underlying50) (And.intro (@Try.underlying58) (@Try.underlying73)))))
def fxSZ := And.intro (And.intro (And.intro (And.intro (And.intro (@sz3) (@sz4)) (And.intro (@sz5) (@sz9))) (And.intro (And.intro (@sz22) (@sz23)) (And.intro (@sz24) (And.intro (@sz25) (@sz28))))) (And.intro (And.intro (And.intro (@sz37) (@sz39)) (And.intro (@sz41) (And.intro (@sz45) (@sz46)))) (And.intro (And.intro (@sz47) (@sz49)) (And.intro (@sz50) (And.intro (@sz58) (@sz73)))))) (And.intro (And.intro (And.intro (And.intro (@ag3) (@ag4)) (And.intro (@ag5) (@ag9))) (And.intro (And.intro (@ag22) (@ag23)) (And.intro (@ag24) (And.intro (@ag25) (@ag28))))) (And.intro (And.intro (And.intro (@ag37) (@ag39)) (And.intro (@ag41) (And.intro (@ag45) (@ag46)))) (And.intro (And.intro (@ag47) (@ag49)) (And.intro (@ag50) (And.intro (@ag58) (@ag73))))))
def fxZE := And.intro (And.intro (And.intro (And.intro (@ze3) (@ze4)) (And.intro (@ze5) (@ze9))) (And.intro (And.intro (@ze22) (@ze23)) (And.intro (@ze24) (@ze25)))) (And.intro (And.intro (And.intro (@ze28) (@ze39)) (And.intro (@ze41) (@ze45))) (And.intro (And.intro (@ze46) (@ze47)) (And.intro (@ze49) (And.intro (@ze50) (@ze73)))))
def fxFA := And.intro (And.intro (And.intro (@fa25_0) (@fa25_1)) (And.intro (@fa25_2) (And.intro (@fa25_3) (@fa47_0)))) (And.intro (And.intro (@fa47_1) (@fa50_0)) (And.intro (@fa50_1) (And.intro (@fa50_2) (@fa50_3))))
theorem fxFE : (undef = undef) = True := noFacts
def fxEL := And.intro (And.intro (@el22) (@el23)) (And.intro (@el41) (@by5))
def fxI := And.intro (And.intro (And.intro (ip3) (And.intro (is3) (ip4))) (And.intro (And.intro (is4) (ip5)) (And.intro (is5) (ip9)))) (And.intro (And.intro (is9) (And.intro (ip28) (is28))) (And.intro (And.intro (ip39) (is39)) (And.intro (ip73) (is73))))
def fxB := And.intro (And.intro (br4) (ln22)) (And.intro (ln23) (And.intro (ln41) (pr45)))
def fxST := sr9
def fxLEN := And.intro (And.intro (sl9) (ll22)) (And.intro (ll23) (ll41))
def fxIX := si9
def fxSS := ss9
def fxIA := And.intro (la22) (And.intro (la23) (la41))
theorem fxEQ : (undef = undef) = True := noFacts
def fxCV := And.intro (And.intro (cv3_5) (cv3_73)) (And.intro (cv5_3) (cv39_3))
def fxMK := mk41
def fxBU := And.intro (And.intro (And.intro (@bu25_0_3) (And.intro (@bu25_0_1_2) (@bu25_0_1_3))) (And.intro (@bu25_0) (And.intro (@bu47_0) (@bu25_)))) (And.intro (And.intro (@bu50_0_1_2_3) (And.intro (@bu50_) (@bs22_1_0))) (And.intro (@bs23_1_0) (And.intro (@bs22_2_0_1) (@bs41_1_0))))
end Go.Proofs.Ytgapflalhgfgkaa
