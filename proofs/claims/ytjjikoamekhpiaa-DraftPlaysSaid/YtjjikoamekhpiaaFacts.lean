/- Closed facts on this seat's program, for the abstract evaluator: written by gen2.py. -/
import Derived.Test.YtjjikoamekhpiaaFwZB
import Derived.Test.YtjjikoamekhpiaaProg
set_option linter.all false
namespace Go.Proofs.Ytjjikoamekhpiaa
open Go.Ab
def prs : FuncId → Nat → List (Nat × Nat)
  | 3, 17 => [(3, 7), (4, 7), (2, 8), (3, 8), (4, 8)]
  | 7, 1 => [(5, 7), (7, 12), (8, 12), (5, 14), (6, 14), (7, 14), (8, 14), (12, 14)]
  | 10, 1 => [(4, 8)]
  | _, _ => []
set_option maxRecDepth 100000 in
theorem prsOk : progOkB Try.prog prs = true := by kernel_rfl
theorem mixed : Try.prog.follows .mixedOrders = true := by kernel_rfl
theorem sz3 : sizeT Try.prog 3 = some 1 := by kernel_rfl
theorem sz4 : sizeT Try.prog 4 = some 1 := by kernel_rfl
theorem sz5 : sizeT Try.prog 5 = some 1 := by kernel_rfl
theorem sz9 : sizeT Try.prog 9 = some 1 := by kernel_rfl
theorem sz22 : sizeT Try.prog 22 = some 1 := by kernel_rfl
theorem sz24 : sizeT Try.prog 24 = some 1 := by kernel_rfl
theorem sz26 : sizeT Try.prog 26 = some 1 := by kernel_rfl
theorem sz27 : sizeT Try.prog 27 = some 1 := by kernel_rfl
theorem sz28 : sizeT Try.prog 28 = some 1 := by kernel_rfl
theorem sz29 : sizeT Try.prog 29 = some 10 := by kernel_rfl
theorem sz30 : sizeT Try.prog 30 = some 10 := by kernel_rfl
theorem sz31 : sizeT Try.prog 31 = some 13 := by kernel_rfl
theorem sz32 : sizeT Try.prog 32 = some 13 := by kernel_rfl
theorem sz35 : sizeT Try.prog 35 = some 2 := by kernel_rfl
theorem sz43 : sizeT Try.prog 43 = some 1 := by kernel_rfl
theorem sz45 : sizeT Try.prog 45 = some 3 := by kernel_rfl
theorem sz46 : sizeT Try.prog 46 = some 3 := by kernel_rfl
theorem ag3 : isAggT Try.prog 3 = some false := by kernel_rfl
theorem ag4 : isAggT Try.prog 4 = some false := by kernel_rfl
theorem ag5 : isAggT Try.prog 5 = some false := by kernel_rfl
theorem ag9 : isAggT Try.prog 9 = some false := by kernel_rfl
theorem ag22 : isAggT Try.prog 22 = some false := by kernel_rfl
theorem ag24 : isAggT Try.prog 24 = some false := by kernel_rfl
theorem ag26 : isAggT Try.prog 26 = some false := by kernel_rfl
theorem ag27 : isAggT Try.prog 27 = some false := by kernel_rfl
theorem ag28 : isAggT Try.prog 28 = some false := by kernel_rfl
theorem ag29 : isAggT Try.prog 29 = some true := by kernel_rfl
theorem ag30 : isAggT Try.prog 30 = some true := by kernel_rfl
theorem ag31 : isAggT Try.prog 31 = some true := by kernel_rfl
theorem ag32 : isAggT Try.prog 32 = some true := by kernel_rfl
theorem ag35 : isAggT Try.prog 35 = some true := by kernel_rfl
theorem ag43 : isAggT Try.prog 43 = some false := by kernel_rfl
theorem ag45 : isAggT Try.prog 45 = some true := by kernel_rfl
theorem ag46 : isAggT Try.prog 46 = some true := by kernel_rfl
theorem ip3 : isPtr Try.prog 3 = false := by kernel_rfl
theorem is3 : isSl Try.prog 3 = false := by kernel_rfl
theorem ze3 : zeroCells? Try.prog 3 = some #[.int .i64 0] := by kernel_rfl
theorem ip4 : isPtr Try.prog 4 = false := by kernel_rfl
theorem is4 : isSl Try.prog 4 = false := by kernel_rfl
theorem ze4 : zeroCells? Try.prog 4 = some #[.bool false] := by kernel_rfl
def br4 := @bool_rules Try.prog 4 Try.underlying4 ip4 is4
theorem ip5 : isPtr Try.prog 5 = false := by kernel_rfl
theorem is5 : isSl Try.prog 5 = false := by kernel_rfl
theorem ze5 : zeroCells? Try.prog 5 = some #[.int .u8 0] := by kernel_rfl
theorem ip9 : isPtr Try.prog 9 = false := by kernel_rfl
theorem is9 : isSl Try.prog 9 = false := by kernel_rfl
theorem ze9 : zeroCells? Try.prog 9 = some #[.string ⟨#[]⟩] := by kernel_rfl
def sr9 := @str_rules2 Try.prog 9 Try.underlying9 ip9 is9
def sl9 := @str_len Try.prog 9 Try.underlying9
def si9 := @str_ix Try.prog 9 Try.underlying9
def ss9 := @str_sl Try.prog 9 Try.underlying9 ip9 is9
theorem ip22 : isPtr Try.prog 22 = false := by kernel_rfl
theorem is22 : isSl Try.prog 22 = true := by kernel_rfl
theorem ze22 : zeroCells? Try.prog 22 = some #[.slice none 0 0] := by kernel_rfl
theorem el22 : elemT Try.prog 22 = some 32 := by kernel_rfl
def ll22 := @slice_len Try.prog 22 32 Try.underlying22
def ln22 := @slice_nil Try.prog 22 ip22 is22
def la22 := @slice_ia Try.prog 22 32 13 Try.underlying22 sz32
theorem ip24 : isPtr Try.prog 24 = true := by kernel_rfl
theorem is24 : isSl Try.prog 24 = false := by kernel_rfl
theorem ze24 : zeroCells? Try.prog 24 = some #[.pointer none] := by kernel_rfl
def pr24 := @ptr_rules Try.prog 24 ip24
theorem ip26 : isPtr Try.prog 26 = false := by kernel_rfl
theorem is26 : isSl Try.prog 26 = true := by kernel_rfl
theorem ze26 : zeroCells? Try.prog 26 = some #[.slice none 0 0] := by kernel_rfl
theorem el26 : elemT Try.prog 26 = some 30 := by kernel_rfl
def ll26 := @slice_len Try.prog 26 30 Try.underlying26
def ln26 := @slice_nil Try.prog 26 ip26 is26
def la26 := @slice_ia Try.prog 26 30 10 Try.underlying26 sz30
theorem ip27 : isPtr Try.prog 27 = false := by kernel_rfl
theorem is27 : isSl Try.prog 27 = true := by kernel_rfl
theorem ze27 : zeroCells? Try.prog 27 = some #[.slice none 0 0] := by kernel_rfl
theorem el27 : elemT Try.prog 27 = some 3 := by kernel_rfl
def ll27 := @slice_len Try.prog 27 3 Try.underlying27
def ln27 := @slice_nil Try.prog 27 ip27 is27
def la27 := @slice_ia Try.prog 27 3 1 Try.underlying27 sz3
theorem ip28 : isPtr Try.prog 28 = false := by kernel_rfl
theorem is28 : isSl Try.prog 28 = true := by kernel_rfl
theorem ze28 : zeroCells? Try.prog 28 = some #[.slice none 0 0] := by kernel_rfl
theorem el28 : elemT Try.prog 28 = some 35 := by kernel_rfl
def ll28 := @slice_len Try.prog 28 35 Try.underlying28
def ln28 := @slice_nil Try.prog 28 ip28 is28
def la28 := @slice_ia Try.prog 28 35 2 Try.underlying28 sz35
theorem ip29 : isPtr Try.prog 29 = false := by kernel_rfl
theorem is29 : isSl Try.prog 29 = false := by kernel_rfl
theorem ze29 : zeroCells? Try.prog 29 = some #[.int .i64 0, .int .i64 0, .int .i64 0, .string ⟨#[]⟩, .string ⟨#[]⟩, .int .i64 0, .int .i64 0, .int .i64 0, .bool false, .int .i64 0] := by kernel_rfl
theorem ip30 : isPtr Try.prog 30 = false := by kernel_rfl
theorem is30 : isSl Try.prog 30 = false := by kernel_rfl
theorem ze30 : zeroCells? Try.prog 30 = some #[.int .i64 0, .int .i64 0, .int .i64 0, .string ⟨#[]⟩, .string ⟨#[]⟩, .int .i64 0, .int .i64 0, .int .i64 0, .bool false, .int .i64 0] := by kernel_rfl
theorem fa30_4 {b o : Nat} : evFieldAddr Try.prog 30 (.pointer (some ⟨b, o, none⟩)) 4 = some (.pointer (some ⟨b, o + 4, none⟩)) := by kernel_rfl
theorem eq30 (a0 b0 : Int) (a1 b1 : Int) (a2 b2 : Int) (a3 b3 : ByteArray) (a4 b4 : ByteArray) (a5 b5 : Int) (a6 b6 : Int) (a7 b7 : Int) (a8 b8 : Bool) (a9 b9 : Int) {xo yo : Operand} : evBin Try.prog .eql 30 xo yo (.agg #[.int .i64 a0, .int .i64 a1, .int .i64 a2, .string a3, .string a4, .int .i64 a5, .int .i64 a6, .int .i64 a7, .bool a8, .int .i64 a9]) (.agg #[.int .i64 b0, .int .i64 b1, .int .i64 b2, .string b3, .string b4, .int .i64 b5, .int .i64 b6, .int .i64 b7, .bool b8, .int .i64 b9]) = some (.bool (((a0 == b0) && ((a1 == b1) && ((a2 == b2) && ((a3 == b3) && ((a4 == b4) && ((a5 == b5) && ((a6 == b6) && ((a7 == b7) && ((a8 == b8) && ((a9 == b9) && true)))))))))))) := eq_agg 10 ip30 is30 (by kernel_rfl) (by kernel_rfl) (by kernel_rfl) (by kernel_rfl)
theorem ne30 (a0 b0 : Int) (a1 b1 : Int) (a2 b2 : Int) (a3 b3 : ByteArray) (a4 b4 : ByteArray) (a5 b5 : Int) (a6 b6 : Int) (a7 b7 : Int) (a8 b8 : Bool) (a9 b9 : Int) {xo yo : Operand} : evBin Try.prog .neq 30 xo yo (.agg #[.int .i64 a0, .int .i64 a1, .int .i64 a2, .string a3, .string a4, .int .i64 a5, .int .i64 a6, .int .i64 a7, .bool a8, .int .i64 a9]) (.agg #[.int .i64 b0, .int .i64 b1, .int .i64 b2, .string b3, .string b4, .int .i64 b5, .int .i64 b6, .int .i64 b7, .bool b8, .int .i64 b9]) = some (.bool (!(((a0 == b0) && ((a1 == b1) && ((a2 == b2) && ((a3 == b3) && ((a4 == b4) && ((a5 == b5) && ((a6 == b6) && ((a7 == b7) && ((a8 == b8) && ((a9 == b9) && true))))))))))))) := ne_agg 10 ip30 is30 (by kernel_rfl) (by kernel_rfl) (by kernel_rfl) (by kernel_rfl)
theorem ip31 : isPtr Try.prog 31 = false := by kernel_rfl
theorem is31 : isSl Try.prog 31 = false := by kernel_rfl
theorem ze31 : zeroCells? Try.prog 31 = some #[.int .i64 0, .int .i64 0, .int .i64 0, .int .i64 0, .int .i64 0, .int .i64 0, .string ⟨#[]⟩, .string ⟨#[]⟩, .int .i64 0, .int .i64 0, .int .i64 0, .bool false, .int .i64 0] := by kernel_rfl
theorem ip32 : isPtr Try.prog 32 = false := by kernel_rfl
theorem is32 : isSl Try.prog 32 = false := by kernel_rfl
theorem ze32 : zeroCells? Try.prog 32 = some #[.int .i64 0, .int .i64 0, .int .i64 0, .int .i64 0, .int .i64 0, .int .i64 0, .string ⟨#[]⟩, .string ⟨#[]⟩, .int .i64 0, .int .i64 0, .int .i64 0, .bool false, .int .i64 0] := by kernel_rfl
theorem fa32_0 {b o : Nat} : evFieldAddr Try.prog 32 (.pointer (some ⟨b, o, none⟩)) 0 = some (.pointer (some ⟨b, o + 0, none⟩)) := by kernel_rfl
theorem fa32_1 {b o : Nat} : evFieldAddr Try.prog 32 (.pointer (some ⟨b, o, none⟩)) 1 = some (.pointer (some ⟨b, o + 1, none⟩)) := by kernel_rfl
theorem fa32_2 {b o : Nat} : evFieldAddr Try.prog 32 (.pointer (some ⟨b, o, none⟩)) 2 = some (.pointer (some ⟨b, o + 2, none⟩)) := by kernel_rfl
theorem fa32_3 {b o : Nat} : evFieldAddr Try.prog 32 (.pointer (some ⟨b, o, none⟩)) 3 = some (.pointer (some ⟨b, o + 3, none⟩)) := by kernel_rfl
theorem ip35 : isPtr Try.prog 35 = false := by kernel_rfl
theorem is35 : isSl Try.prog 35 = false := by kernel_rfl
theorem ze35 : zeroCells? Try.prog 35 = some #[.int .i64 0, .int .i64 0] := by kernel_rfl
def al35 := @array_len Try.prog 35 3 2 Try.underlying35
def aa35 := @array_ia Try.prog 35 3 2 1 Try.underlying35 sz3
def ai35 := @array_ix Try.prog 35 3 2 1 Try.underlying35 sz3 ag3
theorem eq35 (a0 b0 : Int) (a1 b1 : Int) {xo yo : Operand} : evBin Try.prog .eql 35 xo yo (.agg #[.int .i64 a0, .int .i64 a1]) (.agg #[.int .i64 b0, .int .i64 b1]) = some (.bool (((a0 == b0) && ((a1 == b1) && true)))) := eq_agg 10 ip35 is35 (by kernel_rfl) (by kernel_rfl) (by kernel_rfl) (by kernel_rfl)
theorem ne35 (a0 b0 : Int) (a1 b1 : Int) {xo yo : Operand} : evBin Try.prog .neq 35 xo yo (.agg #[.int .i64 a0, .int .i64 a1]) (.agg #[.int .i64 b0, .int .i64 b1]) = some (.bool (!(((a0 == b0) && ((a1 == b1) && true))))) := ne_agg 10 ip35 is35 (by kernel_rfl) (by kernel_rfl) (by kernel_rfl) (by kernel_rfl)
theorem ip43 : isPtr Try.prog 43 = false := by kernel_rfl
theorem is43 : isSl Try.prog 43 = true := by kernel_rfl
theorem ze43 : zeroCells? Try.prog 43 = some #[.slice none 0 0] := by kernel_rfl
theorem el43 : elemT Try.prog 43 = some 5 := by kernel_rfl
def ll43 := @slice_len Try.prog 43 5 Try.underlying43
def ln43 := @slice_nil Try.prog 43 ip43 is43
def la43 := @slice_ia Try.prog 43 5 1 Try.underlying43 sz5
theorem ip45 : isPtr Try.prog 45 = false := by kernel_rfl
theorem is45 : isSl Try.prog 45 = false := by kernel_rfl
theorem ze45 : zeroCells? Try.prog 45 = some #[.slice none 0 0, .slice none 0 0, .slice none 0 0] := by kernel_rfl
theorem ip46 : isPtr Try.prog 46 = false := by kernel_rfl
theorem is46 : isSl Try.prog 46 = false := by kernel_rfl
theorem ze46 : zeroCells? Try.prog 46 = some #[.slice none 0 0, .slice none 0 0, .slice none 0 0] := by kernel_rfl
theorem fa46_0 {b o : Nat} : evFieldAddr Try.prog 46 (.pointer (some ⟨b, o, none⟩)) 0 = some (.pointer (some ⟨b, o + 0, none⟩)) := by kernel_rfl
theorem fa46_1 {b o : Nat} : evFieldAddr Try.prog 46 (.pointer (some ⟨b, o, none⟩)) 1 = some (.pointer (some ⟨b, o + 1, none⟩)) := by kernel_rfl
theorem fa46_2 {b o : Nat} : evFieldAddr Try.prog 46 (.pointer (some ⟨b, o, none⟩)) 2 = some (.pointer (some ⟨b, o + 2, none⟩)) := by kernel_rfl
def cv5_3 := @cv_rule Try.prog 5 3 .u8 .i64 Try.underlying5 Try.underlying3
theorem bu35_0_1 (x0 : Int) (x1 : Int) : evBuild Try.prog 35 [(0, .int .i64 x0), (1, .int .i64 x1)] = some (.agg #[.int .i64 x0, .int .i64 x1]) := by kernel_rfl
theorem bu30_0 (x0 : Int) : evBuild Try.prog 30 [(0, .int .i64 x0)] = some (.agg #[.int .i64 x0, .int .i64 0, .int .i64 0, .string ⟨#[]⟩, .string ⟨#[]⟩, .int .i64 0, .int .i64 0, .int .i64 0, .bool false, .int .i64 0]) := by kernel_rfl
theorem bu30_4 (x4 : ByteArray) : evBuild Try.prog 30 [(4, .string x4)] = some (.agg #[.int .i64 0, .int .i64 0, .int .i64 0, .string ⟨#[]⟩, .string x4, .int .i64 0, .int .i64 0, .int .i64 0, .bool false, .int .i64 0]) := by kernel_rfl
theorem bu46_  : evBuild Try.prog 46 [] = some (.agg #[.slice none 0 0, .slice none 0 0, .slice none 0 0]) := by kernel_rfl
theorem bs26_1_0 (x0_0 : Int) (x0_1 : Int) (x0_2 : Int) (x0_3 : ByteArray) (x0_4 : ByteArray) (x0_5 : Int) (x0_6 : Int) (x0_7 : Int) (x0_8 : Bool) (x0_9 : Int) {nid : Nat} : evBuildSlice Try.prog nid 26 1 [(0, .agg #[.int .i64 x0_0, .int .i64 x0_1, .int .i64 x0_2, .string x0_3, .string x0_4, .int .i64 x0_5, .int .i64 x0_6, .int .i64 x0_7, .bool x0_8, .int .i64 x0_9])] = some ⟨.slice (some ⟨nid, 0, none⟩) 1 1, [(nid, some (.cells [.int .i64 x0_0, .int .i64 x0_1, .int .i64 x0_2, .string x0_3, .string x0_4, .int .i64 x0_5, .int .i64 x0_6, .int .i64 x0_7, .bool x0_8, .int .i64 x0_9] 30 true))], []⟩ := by kernel_rfl
theorem bs27_1_0 (x0 : Int) {nid : Nat} : evBuildSlice Try.prog nid 27 1 [(0, .int .i64 x0)] = some ⟨.slice (some ⟨nid, 0, none⟩) 1 1, [(nid, some (.cells [.int .i64 x0] 3 true))], []⟩ := by kernel_rfl
theorem bs28_1_0 (x0_0 : Int) (x0_1 : Int) {nid : Nat} : evBuildSlice Try.prog nid 28 1 [(0, .agg #[.int .i64 x0_0, .int .i64 x0_1])] = some ⟨.slice (some ⟨nid, 0, none⟩) 1 1, [(nid, some (.cells [.int .i64 x0_0, .int .i64 x0_1] 35 true))], []⟩ := by kernel_rfl
theorem bs26_0_  {nid : Nat} : evBuildSlice Try.prog nid 26 0 [] = some ⟨.slice (some ⟨nid, 0, none⟩) 0 0, [(nid, some (.cells [] 30 true))], []⟩ := by kernel_rfl
theorem bs27_0_  {nid : Nat} : evBuildSlice Try.prog nid 27 0 [] = some ⟨.slice (some ⟨nid, 0, none⟩) 0 0, [(nid, some (.cells [] 3 true))], []⟩ := by kernel_rfl
theorem bs28_0_  {nid : Nat} : evBuildSlice Try.prog nid 28 0 [] = some ⟨.slice (some ⟨nid, 0, none⟩) 0 0, [(nid, some (.cells [] 35 true))], []⟩ := by kernel_rfl
theorem ap26_26 : AppT Try.prog 26 26 30 10 96 := ⟨by kernel_rfl, ⟨_, Try.underlying26, rfl⟩, by kernel_rfl, by kernel_rfl, ⟨_, ze30, rfl⟩, by decide⟩
theorem ap27_27 : AppT Try.prog 27 27 3 1 8 := ⟨by kernel_rfl, ⟨_, Try.underlying27, rfl⟩, by kernel_rfl, by kernel_rfl, ⟨_, ze3, rfl⟩, by decide⟩
theorem ap28_28 : AppT Try.prog 28 28 35 2 16 := ⟨by kernel_rfl, ⟨_, Try.underlying28, rfl⟩, by kernel_rfl, by kernel_rfl, ⟨_, ze35, rfl⟩, by decide⟩
def fxU := And.intro (And.intro (And.intro (And.intro (@Try.underlying3) (@Try.underlying4)) (And.intro (@Try.underlying5) (@Try.underlying9))) (And.intro (And.intro (@Try.underlying22) (@Try.underlying24)) (And.intro (@Try.underlying26) (@Try.underlying27)))) (And.intro (And.intro (And.intro (@Try.underlying28) (@Try.underlying29)) (And.intro (@Try.underlying30) (@Try.underlying31))) (And.intro (And.intro (@Try.underlying32) (@Try.underlying35)) (And.intro (@Try.underlying43) (And.intro (@Try.underlying45) (@Try.underlying46)))))
def fxSZ := And.intro (And.intro (And.intro (And.intro (And.intro (@sz3) (@sz4)) (And.intro (@sz5) (@sz9))) (And.intro (And.intro (@sz22) (@sz24)) (And.intro (@sz26) (@sz27)))) (And.intro (And.intro (And.intro (@sz28) (@sz29)) (And.intro (@sz30) (@sz31))) (And.intro (And.intro (@sz32) (@sz35)) (And.intro (@sz43) (And.intro (@sz45) (@sz46)))))) (And.intro (And.intro (And.intro (And.intro (@ag3) (@ag4)) (And.intro (@ag5) (@ag9))) (And.intro (And.intro (@ag22) (@ag24)) (And.intro (@ag26) (@ag27)))) (And.intro (And.intro (And.intro (@ag28) (@ag29)) (And.intro (@ag30) (@ag31))) (And.intro (And.intro (@ag32) (@ag35)) (And.intro (@ag43) (And.intro (@ag45) (@ag46))))))
def fxZE := And.intro (And.intro (And.intro (And.intro (@ze3) (@ze4)) (And.intro (@ze5) (@ze9))) (And.intro (And.intro (@ze22) (@ze24)) (And.intro (@ze26) (@ze27)))) (And.intro (And.intro (And.intro (@ze28) (@ze29)) (And.intro (@ze30) (@ze31))) (And.intro (And.intro (@ze32) (@ze35)) (And.intro (@ze43) (And.intro (@ze45) (@ze46)))))
def fxFA := And.intro (And.intro (And.intro (@fa30_4) (@fa32_0)) (And.intro (@fa32_1) (@fa32_2))) (And.intro (And.intro (@fa32_3) (@fa46_0)) (And.intro (@fa46_1) (@fa46_2)))
theorem fxFE : (undef = undef) = True := noFacts
def fxEL := And.intro (And.intro (@el22) (@el26)) (And.intro (@el27) (And.intro (@el28) (@el43)))
def fxI := And.intro (And.intro (And.intro (ip3) (is3)) (And.intro (ip4) (is4))) (And.intro (And.intro (ip5) (is5)) (And.intro (ip9) (is9)))
def fxB := And.intro (And.intro (br4) (And.intro (ln22) (pr24))) (And.intro (And.intro (ln26) (ln27)) (And.intro (ln28) (ln43)))
def fxST := sr9
def fxLEN := And.intro (And.intro (sl9) (And.intro (ll22) (ll26))) (And.intro (And.intro (ll27) (ll28)) (And.intro (al35) (ll43)))
def fxIX := And.intro (si9) (ai35)
def fxSS := ss9
def fxIA := And.intro (And.intro (la22) (And.intro (la26) (la27))) (And.intro (la28) (And.intro (aa35) (la43)))
def fxEQ := And.intro (And.intro (@eq30) (@ne30)) (And.intro (@eq35) (@ne35))
def fxCV := cv5_3
theorem fxMK : (undef = undef) = True := noFacts
def fxBU := And.intro (And.intro (And.intro (@bu35_0_1) (@bu30_0)) (And.intro (@bu30_4) (And.intro (@bu46_) (@bs26_1_0)))) (And.intro (And.intro (@bs27_1_0) (@bs28_1_0)) (And.intro (@bs26_0_) (And.intro (@bs27_0_) (@bs28_0_))))
end Go.Proofs.Ytjjikoamekhpiaa
