/- Closed facts on this seat's program, for the abstract evaluator: written by gen2.py. -/
import Derived.Test.YtllffogcdeempaaFwZB
import Derived.Test.YtllffogcdeempaaProg
set_option linter.all false
namespace Go.Proofs.Ytllffogcdeempaa
open Go.Ab
def prs : FuncId → Nat → List (Nat × Nat)
  | 3, 11 => [(4, 8)]
  | 3, 13 => [(3, 6)]
  | 3, 18 => [(4, 8), (14, 18), (36, 40)]
  | 5, 23 => [(4, 9), (5, 9), (6, 9)]
  | 8, 3 => [(4, 8), (8, 9), (4, 10), (7, 10), (8, 10)]
  | 11, 6 => [(7, 11), (7, 14)]
  | _, _ => []
set_option maxRecDepth 100000 in
theorem prsOk : progOkB Try.prog prs = true := by kernel_rfl
theorem mixed : Try.prog.follows .mixedOrders = true := by kernel_rfl
theorem sz3 : sizeT Try.prog 3 = some 1 := by kernel_rfl
theorem sz4 : sizeT Try.prog 4 = some 1 := by kernel_rfl
theorem sz5 : sizeT Try.prog 5 = some 1 := by kernel_rfl
theorem sz9 : sizeT Try.prog 9 = some 1 := by kernel_rfl
theorem sz22 : sizeT Try.prog 22 = some 1 := by kernel_rfl
theorem sz24 : sizeT Try.prog 24 = some 1 := by kernel_rfl
theorem sz26 : sizeT Try.prog 26 = some 1 := by kernel_rfl
theorem sz27 : sizeT Try.prog 27 = some 1 := by kernel_rfl
theorem sz28 : sizeT Try.prog 28 = some 1 := by kernel_rfl
theorem sz29 : sizeT Try.prog 29 = some 1 := by kernel_rfl
theorem sz30 : sizeT Try.prog 30 = some 10 := by kernel_rfl
theorem sz31 : sizeT Try.prog 31 = some 10 := by kernel_rfl
theorem sz32 : sizeT Try.prog 32 = some 13 := by kernel_rfl
theorem sz33 : sizeT Try.prog 33 = some 13 := by kernel_rfl
theorem sz34 : sizeT Try.prog 34 = some 14 := by kernel_rfl
theorem sz35 : sizeT Try.prog 35 = some 14 := by kernel_rfl
theorem sz46 : sizeT Try.prog 46 = some 1 := by kernel_rfl
theorem sz47 : sizeT Try.prog 47 = some 1 := by kernel_rfl
theorem sz49 : sizeT Try.prog 49 = some 4 := by kernel_rfl
theorem sz51 : sizeT Try.prog 51 = some 1 := by kernel_rfl
theorem sz52 : sizeT Try.prog 52 = some 1 := by kernel_rfl
theorem ag3 : isAggT Try.prog 3 = some false := by kernel_rfl
theorem ag4 : isAggT Try.prog 4 = some false := by kernel_rfl
theorem ag5 : isAggT Try.prog 5 = some false := by kernel_rfl
theorem ag9 : isAggT Try.prog 9 = some false := by kernel_rfl
theorem ag22 : isAggT Try.prog 22 = some false := by kernel_rfl
theorem ag24 : isAggT Try.prog 24 = some false := by kernel_rfl
theorem ag26 : isAggT Try.prog 26 = some false := by kernel_rfl
theorem ag27 : isAggT Try.prog 27 = some false := by kernel_rfl
theorem ag28 : isAggT Try.prog 28 = some true := by kernel_rfl
theorem ag29 : isAggT Try.prog 29 = some true := by kernel_rfl
theorem ag30 : isAggT Try.prog 30 = some true := by kernel_rfl
theorem ag31 : isAggT Try.prog 31 = some true := by kernel_rfl
theorem ag32 : isAggT Try.prog 32 = some true := by kernel_rfl
theorem ag33 : isAggT Try.prog 33 = some true := by kernel_rfl
theorem ag34 : isAggT Try.prog 34 = some true := by kernel_rfl
theorem ag35 : isAggT Try.prog 35 = some true := by kernel_rfl
theorem ag46 : isAggT Try.prog 46 = some false := by kernel_rfl
theorem ag47 : isAggT Try.prog 47 = some false := by kernel_rfl
theorem ag49 : isAggT Try.prog 49 = some true := by kernel_rfl
theorem ag51 : isAggT Try.prog 51 = some true := by kernel_rfl
theorem ag52 : isAggT Try.prog 52 = some true := by kernel_rfl
theorem ip3 : isPtr Try.prog 3 = false := by kernel_rfl
theorem is3 : isSl Try.prog 3 = false := by kernel_rfl
theorem ze3 : zeroCells? Try.prog 3 = some #[.int .i64 0] := by kernel_rfl
theorem ip4 : isPtr Try.prog 4 = false := by kernel_rfl
theorem is4 : isSl Try.prog 4 = false := by kernel_rfl
theorem ze4 : zeroCells? Try.prog 4 = some #[.bool false] := by kernel_rfl
def br4 := @bool_rules Try.prog 4 Try.underlying4 ip4 is4
theorem ip5 : isPtr Try.prog 5 = false := by kernel_rfl
theorem is5 : isSl Try.prog 5 = false := by kernel_rfl
theorem ze5 : zeroCells? Try.prog 5 = some #[.int .u8 0] := by kernel_rfl
theorem ip9 : isPtr Try.prog 9 = false := by kernel_rfl
theorem is9 : isSl Try.prog 9 = false := by kernel_rfl
theorem ze9 : zeroCells? Try.prog 9 = some #[.string ⟨#[]⟩] := by kernel_rfl
def sr9 := @str_rules2 Try.prog 9 Try.underlying9 ip9 is9
def sl9 := @str_len Try.prog 9 Try.underlying9
def si9 := @str_ix Try.prog 9 Try.underlying9
def ss9 := @str_sl Try.prog 9 Try.underlying9 ip9 is9
theorem ip22 : isPtr Try.prog 22 = false := by kernel_rfl
theorem is22 : isSl Try.prog 22 = true := by kernel_rfl
theorem ze22 : zeroCells? Try.prog 22 = some #[.slice none 0 0] := by kernel_rfl
theorem el22 : elemT Try.prog 22 = some 35 := by kernel_rfl
def ll22 := @slice_len Try.prog 22 35 Try.underlying22
def ln22 := @slice_nil Try.prog 22 ip22 is22
def la22 := @slice_ia Try.prog 22 35 14 Try.underlying22 sz35
theorem ip24 : isPtr Try.prog 24 = true := by kernel_rfl
theorem is24 : isSl Try.prog 24 = false := by kernel_rfl
theorem ze24 : zeroCells? Try.prog 24 = some #[.pointer none] := by kernel_rfl
def pr24 := @ptr_rules Try.prog 24 ip24
theorem ip26 : isPtr Try.prog 26 = true := by kernel_rfl
theorem is26 : isSl Try.prog 26 = false := by kernel_rfl
theorem ze26 : zeroCells? Try.prog 26 = some #[.pointer none] := by kernel_rfl
def pr26 := @ptr_rules Try.prog 26 ip26
theorem ip27 : isPtr Try.prog 27 = false := by kernel_rfl
theorem is27 : isSl Try.prog 27 = true := by kernel_rfl
theorem ze27 : zeroCells? Try.prog 27 = some #[.slice none 0 0] := by kernel_rfl
theorem el27 : elemT Try.prog 27 = some 33 := by kernel_rfl
def ll27 := @slice_len Try.prog 27 33 Try.underlying27
def ln27 := @slice_nil Try.prog 27 ip27 is27
def la27 := @slice_ia Try.prog 27 33 13 Try.underlying27 sz33
theorem ip28 : isPtr Try.prog 28 = false := by kernel_rfl
theorem is28 : isSl Try.prog 28 = false := by kernel_rfl
theorem ze28 : zeroCells? Try.prog 28 = some #[.slice none 0 0] := by kernel_rfl
theorem ip29 : isPtr Try.prog 29 = false := by kernel_rfl
theorem is29 : isSl Try.prog 29 = false := by kernel_rfl
theorem ze29 : zeroCells? Try.prog 29 = some #[.slice none 0 0] := by kernel_rfl
theorem fa29_0 {b o : Nat} : evFieldAddr Try.prog 29 (.pointer (some ⟨b, o, none⟩)) 0 = some (.pointer (some ⟨b, o + 0, none⟩)) := by kernel_rfl
theorem ip30 : isPtr Try.prog 30 = false := by kernel_rfl
theorem is30 : isSl Try.prog 30 = false := by kernel_rfl
theorem ze30 : zeroCells? Try.prog 30 = some #[.int .i64 0, .int .i64 0, .int .i64 0, .string ⟨#[]⟩, .string ⟨#[]⟩, .int .i64 0, .int .i64 0, .int .i64 0, .bool false, .int .i64 0] := by kernel_rfl
theorem ip31 : isPtr Try.prog 31 = false := by kernel_rfl
theorem is31 : isSl Try.prog 31 = false := by kernel_rfl
theorem ze31 : zeroCells? Try.prog 31 = some #[.int .i64 0, .int .i64 0, .int .i64 0, .string ⟨#[]⟩, .string ⟨#[]⟩, .int .i64 0, .int .i64 0, .int .i64 0, .bool false, .int .i64 0] := by kernel_rfl
theorem ip32 : isPtr Try.prog 32 = false := by kernel_rfl
theorem is32 : isSl Try.prog 32 = false := by kernel_rfl
theorem ze32 : zeroCells? Try.prog 32 = some #[.int .i64 0, .int .i64 0, .string ⟨#[]⟩, .int .i64 0, .int .i64 0, .int .i64 0, .string ⟨#[]⟩, .string ⟨#[]⟩, .int .i64 0, .int .i64 0, .int .i64 0, .bool false, .int .i64 0] := by kernel_rfl
theorem ip33 : isPtr Try.prog 33 = false := by kernel_rfl
theorem is33 : isSl Try.prog 33 = false := by kernel_rfl
theorem ze33 : zeroCells? Try.prog 33 = some #[.int .i64 0, .int .i64 0, .string ⟨#[]⟩, .int .i64 0, .int .i64 0, .int .i64 0, .string ⟨#[]⟩, .string ⟨#[]⟩, .int .i64 0, .int .i64 0, .int .i64 0, .bool false, .int .i64 0] := by kernel_rfl
theorem fa33_0 {b o : Nat} : evFieldAddr Try.prog 33 (.pointer (some ⟨b, o, none⟩)) 0 = some (.pointer (some ⟨b, o + 0, none⟩)) := by kernel_rfl
theorem fa33_1 {b o : Nat} : evFieldAddr Try.prog 33 (.pointer (some ⟨b, o, none⟩)) 1 = some (.pointer (some ⟨b, o + 1, none⟩)) := by kernel_rfl
theorem fa33_2 {b o : Nat} : evFieldAddr Try.prog 33 (.pointer (some ⟨b, o, none⟩)) 2 = some (.pointer (some ⟨b, o + 2, none⟩)) := by kernel_rfl
theorem eq33 (a0 b0 : Int) (a1 b1 : Int) (a2 b2 : ByteArray) (a3 b3 : Int) (a4 b4 : Int) (a5 b5 : Int) (a6 b6 : ByteArray) (a7 b7 : ByteArray) (a8 b8 : Int) (a9 b9 : Int) (a10 b10 : Int) (a11 b11 : Bool) (a12 b12 : Int) {xo yo : Operand} : evBin Try.prog .eql 33 xo yo (.agg #[.int .i64 a0, .int .i64 a1, .string a2, .int .i64 a3, .int .i64 a4, .int .i64 a5, .string a6, .string a7, .int .i64 a8, .int .i64 a9, .int .i64 a10, .bool a11, .int .i64 a12]) (.agg #[.int .i64 b0, .int .i64 b1, .string b2, .int .i64 b3, .int .i64 b4, .int .i64 b5, .string b6, .string b7, .int .i64 b8, .int .i64 b9, .int .i64 b10, .bool b11, .int .i64 b12]) = some (.bool (((a0 == b0) && ((a1 == b1) && ((a2 == b2) && (((a3 == b3) && ((a4 == b4) && ((a5 == b5) && ((a6 == b6) && ((a7 == b7) && ((a8 == b8) && ((a9 == b9) && ((a10 == b10) && ((a11 == b11) && ((a12 == b12) && true)))))))))) && true)))))) := eq_agg 10 ip33 is33 (by kernel_rfl) (by kernel_rfl) (by kernel_rfl) (by kernel_rfl)
theorem ne33 (a0 b0 : Int) (a1 b1 : Int) (a2 b2 : ByteArray) (a3 b3 : Int) (a4 b4 : Int) (a5 b5 : Int) (a6 b6 : ByteArray) (a7 b7 : ByteArray) (a8 b8 : Int) (a9 b9 : Int) (a10 b10 : Int) (a11 b11 : Bool) (a12 b12 : Int) {xo yo : Operand} : evBin Try.prog .neq 33 xo yo (.agg #[.int .i64 a0, .int .i64 a1, .string a2, .int .i64 a3, .int .i64 a4, .int .i64 a5, .string a6, .string a7, .int .i64 a8, .int .i64 a9, .int .i64 a10, .bool a11, .int .i64 a12]) (.agg #[.int .i64 b0, .int .i64 b1, .string b2, .int .i64 b3, .int .i64 b4, .int .i64 b5, .string b6, .string b7, .int .i64 b8, .int .i64 b9, .int .i64 b10, .bool b11, .int .i64 b12]) = some (.bool (!(((a0 == b0) && ((a1 == b1) && ((a2 == b2) && (((a3 == b3) && ((a4 == b4) && ((a5 == b5) && ((a6 == b6) && ((a7 == b7) && ((a8 == b8) && ((a9 == b9) && ((a10 == b10) && ((a11 == b11) && ((a12 == b12) && true)))))))))) && true))))))) := ne_agg 10 ip33 is33 (by kernel_rfl) (by kernel_rfl) (by kernel_rfl) (by kernel_rfl)
theorem ip34 : isPtr Try.prog 34 = false := by kernel_rfl
theorem is34 : isSl Try.prog 34 = false := by kernel_rfl
theorem ze34 : zeroCells? Try.prog 34 = some #[.int .i64 0, .int .i64 0, .int .i64 0, .string ⟨#[]⟩, .int .i64 0, .int .i64 0, .int .i64 0, .string ⟨#[]⟩, .string ⟨#[]⟩, .int .i64 0, .int .i64 0, .int .i64 0, .bool false, .int .i64 0] := by kernel_rfl
theorem ip35 : isPtr Try.prog 35 = false := by kernel_rfl
theorem is35 : isSl Try.prog 35 = false := by kernel_rfl
theorem ze35 : zeroCells? Try.prog 35 = some #[.int .i64 0, .int .i64 0, .int .i64 0, .string ⟨#[]⟩, .int .i64 0, .int .i64 0, .int .i64 0, .string ⟨#[]⟩, .string ⟨#[]⟩, .int .i64 0, .int .i64 0, .int .i64 0, .bool false, .int .i64 0] := by kernel_rfl
theorem fa35_0 {b o : Nat} : evFieldAddr Try.prog 35 (.pointer (some ⟨b, o, none⟩)) 0 = some (.pointer (some ⟨b, o + 0, none⟩)) := by kernel_rfl
theorem fa35_1 {b o : Nat} : evFieldAddr Try.prog 35 (.pointer (some ⟨b, o, none⟩)) 1 = some (.pointer (some ⟨b, o + 1, none⟩)) := by kernel_rfl
theorem ip46 : isPtr Try.prog 46 = false := by kernel_rfl
theorem is46 : isSl Try.prog 46 = true := by kernel_rfl
theorem ze46 : zeroCells? Try.prog 46 = some #[.slice none 0 0] := by kernel_rfl
theorem el46 : elemT Try.prog 46 = some 5 := by kernel_rfl
def ll46 := @slice_len Try.prog 46 5 Try.underlying46
def ln46 := @slice_nil Try.prog 46 ip46 is46
def la46 := @slice_ia Try.prog 46 5 1 Try.underlying46 sz5
theorem ip47 : isPtr Try.prog 47 = false := by kernel_rfl
theorem is47 : isSl Try.prog 47 = true := by kernel_rfl
theorem ze47 : zeroCells? Try.prog 47 = some #[.slice none 0 0] := by kernel_rfl
theorem el47 : elemT Try.prog 47 = some 4 := by kernel_rfl
def ll47 := @slice_len Try.prog 47 4 Try.underlying47
def ln47 := @slice_nil Try.prog 47 ip47 is47
def la47 := @slice_ia Try.prog 47 4 1 Try.underlying47 sz4
theorem ip49 : isPtr Try.prog 49 = false := by kernel_rfl
theorem is49 : isSl Try.prog 49 = false := by kernel_rfl
theorem ze49 : zeroCells? Try.prog 49 = some #[.int .i64 0, .int .i64 0, .int .i64 0, .int .i64 0] := by kernel_rfl
def al49 := @array_len Try.prog 49 3 4 Try.underlying49
def aa49 := @array_ia Try.prog 49 3 4 1 Try.underlying49 sz3
def ai49 := @array_ix Try.prog 49 3 4 1 Try.underlying49 sz3 ag3
theorem ip51 : isPtr Try.prog 51 = false := by kernel_rfl
theorem is51 : isSl Try.prog 51 = false := by kernel_rfl
theorem ze51 : zeroCells? Try.prog 51 = some #[.slice none 0 0] := by kernel_rfl
theorem ip52 : isPtr Try.prog 52 = false := by kernel_rfl
theorem is52 : isSl Try.prog 52 = false := by kernel_rfl
theorem ze52 : zeroCells? Try.prog 52 = some #[.slice none 0 0] := by kernel_rfl
theorem fa52_0 {b o : Nat} : evFieldAddr Try.prog 52 (.pointer (some ⟨b, o, none⟩)) 0 = some (.pointer (some ⟨b, o + 0, none⟩)) := by kernel_rfl
def cv3_5 := @cv_rule Try.prog 3 5 .i64 .u8 Try.underlying3 Try.underlying5
def cv5_3 := @cv_rule Try.prog 5 3 .u8 .i64 Try.underlying5 Try.underlying3
theorem by4 : bytesT Try.prog 4 = some 1 := by kernel_rfl
def mk47 := @mk_rule Try.prog 47 4 (.bool false) 1 el47 ze4 sz4 by4
theorem bu29_  : evBuild Try.prog 29 [] = some (.agg #[.slice none 0 0]) := by kernel_rfl
theorem bu33_0_1 (x0 : Int) (x1 : Int) : evBuild Try.prog 33 [(0, .int .i64 x0), (1, .int .i64 x1)] = some (.agg #[.int .i64 x0, .int .i64 x1, .string ⟨#[]⟩, .int .i64 0, .int .i64 0, .int .i64 0, .string ⟨#[]⟩, .string ⟨#[]⟩, .int .i64 0, .int .i64 0, .int .i64 0, .bool false, .int .i64 0]) := by kernel_rfl
theorem bu33_0_2 (x0 : Int) (x2 : ByteArray) : evBuild Try.prog 33 [(0, .int .i64 x0), (2, .string x2)] = some (.agg #[.int .i64 x0, .int .i64 0, .string x2, .int .i64 0, .int .i64 0, .int .i64 0, .string ⟨#[]⟩, .string ⟨#[]⟩, .int .i64 0, .int .i64 0, .int .i64 0, .bool false, .int .i64 0]) := by kernel_rfl
theorem bu33_0 (x0 : Int) : evBuild Try.prog 33 [(0, .int .i64 x0)] = some (.agg #[.int .i64 x0, .int .i64 0, .string ⟨#[]⟩, .int .i64 0, .int .i64 0, .int .i64 0, .string ⟨#[]⟩, .string ⟨#[]⟩, .int .i64 0, .int .i64 0, .int .i64 0, .bool false, .int .i64 0]) := by kernel_rfl
theorem bu33_  : evBuild Try.prog 33 [] = some (.agg #[.int .i64 0, .int .i64 0, .string ⟨#[]⟩, .int .i64 0, .int .i64 0, .int .i64 0, .string ⟨#[]⟩, .string ⟨#[]⟩, .int .i64 0, .int .i64 0, .int .i64 0, .bool false, .int .i64 0]) := by kernel_rfl
theorem bu52_  : evBuild Try.prog 52 [] = some (.agg #[.slice none 0 0]) := by kernel_rfl
theorem bs46_1_0 (x0 : Int) {nid : Nat} : evBuildSlice Try.prog nid 46 1 [(0, .int .u8 x0)] = some ⟨.slice (some ⟨nid, 0, none⟩) 1 1, [(nid, some (.cells [.int .u8 x0] 5 true))], []⟩ := by kernel_rfl
theorem bs27_1_0 (x0_0 : Int) (x0_1 : Int) (x0_2 : ByteArray) (x0_3_0 : Int) (x0_3_1 : Int) (x0_3_2 : Int) (x0_3_3 : ByteArray) (x0_3_4 : ByteArray) (x0_3_5 : Int) (x0_3_6 : Int) (x0_3_7 : Int) (x0_3_8 : Bool) (x0_3_9 : Int) {nid : Nat} : evBuildSlice Try.prog nid 27 1 [(0, .agg #[.int .i64 x0_0, .int .i64 x0_1, .string x0_2, .int .i64 x0_3_0, .int .i64 x0_3_1, .int .i64 x0_3_2, .string x0_3_3, .string x0_3_4, .int .i64 x0_3_5, .int .i64 x0_3_6, .int .i64 x0_3_7, .bool x0_3_8, .int .i64 x0_3_9])] = some ⟨.slice (some ⟨nid, 0, none⟩) 1 1, [(nid, some (.cells [.int .i64 x0_0, .int .i64 x0_1, .string x0_2, .int .i64 x0_3_0, .int .i64 x0_3_1, .int .i64 x0_3_2, .string x0_3_3, .string x0_3_4, .int .i64 x0_3_5, .int .i64 x0_3_6, .int .i64 x0_3_7, .bool x0_3_8, .int .i64 x0_3_9] 33 true))], []⟩ := by kernel_rfl
theorem bs27_0_  {nid : Nat} : evBuildSlice Try.prog nid 27 0 [] = some ⟨.slice (some ⟨nid, 0, none⟩) 0 0, [(nid, some (.cells [] 33 true))], []⟩ := by kernel_rfl
theorem ap27_27 : AppT Try.prog 27 27 33 13 128 := ⟨by kernel_rfl, ⟨_, Try.underlying27, rfl⟩, by kernel_rfl, by kernel_rfl, ⟨_, ze33, rfl⟩, by decide⟩
def fxU := And.intro (And.intro (And.intro (And.intro (@Try.underlying3) (@Try.underlying4)) (And.intro (@Try.underlying5) (And.intro (@Try.underlying9) (@Try.underlying22)))) (And.intro (And.intro (@Try.underlying24) (@Try.underlying26)) (And.intro (@Try.underlying27) (And.intro (@Try.underlying28) (@Try.underlying29))))) (And.intro (And.intro (And.intro (@Try.underlying30) (@Try.underlying31)) (And.intro (@Try.underlying32) (And.intro (@Try.underlying33) (@Try.underlying34)))) (And.intro (And.intro (@Try.underlying35) (And.intro (@Try.underlying46) (@Try.underlying47))) (And.intro (@Try.underlying49) (And.intro (@Try.underlying51) (@Try.underlying52)))))
def fxSZ := And.intro (And.intro (And.intro (And.intro (And.intro (@sz3) (@sz4)) (And.intro (@sz5) (And.intro (@sz9) (@sz22)))) (And.intro (And.intro (@sz24) (@sz26)) (And.intro (@sz27) (And.intro (@sz28) (@sz29))))) (And.intro (And.intro (And.intro (@sz30) (@sz31)) (And.intro (@sz32) (And.intro (@sz33) (@sz34)))) (And.intro (And.intro (@sz35) (And.intro (@sz46) (@sz47))) (And.intro (@sz49) (And.intro (@sz51) (@sz52)))))) (And.intro (And.intro (And.intro (And.intro (@ag3) (@ag4)) (And.intro (@ag5) (And.intro (@ag9) (@ag22)))) (And.intro (And.intro (@ag24) (@ag26)) (And.intro (@ag27) (And.intro (@ag28) (@ag29))))) (And.intro (And.intro (And.intro (@ag30) (@ag31)) (And.intro (@ag32) (And.intro (@ag33) (@ag34)))) (And.intro (And.intro (@ag35) (And.intro (@ag46) (@ag47))) (And.intro (@ag49) (And.intro (@ag51) (@ag52))))))
def fxZE := And.intro (And.intro (And.intro (And.intro (@ze3) (@ze4)) (And.intro (@ze5) (And.intro (@ze9) (@ze22)))) (And.intro (And.intro (@ze24) (@ze26)) (And.intro (@ze27) (And.intro (@ze28) (@ze29))))) (And.intro (And.intro (And.intro (@ze30) (@ze31)) (And.intro (@ze32) (And.intro (@ze33) (@ze34)))) (And.intro (And.intro (@ze35) (And.intro (@ze46) (@ze47))) (And.intro (@ze49) (And.intro (@ze51) (@ze52)))))
def fxFA := And.intro (And.intro (@fa29_0) (And.intro (@fa33_0) (@fa33_1))) (And.intro (And.intro (@fa33_2) (@fa35_0)) (And.intro (@fa35_1) (@fa52_0)))
theorem fxFE : (undef = undef) = True := noFacts
def fxEL := And.intro (And.intro (@el22) (@el27)) (And.intro (@el46) (And.intro (@el47) (@by4)))
def fxI := And.intro (And.intro (And.intro (ip3) (is3)) (And.intro (ip4) (is4))) (And.intro (And.intro (ip5) (is5)) (And.intro (ip9) (is9)))
def fxB := And.intro (And.intro (br4) (And.intro (ln22) (pr24))) (And.intro (And.intro (pr26) (ln27)) (And.intro (ln46) (ln47)))
def fxST := sr9
def fxLEN := And.intro (And.intro (sl9) (And.intro (ll22) (ll27))) (And.intro (ll46) (And.intro (ll47) (al49)))
def fxIX := And.intro (si9) (ai49)
def fxSS := ss9
def fxIA := And.intro (And.intro (la22) (la27)) (And.intro (la46) (And.intro (la47) (aa49)))
def fxEQ := And.intro (@eq33) (@ne33)
def fxCV := And.intro (cv3_5) (cv5_3)
def fxMK := mk47
def fxBU := And.intro (And.intro (And.intro (@bu29_) (@bu33_0_1)) (And.intro (@bu33_0_2) (@bu33_0))) (And.intro (And.intro (@bu33_) (@bu52_)) (And.intro (@bs46_1_0) (And.intro (@bs27_1_0) (@bs27_0_))))
end Go.Proofs.Ytllffogcdeempaa
