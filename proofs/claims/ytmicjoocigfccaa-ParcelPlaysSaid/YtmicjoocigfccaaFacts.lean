/- Closed facts on this seat's program, for the abstract evaluator: written by gen2.py. -/
import Derived.Test.YtmicjoocigfccaaFwZB
import Derived.Test.YtmicjoocigfccaaProg
set_option linter.all false
namespace Go.Proofs.Ytmicjoocigfccaa
open Go.Ab
def prs : FuncId → Nat → List (Nat × Nat)
  | 3, 16 => [(7, 10), (7, 12), (7, 14)]
  | 3, 29 => [(4, 8)]
  | 10, 4 => [(6, 12), (8, 12), (8, 16)]
  | 11, 4 => [(6, 12), (8, 12), (8, 16)]
  | 14, 3 => [(3, 12), (7, 12), (11, 12), (7, 13), (11, 13)]
  | 15, 3 => [(3, 12), (7, 12), (11, 12), (7, 13), (11, 13)]
  | _, _ => []
set_option maxRecDepth 100000 in
theorem prsOk : progOkB Try.prog prs = true := by kernel_rfl
theorem mixed : Try.prog.follows .mixedOrders = true := by kernel_rfl
theorem sz3 : sizeT Try.prog 3 = some 1 := by kernel_rfl
theorem sz4 : sizeT Try.prog 4 = some 1 := by kernel_rfl
theorem sz5 : sizeT Try.prog 5 = some 1 := by kernel_rfl
theorem sz9 : sizeT Try.prog 9 = some 1 := by kernel_rfl
theorem sz22 : sizeT Try.prog 22 = some 1 := by kernel_rfl
theorem sz24 : sizeT Try.prog 24 = some 1 := by kernel_rfl
theorem sz26 : sizeT Try.prog 26 = some 1 := by kernel_rfl
theorem sz27 : sizeT Try.prog 27 = some 10 := by kernel_rfl
theorem sz28 : sizeT Try.prog 28 = some 10 := by kernel_rfl
theorem sz29 : sizeT Try.prog 29 = some 14 := by kernel_rfl
theorem sz30 : sizeT Try.prog 30 = some 14 := by kernel_rfl
theorem sz31 : sizeT Try.prog 31 = some 3 := by kernel_rfl
theorem sz32 : sizeT Try.prog 32 = some 3 := by kernel_rfl
theorem sz33 : sizeT Try.prog 33 = some 7 := by kernel_rfl
theorem sz34 : sizeT Try.prog 34 = some 7 := by kernel_rfl
theorem sz35 : sizeT Try.prog 35 = some 1 := by kernel_rfl
theorem sz47 : sizeT Try.prog 47 = some 1 := by kernel_rfl
theorem sz48 : sizeT Try.prog 48 = some 1 := by kernel_rfl
theorem sz51 : sizeT Try.prog 51 = some 14 := by kernel_rfl
theorem sz52 : sizeT Try.prog 52 = some 14 := by kernel_rfl
theorem ag3 : isAggT Try.prog 3 = some false := by kernel_rfl
theorem ag4 : isAggT Try.prog 4 = some false := by kernel_rfl
theorem ag5 : isAggT Try.prog 5 = some false := by kernel_rfl
theorem ag9 : isAggT Try.prog 9 = some false := by kernel_rfl
theorem ag22 : isAggT Try.prog 22 = some false := by kernel_rfl
theorem ag24 : isAggT Try.prog 24 = some false := by kernel_rfl
theorem ag26 : isAggT Try.prog 26 = some false := by kernel_rfl
theorem ag27 : isAggT Try.prog 27 = some true := by kernel_rfl
theorem ag28 : isAggT Try.prog 28 = some true := by kernel_rfl
theorem ag29 : isAggT Try.prog 29 = some true := by kernel_rfl
theorem ag30 : isAggT Try.prog 30 = some true := by kernel_rfl
theorem ag31 : isAggT Try.prog 31 = some true := by kernel_rfl
theorem ag32 : isAggT Try.prog 32 = some true := by kernel_rfl
theorem ag33 : isAggT Try.prog 33 = some true := by kernel_rfl
theorem ag34 : isAggT Try.prog 34 = some true := by kernel_rfl
theorem ag35 : isAggT Try.prog 35 = some false := by kernel_rfl
theorem ag47 : isAggT Try.prog 47 = some false := by kernel_rfl
theorem ag48 : isAggT Try.prog 48 = some false := by kernel_rfl
theorem ag51 : isAggT Try.prog 51 = some true := by kernel_rfl
theorem ag52 : isAggT Try.prog 52 = some true := by kernel_rfl
theorem ip3 : isPtr Try.prog 3 = false := by kernel_rfl
theorem is3 : isSl Try.prog 3 = false := by kernel_rfl
theorem ze3 : zeroCells? Try.prog 3 = some #[.int .i64 0] := by kernel_rfl
theorem ip4 : isPtr Try.prog 4 = false := by kernel_rfl
theorem is4 : isSl Try.prog 4 = false := by kernel_rfl
theorem ze4 : zeroCells? Try.prog 4 = some #[.bool false] := by kernel_rfl
def br4 := @bool_rules Try.prog 4 Try.underlying4 ip4 is4
theorem ip5 : isPtr Try.prog 5 = false := by kernel_rfl
theorem is5 : isSl Try.prog 5 = false := by kernel_rfl
theorem ze5 : zeroCells? Try.prog 5 = some #[.int .u8 0] := by kernel_rfl
theorem ip9 : isPtr Try.prog 9 = false := by kernel_rfl
theorem is9 : isSl Try.prog 9 = false := by kernel_rfl
theorem ze9 : zeroCells? Try.prog 9 = some #[.string ⟨#[]⟩] := by kernel_rfl
def sr9 := @str_rules2 Try.prog 9 Try.underlying9 ip9 is9
def sl9 := @str_len Try.prog 9 Try.underlying9
def si9 := @str_ix Try.prog 9 Try.underlying9
def ss9 := @str_sl Try.prog 9 Try.underlying9 ip9 is9
theorem ip22 : isPtr Try.prog 22 = false := by kernel_rfl
theorem is22 : isSl Try.prog 22 = true := by kernel_rfl
theorem ze22 : zeroCells? Try.prog 22 = some #[.slice none 0 0] := by kernel_rfl
theorem el22 : elemT Try.prog 22 = some 34 := by kernel_rfl
def ll22 := @slice_len Try.prog 22 34 Try.underlying22
def ln22 := @slice_nil Try.prog 22 ip22 is22
def la22 := @slice_ia Try.prog 22 34 7 Try.underlying22 sz34
theorem ip24 : isPtr Try.prog 24 = true := by kernel_rfl
theorem is24 : isSl Try.prog 24 = false := by kernel_rfl
theorem ze24 : zeroCells? Try.prog 24 = some #[.pointer none] := by kernel_rfl
def pr24 := @ptr_rules Try.prog 24 ip24
theorem ip26 : isPtr Try.prog 26 = true := by kernel_rfl
theorem is26 : isSl Try.prog 26 = false := by kernel_rfl
theorem ze26 : zeroCells? Try.prog 26 = some #[.pointer none] := by kernel_rfl
def pr26 := @ptr_rules Try.prog 26 ip26
theorem ip27 : isPtr Try.prog 27 = false := by kernel_rfl
theorem is27 : isSl Try.prog 27 = false := by kernel_rfl
theorem ze27 : zeroCells? Try.prog 27 = some #[.int .i64 0, .int .i64 0, .int .i64 0, .string ⟨#[]⟩, .string ⟨#[]⟩, .int .i64 0, .int .i64 0, .int .i64 0, .bool false, .int .i64 0] := by kernel_rfl
theorem ip28 : isPtr Try.prog 28 = false := by kernel_rfl
theorem is28 : isSl Try.prog 28 = false := by kernel_rfl
theorem ze28 : zeroCells? Try.prog 28 = some #[.int .i64 0, .int .i64 0, .int .i64 0, .string ⟨#[]⟩, .string ⟨#[]⟩, .int .i64 0, .int .i64 0, .int .i64 0, .bool false, .int .i64 0] := by kernel_rfl
theorem fa28_2 {b o : Nat} : evFieldAddr Try.prog 28 (.pointer (some ⟨b, o, none⟩)) 2 = some (.pointer (some ⟨b, o + 2, none⟩)) := by kernel_rfl
theorem fa28_3 {b o : Nat} : evFieldAddr Try.prog 28 (.pointer (some ⟨b, o, none⟩)) 3 = some (.pointer (some ⟨b, o + 3, none⟩)) := by kernel_rfl
theorem fa28_5 {b o : Nat} : evFieldAddr Try.prog 28 (.pointer (some ⟨b, o, none⟩)) 5 = some (.pointer (some ⟨b, o + 5, none⟩)) := by kernel_rfl
theorem fa28_6 {b o : Nat} : evFieldAddr Try.prog 28 (.pointer (some ⟨b, o, none⟩)) 6 = some (.pointer (some ⟨b, o + 6, none⟩)) := by kernel_rfl
theorem eq28 (a0 b0 : Int) (a1 b1 : Int) (a2 b2 : Int) (a3 b3 : ByteArray) (a4 b4 : ByteArray) (a5 b5 : Int) (a6 b6 : Int) (a7 b7 : Int) (a8 b8 : Bool) (a9 b9 : Int) {xo yo : Operand} : evBin Try.prog .eql 28 xo yo (.agg #[.int .i64 a0, .int .i64 a1, .int .i64 a2, .string a3, .string a4, .int .i64 a5, .int .i64 a6, .int .i64 a7, .bool a8, .int .i64 a9]) (.agg #[.int .i64 b0, .int .i64 b1, .int .i64 b2, .string b3, .string b4, .int .i64 b5, .int .i64 b6, .int .i64 b7, .bool b8, .int .i64 b9]) = some (.bool (((a0 == b0) && ((a1 == b1) && ((a2 == b2) && ((a3 == b3) && ((a4 == b4) && ((a5 == b5) && ((a6 == b6) && ((a7 == b7) && ((a8 == b8) && ((a9 == b9) && true)))))))))))) := eq_agg 10 ip28 is28 (by kernel_rfl) (by kernel_rfl) (by kernel_rfl) (by kernel_rfl)
theorem ne28 (a0 b0 : Int) (a1 b1 : Int) (a2 b2 : Int) (a3 b3 : ByteArray) (a4 b4 : ByteArray) (a5 b5 : Int) (a6 b6 : Int) (a7 b7 : Int) (a8 b8 : Bool) (a9 b9 : Int) {xo yo : Operand} : evBin Try.prog .neq 28 xo yo (.agg #[.int .i64 a0, .int .i64 a1, .int .i64 a2, .string a3, .string a4, .int .i64 a5, .int .i64 a6, .int .i64 a7, .bool a8, .int .i64 a9]) (.agg #[.int .i64 b0, .int .i64 b1, .int .i64 b2, .string b3, .string b4, .int .i64 b5, .int .i64 b6, .int .i64 b7, .bool b8, .int .i64 b9]) = some (.bool (!(((a0 == b0) && ((a1 == b1) && ((a2 == b2) && ((a3 == b3) && ((a4 == b4) && ((a5 == b5) && ((a6 == b6) && ((a7 == b7) && ((a8 == b8) && ((a9 == b9) && true))))))))))))) := ne_agg 10 ip28 is28 (by kernel_rfl) (by kernel_rfl) (by kernel_rfl) (by kernel_rfl)
theorem ip29 : isPtr Try.prog 29 = false := by kernel_rfl
theorem is29 : isSl Try.prog 29 = false := by kernel_rfl
theorem ze29 : zeroCells? Try.prog 29 = some #[.bool false, .bool false, .int .i64 0, .int .i64 0, .int .i64 0, .string ⟨#[]⟩, .string ⟨#[]⟩, .int .i64 0, .int .i64 0, .int .i64 0, .bool false, .int .i64 0, .string ⟨#[]⟩, .int .i64 0] := by kernel_rfl
theorem ip30 : isPtr Try.prog 30 = false := by kernel_rfl
theorem is30 : isSl Try.prog 30 = false := by kernel_rfl
theorem ze30 : zeroCells? Try.prog 30 = some #[.bool false, .bool false, .int .i64 0, .int .i64 0, .int .i64 0, .string ⟨#[]⟩, .string ⟨#[]⟩, .int .i64 0, .int .i64 0, .int .i64 0, .bool false, .int .i64 0, .string ⟨#[]⟩, .int .i64 0] := by kernel_rfl
theorem fa30_0 {b o : Nat} : evFieldAddr Try.prog 30 (.pointer (some ⟨b, o, none⟩)) 0 = some (.pointer (some ⟨b, o + 0, none⟩)) := by kernel_rfl
theorem fa30_1 {b o : Nat} : evFieldAddr Try.prog 30 (.pointer (some ⟨b, o, none⟩)) 1 = some (.pointer (some ⟨b, o + 1, none⟩)) := by kernel_rfl
theorem fa30_2 {b o : Nat} : evFieldAddr Try.prog 30 (.pointer (some ⟨b, o, none⟩)) 2 = some (.pointer (some ⟨b, o + 2, none⟩)) := by kernel_rfl
theorem fa30_3 {b o : Nat} : evFieldAddr Try.prog 30 (.pointer (some ⟨b, o, none⟩)) 3 = some (.pointer (some ⟨b, o + 12, none⟩)) := by kernel_rfl
theorem fa30_4 {b o : Nat} : evFieldAddr Try.prog 30 (.pointer (some ⟨b, o, none⟩)) 4 = some (.pointer (some ⟨b, o + 13, none⟩)) := by kernel_rfl
theorem ip31 : isPtr Try.prog 31 = false := by kernel_rfl
theorem is31 : isSl Try.prog 31 = false := by kernel_rfl
theorem ze31 : zeroCells? Try.prog 31 = some #[.int .i64 0, .int .i64 0, .int .i64 0] := by kernel_rfl
theorem ip32 : isPtr Try.prog 32 = false := by kernel_rfl
theorem is32 : isSl Try.prog 32 = false := by kernel_rfl
theorem ze32 : zeroCells? Try.prog 32 = some #[.int .i64 0, .int .i64 0, .int .i64 0] := by kernel_rfl
theorem fa32_0 {b o : Nat} : evFieldAddr Try.prog 32 (.pointer (some ⟨b, o, none⟩)) 0 = some (.pointer (some ⟨b, o + 0, none⟩)) := by kernel_rfl
theorem fa32_1 {b o : Nat} : evFieldAddr Try.prog 32 (.pointer (some ⟨b, o, none⟩)) 1 = some (.pointer (some ⟨b, o + 1, none⟩)) := by kernel_rfl
theorem fa32_2 {b o : Nat} : evFieldAddr Try.prog 32 (.pointer (some ⟨b, o, none⟩)) 2 = some (.pointer (some ⟨b, o + 2, none⟩)) := by kernel_rfl
theorem ip33 : isPtr Try.prog 33 = false := by kernel_rfl
theorem is33 : isSl Try.prog 33 = false := by kernel_rfl
theorem ze33 : zeroCells? Try.prog 33 = some #[.int .i64 0, .int .i64 0, .string ⟨#[]⟩, .string ⟨#[]⟩, .int .i64 0, .int .i64 0, .int .i64 0] := by kernel_rfl
theorem ip34 : isPtr Try.prog 34 = false := by kernel_rfl
theorem is34 : isSl Try.prog 34 = false := by kernel_rfl
theorem ze34 : zeroCells? Try.prog 34 = some #[.int .i64 0, .int .i64 0, .string ⟨#[]⟩, .string ⟨#[]⟩, .int .i64 0, .int .i64 0, .int .i64 0] := by kernel_rfl
theorem fa34_0 {b o : Nat} : evFieldAddr Try.prog 34 (.pointer (some ⟨b, o, none⟩)) 0 = some (.pointer (some ⟨b, o + 0, none⟩)) := by kernel_rfl
theorem fa34_1 {b o : Nat} : evFieldAddr Try.prog 34 (.pointer (some ⟨b, o, none⟩)) 1 = some (.pointer (some ⟨b, o + 1, none⟩)) := by kernel_rfl
theorem fa34_2 {b o : Nat} : evFieldAddr Try.prog 34 (.pointer (some ⟨b, o, none⟩)) 2 = some (.pointer (some ⟨b, o + 2, none⟩)) := by kernel_rfl
theorem fa34_3 {b o : Nat} : evFieldAddr Try.prog 34 (.pointer (some ⟨b, o, none⟩)) 3 = some (.pointer (some ⟨b, o + 3, none⟩)) := by kernel_rfl
theorem fa34_4 {b o : Nat} : evFieldAddr Try.prog 34 (.pointer (some ⟨b, o, none⟩)) 4 = some (.pointer (some ⟨b, o + 4, none⟩)) := by kernel_rfl
theorem ip35 : isPtr Try.prog 35 = false := by kernel_rfl
theorem is35 : isSl Try.prog 35 = false := by kernel_rfl
theorem ze35 : zeroCells? Try.prog 35 = some #[.int .i64 0] := by kernel_rfl
theorem ip47 : isPtr Try.prog 47 = false := by kernel_rfl
theorem is47 : isSl Try.prog 47 = true := by kernel_rfl
theorem ze47 : zeroCells? Try.prog 47 = some #[.slice none 0 0] := by kernel_rfl
theorem el47 : elemT Try.prog 47 = some 5 := by kernel_rfl
def ll47 := @slice_len Try.prog 47 5 Try.underlying47
def ln47 := @slice_nil Try.prog 47 ip47 is47
def la47 := @slice_ia Try.prog 47 5 1 Try.underlying47 sz5
theorem ip48 : isPtr Try.prog 48 = false := by kernel_rfl
theorem is48 : isSl Try.prog 48 = false := by kernel_rfl
theorem ze48 : zeroCells? Try.prog 48 = some #[.int .u16 0] := by kernel_rfl
theorem ip51 : isPtr Try.prog 51 = false := by kernel_rfl
theorem is51 : isSl Try.prog 51 = false := by kernel_rfl
theorem ze51 : zeroCells? Try.prog 51 = some #[.bool false, .bool false, .int .i64 0, .int .i64 0, .int .i64 0, .string ⟨#[]⟩, .string ⟨#[]⟩, .int .i64 0, .int .i64 0, .int .i64 0, .bool false, .int .i64 0, .string ⟨#[]⟩, .int .i64 0] := by kernel_rfl
theorem ip52 : isPtr Try.prog 52 = false := by kernel_rfl
theorem is52 : isSl Try.prog 52 = false := by kernel_rfl
theorem ze52 : zeroCells? Try.prog 52 = some #[.bool false, .bool false, .int .i64 0, .int .i64 0, .int .i64 0, .string ⟨#[]⟩, .string ⟨#[]⟩, .int .i64 0, .int .i64 0, .int .i64 0, .bool false, .int .i64 0, .string ⟨#[]⟩, .int .i64 0] := by kernel_rfl
theorem fa52_0 {b o : Nat} : evFieldAddr Try.prog 52 (.pointer (some ⟨b, o, none⟩)) 0 = some (.pointer (some ⟨b, o + 0, none⟩)) := by kernel_rfl
theorem fa52_1 {b o : Nat} : evFieldAddr Try.prog 52 (.pointer (some ⟨b, o, none⟩)) 1 = some (.pointer (some ⟨b, o + 1, none⟩)) := by kernel_rfl
theorem fa52_2 {b o : Nat} : evFieldAddr Try.prog 52 (.pointer (some ⟨b, o, none⟩)) 2 = some (.pointer (some ⟨b, o + 2, none⟩)) := by kernel_rfl
theorem fa52_3 {b o : Nat} : evFieldAddr Try.prog 52 (.pointer (some ⟨b, o, none⟩)) 3 = some (.pointer (some ⟨b, o + 12, none⟩)) := by kernel_rfl
theorem fa52_4 {b o : Nat} : evFieldAddr Try.prog 52 (.pointer (some ⟨b, o, none⟩)) 4 = some (.pointer (some ⟨b, o + 13, none⟩)) := by kernel_rfl
def cv5_3 := @cv_rule Try.prog 5 3 .u8 .i64 Try.underlying5 Try.underlying3
def cv48_3 := @cv_rule Try.prog 48 3 .u16 .i64 Try.underlying48 Try.underlying3
theorem by5 : bytesT Try.prog 5 = some 1 := by kernel_rfl
def mk47 := @mk_rule Try.prog 47 5 (.int .u8 0) 1 el47 ze5 sz5 by5
theorem bu30_  : evBuild Try.prog 30 [] = some (.agg #[.bool false, .bool false, .int .i64 0, .int .i64 0, .int .i64 0, .string ⟨#[]⟩, .string ⟨#[]⟩, .int .i64 0, .int .i64 0, .int .i64 0, .bool false, .int .i64 0, .string ⟨#[]⟩, .int .i64 0]) := by kernel_rfl
theorem bu32_0_1_2 (x0 : Int) (x1 : Int) (x2 : Int) : evBuild Try.prog 32 [(0, .int .i64 x0), (1, .int .i64 x1), (2, .int .i64 x2)] = some (.agg #[.int .i64 x0, .int .i64 x1, .int .i64 x2]) := by kernel_rfl
theorem bu32_0 (x0 : Int) : evBuild Try.prog 32 [(0, .int .i64 x0)] = some (.agg #[.int .i64 x0, .int .i64 0, .int .i64 0]) := by kernel_rfl
theorem bu32_0_1 (x0 : Int) (x1 : Int) : evBuild Try.prog 32 [(0, .int .i64 x0), (1, .int .i64 x1)] = some (.agg #[.int .i64 x0, .int .i64 x1, .int .i64 0]) := by kernel_rfl
theorem bu28_2_3_4_5 (x2 : Int) (x3 : ByteArray) (x4 : ByteArray) (x5 : Int) : evBuild Try.prog 28 [(2, .int .i64 x2), (3, .string x3), (4, .string x4), (5, .int .i64 x5)] = some (.agg #[.int .i64 0, .int .i64 0, .int .i64 x2, .string x3, .string x4, .int .i64 x5, .int .i64 0, .int .i64 0, .bool false, .int .i64 0]) := by kernel_rfl
theorem bu52_  : evBuild Try.prog 52 [] = some (.agg #[.bool false, .bool false, .int .i64 0, .int .i64 0, .int .i64 0, .string ⟨#[]⟩, .string ⟨#[]⟩, .int .i64 0, .int .i64 0, .int .i64 0, .bool false, .int .i64 0, .string ⟨#[]⟩, .int .i64 0]) := by kernel_rfl
theorem bu28_3_4 (x3 : ByteArray) (x4 : ByteArray) : evBuild Try.prog 28 [(3, .string x3), (4, .string x4)] = some (.agg #[.int .i64 0, .int .i64 0, .int .i64 0, .string x3, .string x4, .int .i64 0, .int .i64 0, .int .i64 0, .bool false, .int .i64 0]) := by kernel_rfl
theorem bu52_0_2_4 (x0 : Bool) (x2_0 : Int) (x2_1 : Int) (x2_2 : Int) (x2_3 : ByteArray) (x2_4 : ByteArray) (x2_5 : Int) (x2_6 : Int) (x2_7 : Int) (x2_8 : Bool) (x2_9 : Int) (x4 : Int) : evBuild Try.prog 52 [(0, .bool x0), (2, .agg #[.int .i64 x2_0, .int .i64 x2_1, .int .i64 x2_2, .string x2_3, .string x2_4, .int .i64 x2_5, .int .i64 x2_6, .int .i64 x2_7, .bool x2_8, .int .i64 x2_9]), (4, .int .i64 x4)] = some (.agg #[.bool x0, .bool false, .int .i64 x2_0, .int .i64 x2_1, .int .i64 x2_2, .string x2_3, .string x2_4, .int .i64 x2_5, .int .i64 x2_6, .int .i64 x2_7, .bool x2_8, .int .i64 x2_9, .string ⟨#[]⟩, .int .i64 x4]) := by kernel_rfl
theorem bu30_0_2_4 (x0 : Bool) (x2_0 : Int) (x2_1 : Int) (x2_2 : Int) (x2_3 : ByteArray) (x2_4 : ByteArray) (x2_5 : Int) (x2_6 : Int) (x2_7 : Int) (x2_8 : Bool) (x2_9 : Int) (x4 : Int) : evBuild Try.prog 30 [(0, .bool x0), (2, .agg #[.int .i64 x2_0, .int .i64 x2_1, .int .i64 x2_2, .string x2_3, .string x2_4, .int .i64 x2_5, .int .i64 x2_6, .int .i64 x2_7, .bool x2_8, .int .i64 x2_9]), (4, .int .i64 x4)] = some (.agg #[.bool x0, .bool false, .int .i64 x2_0, .int .i64 x2_1, .int .i64 x2_2, .string x2_3, .string x2_4, .int .i64 x2_5, .int .i64 x2_6, .int .i64 x2_7, .bool x2_8, .int .i64 x2_9, .string ⟨#[]⟩, .int .i64 x4]) := by kernel_rfl
theorem bu28_  : evBuild Try.prog 28 [] = some (.agg #[.int .i64 0, .int .i64 0, .int .i64 0, .string ⟨#[]⟩, .string ⟨#[]⟩, .int .i64 0, .int .i64 0, .int .i64 0, .bool false, .int .i64 0]) := by kernel_rfl
def fxU := And.intro (And.intro (And.intro (And.intro (@Try.underlying3) (@Try.underlying4)) (And.intro (@Try.underlying5) (And.intro (@Try.underlying9) (@Try.underlying22)))) (And.intro (And.intro (@Try.underlying24) (@Try.underlying26)) (And.intro (@Try.underlying27) (And.intro (@Try.underlying28) (@Try.underlying29))))) (And.intro (And.intro (And.intro (@Try.underlying30) (@Try.underlying31)) (And.intro (@Try.underlying32) (And.intro (@Try.underlying33) (@Try.underlying34)))) (And.intro (And.intro (@Try.underlying35) (@Try.underlying47)) (And.intro (@Try.underlying48) (And.intro (@Try.underlying51) (@Try.underlying52)))))
def fxSZ := And.intro (And.intro (And.intro (And.intro (And.intro (@sz3) (@sz4)) (And.intro (@sz5) (And.intro (@sz9) (@sz22)))) (And.intro (And.intro (@sz24) (@sz26)) (And.intro (@sz27) (And.intro (@sz28) (@sz29))))) (And.intro (And.intro (And.intro (@sz30) (@sz31)) (And.intro (@sz32) (And.intro (@sz33) (@sz34)))) (And.intro (And.intro (@sz35) (@sz47)) (And.intro (@sz48) (And.intro (@sz51) (@sz52)))))) (And.intro (And.intro (And.intro (And.intro (@ag3) (@ag4)) (And.intro (@ag5) (And.intro (@ag9) (@ag22)))) (And.intro (And.intro (@ag24) (@ag26)) (And.intro (@ag27) (And.intro (@ag28) (@ag29))))) (And.intro (And.intro (And.intro (@ag30) (@ag31)) (And.intro (@ag32) (And.intro (@ag33) (@ag34)))) (And.intro (And.intro (@ag35) (@ag47)) (And.intro (@ag48) (And.intro (@ag51) (@ag52))))))
def fxZE := And.intro (And.intro (And.intro (And.intro (@ze3) (@ze4)) (And.intro (@ze5) (And.intro (@ze9) (@ze22)))) (And.intro (And.intro (@ze24) (@ze26)) (And.intro (@ze27) (And.intro (@ze28) (@ze29))))) (And.intro (And.intro (And.intro (@ze30) (@ze31)) (And.intro (@ze32) (And.intro (@ze33) (@ze34)))) (And.intro (And.intro (@ze35) (@ze47)) (And.intro (@ze48) (And.intro (@ze51) (@ze52)))))
def fxFA := And.intro (And.intro (And.intro (And.intro (@fa28_2) (@fa28_3)) (And.intro (@fa28_5) (And.intro (@fa28_6) (@fa30_0)))) (And.intro (And.intro (@fa30_1) (And.intro (@fa30_2) (@fa30_3))) (And.intro (@fa30_4) (And.intro (@fa32_0) (@fa32_1))))) (And.intro (And.intro (And.intro (@fa32_2) (@fa34_0)) (And.intro (@fa34_1) (And.intro (@fa34_2) (@fa34_3)))) (And.intro (And.intro (@fa34_4) (And.intro (@fa52_0) (@fa52_1))) (And.intro (@fa52_2) (And.intro (@fa52_3) (@fa52_4)))))
theorem fxFE : (undef = undef) = True := noFacts
def fxEL := And.intro (@el22) (And.intro (@el47) (@by5))
def fxI := And.intro (And.intro (And.intro (ip3) (And.intro (is3) (ip4))) (And.intro (is4) (And.intro (ip5) (is5)))) (And.intro (And.intro (ip9) (And.intro (is9) (ip35))) (And.intro (is35) (And.intro (ip48) (is48))))
def fxB := And.intro (And.intro (br4) (ln22)) (And.intro (pr24) (And.intro (pr26) (ln47)))
def fxST := sr9
def fxLEN := And.intro (sl9) (And.intro (ll22) (ll47))
def fxIX := si9
def fxSS := ss9
def fxIA := And.intro (la22) (la47)
def fxEQ := And.intro (@eq28) (@ne28)
def fxCV := And.intro (cv5_3) (cv48_3)
def fxMK := mk47
def fxBU := And.intro (And.intro (And.intro (@bu30_) (@bu32_0_1_2)) (And.intro (@bu32_0) (And.intro (@bu32_0_1) (@bu28_2_3_4_5)))) (And.intro (And.intro (@bu52_) (@bu28_3_4)) (And.intro (@bu52_0_2_4) (And.intro (@bu30_0_2_4) (@bu28_))))
end Go.Proofs.Ytmicjoocigfccaa
