/- Closed facts on this seat's program, for the abstract evaluator: written by gen2.py. -/
import Derived.Test.YtmehmjdcigokjaaFwG3
import Derived.Test.YtmehmjdcigokjaaProg
set_option linter.all false
namespace Go.Proofs.Ytmehmjdcigokjaa
open Go.Ab
def prs : FuncId → Nat → List (Nat × Nat)
  | 3, 5 => [(1, 2)]
  | 4, 18 => [(15, 19)]
  | 10, 3 => [(2, 4), (2, 8), (5, 8), (2, 13), (5, 13), (10, 13), (13, 15)]
  | 11, 3 => [(2, 4), (2, 8), (5, 8), (2, 13), (5, 13), (10, 13), (1, 15), (2, 15), (4, 15), (5, 15), (8, 15), (10, 15), (13, 15), (1, 16), (2, 16), (4, 16), (5, 16), (8, 16), (10, 16), (13, 16)]
  | 19, 8 => [(3, 11)]
  | 20, 10 => [(3, 15), (10, 15)]
  | _, _ => []
set_option maxRecDepth 100000 in
theorem prsOk : progOkB Try.prog prs = true := by kernel_rfl
theorem mixed : Try.prog.follows .mixedOrders = true := by kernel_rfl
theorem sz3 : sizeT Try.prog 3 = some 1 := by kernel_rfl
theorem sz4 : sizeT Try.prog 4 = some 1 := by kernel_rfl
theorem sz5 : sizeT Try.prog 5 = some 1 := by kernel_rfl
theorem sz9 : sizeT Try.prog 9 = some 1 := by kernel_rfl
theorem sz22 : sizeT Try.prog 22 = some 3 := by kernel_rfl
theorem sz23 : sizeT Try.prog 23 = some 3 := by kernel_rfl
theorem sz27 : sizeT Try.prog 27 = some 1 := by kernel_rfl
theorem sz30 : sizeT Try.prog 30 = some 1 := by kernel_rfl
theorem sz31 : sizeT Try.prog 31 = some 1 := by kernel_rfl
theorem sz33 : sizeT Try.prog 33 = some 1 := by kernel_rfl
theorem sz36 : sizeT Try.prog 36 = some 1 := by kernel_rfl
theorem sz42 : sizeT Try.prog 42 = some 3 := by kernel_rfl
theorem sz43 : sizeT Try.prog 43 = some 3 := by kernel_rfl
theorem sz45 : sizeT Try.prog 45 = some 1 := by kernel_rfl
theorem sz46 : sizeT Try.prog 46 = some 4 := by kernel_rfl
theorem sz50 : sizeT Try.prog 50 = some 1 := by kernel_rfl
theorem sz55 : sizeT Try.prog 55 = some 3 := by kernel_rfl
theorem sz56 : sizeT Try.prog 56 = some 3 := by kernel_rfl
theorem sz62 : sizeT Try.prog 62 = some 1 := by kernel_rfl
theorem ag3 : isAggT Try.prog 3 = some false := by kernel_rfl
theorem ag4 : isAggT Try.prog 4 = some false := by kernel_rfl
theorem ag5 : isAggT Try.prog 5 = some false := by kernel_rfl
theorem ag9 : isAggT Try.prog 9 = some false := by kernel_rfl
theorem ag22 : isAggT Try.prog 22 = some true := by kernel_rfl
theorem ag23 : isAggT Try.prog 23 = some true := by kernel_rfl
theorem ag27 : isAggT Try.prog 27 = some false := by kernel_rfl
theorem ag30 : isAggT Try.prog 30 = some false := by kernel_rfl
theorem ag31 : isAggT Try.prog 31 = some false := by kernel_rfl
theorem ag33 : isAggT Try.prog 33 = some false := by kernel_rfl
theorem ag36 : isAggT Try.prog 36 = some false := by kernel_rfl
theorem ag42 : isAggT Try.prog 42 = some true := by kernel_rfl
theorem ag43 : isAggT Try.prog 43 = some true := by kernel_rfl
theorem ag45 : isAggT Try.prog 45 = some false := by kernel_rfl
theorem ag46 : isAggT Try.prog 46 = some true := by kernel_rfl
theorem ag50 : isAggT Try.prog 50 = some false := by kernel_rfl
theorem ag55 : isAggT Try.prog 55 = some true := by kernel_rfl
theorem ag56 : isAggT Try.prog 56 = some true := by kernel_rfl
theorem ag62 : isAggT Try.prog 62 = some false := by kernel_rfl
theorem ip3 : isPtr Try.prog 3 = false := by kernel_rfl
theorem is3 : isSl Try.prog 3 = false := by kernel_rfl
theorem ze3 : zeroCells? Try.prog 3 = some #[.int .i64 0] := by kernel_rfl
theorem ip4 : isPtr Try.prog 4 = false := by kernel_rfl
theorem is4 : isSl Try.prog 4 = false := by kernel_rfl
theorem ze4 : zeroCells? Try.prog 4 = some #[.bool false] := by kernel_rfl
def br4 := @bool_rules Try.prog 4 Try.underlying4 ip4 is4
theorem ip5 : isPtr Try.prog 5 = false := by kernel_rfl
theorem is5 : isSl Try.prog 5 = false := by kernel_rfl
theorem ze5 : zeroCells? Try.prog 5 = some #[.int .u8 0] := by kernel_rfl
theorem ip9 : isPtr Try.prog 9 = false := by kernel_rfl
theorem is9 : isSl Try.prog 9 = false := by kernel_rfl
theorem ze9 : zeroCells? Try.prog 9 = some #[.string ⟨#[]⟩] := by kernel_rfl
def sr9 := @str_rules2 Try.prog 9 Try.underlying9 ip9 is9
def sl9 := @str_len Try.prog 9 Try.underlying9
def si9 := @str_ix Try.prog 9 Try.underlying9
def ss9 := @str_sl Try.prog 9 Try.underlying9 ip9 is9
theorem ip22 : isPtr Try.prog 22 = false := by kernel_rfl
theorem is22 : isSl Try.prog 22 = false := by kernel_rfl
theorem ze22 : zeroCells? Try.prog 22 = some #[.int .i64 0, .int .i64 0, .string ⟨#[]⟩] := by kernel_rfl
theorem ip23 : isPtr Try.prog 23 = false := by kernel_rfl
theorem is23 : isSl Try.prog 23 = false := by kernel_rfl
theorem ze23 : zeroCells? Try.prog 23 = some #[.int .i64 0, .int .i64 0, .string ⟨#[]⟩] := by kernel_rfl
theorem fa23_0 {b o : Nat} : evFieldAddr Try.prog 23 (.pointer (some ⟨b, o, none⟩)) 0 = some (.pointer (some ⟨b, o + 0, none⟩)) := by kernel_rfl
theorem fa23_1 {b o : Nat} : evFieldAddr Try.prog 23 (.pointer (some ⟨b, o, none⟩)) 1 = some (.pointer (some ⟨b, o + 1, none⟩)) := by kernel_rfl
theorem fa23_2 {b o : Nat} : evFieldAddr Try.prog 23 (.pointer (some ⟨b, o, none⟩)) 2 = some (.pointer (some ⟨b, o + 2, none⟩)) := by kernel_rfl
theorem eq23 (a0 b0 : Int) (a1 b1 : Int) (a2 b2 : ByteArray) {xo yo : Operand} : evBin Try.prog .eql 23 xo yo (.agg #[.int .i64 a0, .int .i64 a1, .string a2]) (.agg #[.int .i64 b0, .int .i64 b1, .string b2]) = some (.bool (((a0 == b0) && ((a1 == b1) && ((a2 == b2) && true))))) := eq_agg 10 ip23 is23 (by kernel_rfl) (by kernel_rfl) (by kernel_rfl) (by kernel_rfl)
theorem ne23 (a0 b0 : Int) (a1 b1 : Int) (a2 b2 : ByteArray) {xo yo : Operand} : evBin Try.prog .neq 23 xo yo (.agg #[.int .i64 a0, .int .i64 a1, .string a2]) (.agg #[.int .i64 b0, .int .i64 b1, .string b2]) = some (.bool (!(((a0 == b0) && ((a1 == b1) && ((a2 == b2) && true)))))) := ne_agg 10 ip23 is23 (by kernel_rfl) (by kernel_rfl) (by kernel_rfl) (by kernel_rfl)
theorem ip27 : isPtr Try.prog 27 = false := by kernel_rfl
theorem is27 : isSl Try.prog 27 = true := by kernel_rfl
theorem ze27 : zeroCells? Try.prog 27 = some #[.slice none 0 0] := by kernel_rfl
theorem el27 : elemT Try.prog 27 = some 23 := by kernel_rfl
def ll27 := @slice_len Try.prog 27 23 Try.underlying27
def ln27 := @slice_nil Try.prog 27 ip27 is27
def la27 := @slice_ia Try.prog 27 23 3 Try.underlying27 sz23
theorem ip30 : isPtr Try.prog 30 = false := by kernel_rfl
theorem is30 : isSl Try.prog 30 = true := by kernel_rfl
theorem ze30 : zeroCells? Try.prog 30 = some #[.slice none 0 0] := by kernel_rfl
theorem el30 : elemT Try.prog 30 = some 9 := by kernel_rfl
def ll30 := @slice_len Try.prog 30 9 Try.underlying30
def ln30 := @slice_nil Try.prog 30 ip30 is30
def la30 := @slice_ia Try.prog 30 9 1 Try.underlying30 sz9
theorem ip31 : isPtr Try.prog 31 = true := by kernel_rfl
theorem is31 : isSl Try.prog 31 = false := by kernel_rfl
theorem ze31 : zeroCells? Try.prog 31 = some #[.pointer none] := by kernel_rfl
def pr31 := @ptr_rules Try.prog 31 ip31
theorem ip33 : isPtr Try.prog 33 = true := by kernel_rfl
theorem is33 : isSl Try.prog 33 = false := by kernel_rfl
theorem ze33 : zeroCells? Try.prog 33 = some #[.pointer none] := by kernel_rfl
def pr33 := @ptr_rules Try.prog 33 ip33
theorem ip36 : isPtr Try.prog 36 = false := by kernel_rfl
theorem is36 : isSl Try.prog 36 = false := by kernel_rfl
theorem ze36 : zeroCells? Try.prog 36 = some #[.int .i64 0] := by kernel_rfl
theorem ip42 : isPtr Try.prog 42 = false := by kernel_rfl
theorem is42 : isSl Try.prog 42 = false := by kernel_rfl
theorem ze42 : zeroCells? Try.prog 42 = some #[.int .i64 0, .string ⟨#[]⟩, .bool false] := by kernel_rfl
theorem ip43 : isPtr Try.prog 43 = false := by kernel_rfl
theorem is43 : isSl Try.prog 43 = false := by kernel_rfl
theorem ze43 : zeroCells? Try.prog 43 = some #[.int .i64 0, .string ⟨#[]⟩, .bool false] := by kernel_rfl
theorem fa43_0 {b o : Nat} : evFieldAddr Try.prog 43 (.pointer (some ⟨b, o, none⟩)) 0 = some (.pointer (some ⟨b, o + 0, none⟩)) := by kernel_rfl
theorem fa43_1 {b o : Nat} : evFieldAddr Try.prog 43 (.pointer (some ⟨b, o, none⟩)) 1 = some (.pointer (some ⟨b, o + 1, none⟩)) := by kernel_rfl
theorem fa43_2 {b o : Nat} : evFieldAddr Try.prog 43 (.pointer (some ⟨b, o, none⟩)) 2 = some (.pointer (some ⟨b, o + 2, none⟩)) := by kernel_rfl
theorem ip45 : isPtr Try.prog 45 = false := by kernel_rfl
theorem is45 : isSl Try.prog 45 = true := by kernel_rfl
theorem ze45 : zeroCells? Try.prog 45 = some #[.slice none 0 0] := by kernel_rfl
theorem el45 : elemT Try.prog 45 = some 5 := by kernel_rfl
def ll45 := @slice_len Try.prog 45 5 Try.underlying45
def ln45 := @slice_nil Try.prog 45 ip45 is45
def la45 := @slice_ia Try.prog 45 5 1 Try.underlying45 sz5
theorem ip46 : isPtr Try.prog 46 = false := by kernel_rfl
theorem is46 : isSl Try.prog 46 = false := by kernel_rfl
theorem ze46 : zeroCells? Try.prog 46 = some #[.int .i64 0, .int .i64 0, .int .i64 0, .int .i64 0] := by kernel_rfl
def al46 := @array_len Try.prog 46 3 4 Try.underlying46
def aa46 := @array_ia Try.prog 46 3 4 1 Try.underlying46 sz3
def ai46 := @array_ix Try.prog 46 3 4 1 Try.underlying46 sz3 ag3
theorem ip50 : isPtr Try.prog 50 = false := by kernel_rfl
theorem is50 : isSl Try.prog 50 = false := by kernel_rfl
theorem ze50 : zeroCells? Try.prog 50 = some #[.int .u16 0] := by kernel_rfl
theorem ip55 : isPtr Try.prog 55 = false := by kernel_rfl
theorem is55 : isSl Try.prog 55 = false := by kernel_rfl
theorem ze55 : zeroCells? Try.prog 55 = some #[.string ⟨#[]⟩, .int .i64 0, .bool false] := by kernel_rfl
theorem ip56 : isPtr Try.prog 56 = false := by kernel_rfl
theorem is56 : isSl Try.prog 56 = false := by kernel_rfl
theorem ze56 : zeroCells? Try.prog 56 = some #[.string ⟨#[]⟩, .int .i64 0, .bool false] := by kernel_rfl
theorem fa56_0 {b o : Nat} : evFieldAddr Try.prog 56 (.pointer (some ⟨b, o, none⟩)) 0 = some (.pointer (some ⟨b, o + 0, none⟩)) := by kernel_rfl
theorem fa56_1 {b o : Nat} : evFieldAddr Try.prog 56 (.pointer (some ⟨b, o, none⟩)) 1 = some (.pointer (some ⟨b, o + 1, none⟩)) := by kernel_rfl
theorem fa56_2 {b o : Nat} : evFieldAddr Try.prog 56 (.pointer (some ⟨b, o, none⟩)) 2 = some (.pointer (some ⟨b, o + 2, none⟩)) := by kernel_rfl
theorem ip62 : isPtr Try.prog 62 = false := by kernel_rfl
theorem is62 : isSl Try.prog 62 = false := by kernel_rfl
theorem ze62 : zeroCells? Try.prog 62 = some #[.int .u64 0] := by kernel_rfl
def cv3_5 := @cv_rule Try.prog 3 5 .i64 .u8 Try.underlying3 Try.underlying5
def cv3_62 := @cv_rule Try.prog 3 62 .i64 .u64 Try.underlying3 Try.underlying62
def cv5_3 := @cv_rule Try.prog 5 3 .u8 .i64 Try.underlying5 Try.underlying3
def cv50_3 := @cv_rule Try.prog 50 3 .u16 .i64 Try.underlying50 Try.underlying3
theorem by5 : bytesT Try.prog 5 = some 1 := by kernel_rfl
def mk45 := @mk_rule Try.prog 45 5 (.int .u8 0) 1 el45 ze5 sz5 by5
theorem bu46_0_1_2_3 (x0 : Int) (x1 : Int) (x2 : Int) (x3 : Int) : evBuild Try.prog 46 [(0, .int .i64 x0), (1, .int .i64 x1), (2, .int .i64 x2), (3, .int .i64 x3)] = some (.agg #[.int .i64 x0, .int .i64 x1, .int .i64 x2, .int .i64 x3]) := by kernel_rfl
theorem bu23_0_1_2 (x0 : Int) (x1 : Int) (x2 : ByteArray) : evBuild Try.prog 23 [(0, .int .i64 x0), (1, .int .i64 x1), (2, .string x2)] = some (.agg #[.int .i64 x0, .int .i64 x1, .string x2]) := by kernel_rfl
theorem bu23_0 (x0 : Int) : evBuild Try.prog 23 [(0, .int .i64 x0)] = some (.agg #[.int .i64 x0, .int .i64 0, .string ⟨#[]⟩]) := by kernel_rfl
theorem bu56_1 (x1 : Int) : evBuild Try.prog 56 [(1, .int .i64 x1)] = some (.agg #[.string ⟨#[]⟩, .int .i64 x1, .bool false]) := by kernel_rfl
theorem bu43_0 (x0 : Int) : evBuild Try.prog 43 [(0, .int .i64 x0)] = some (.agg #[.int .i64 x0, .string ⟨#[]⟩, .bool false]) := by kernel_rfl
theorem bu23_  : evBuild Try.prog 23 [] = some (.agg #[.int .i64 0, .int .i64 0, .string ⟨#[]⟩]) := by kernel_rfl
theorem bs27_1_0 (x0_0 : Int) (x0_1 : Int) (x0_2 : ByteArray) {nid : Nat} : evBuildSlice Try.prog nid 27 1 [(0, .agg #[.int .i64 x0_0, .int .i64 x0_1, .string x0_2])] = some ⟨.slice (some ⟨nid, 0, none⟩) 1 1, [(nid, some (.cells [.int .i64 x0_0, .int .i64 x0_1, .string x0_2] 23 true))], []⟩ := by kernel_rfl
theorem bs45_1_0 (x0 : Int) {nid : Nat} : evBuildSlice Try.prog nid 45 1 [(0, .int .u8 x0)] = some ⟨.slice (some ⟨nid, 0, none⟩) 1 1, [(nid, some (.cells [.int .u8 x0] 5 true))], []⟩ := by kernel_rfl
theorem ap27_27 : AppT Try.prog 27 27 23 3 32 := ⟨by kernel_rfl, ⟨_, Try.underlying27, rfl⟩, by kernel_rfl, by kernel_rfl, ⟨_, ze23, rfl⟩, by decide⟩
def fxU := And.intro (And.intro (And.intro (And.intro (@Try.underlying3) (@Try.underlying4)) (And.intro (@Try.underlying5) (@Try.underlying9))) (And.intro (And.intro (@Try.underlying22) (@Try.underlying23)) (And.intro (@Try.underlying27) (And.intro (@Try.underlying30) (@Try.underlying31))))) (And.intro (And.intro (And.intro (@Try.underlying33) (@Try.underlying36)) (And.intro (@Try.underlying42) (And.intro (@Try.underlying43) (@Try.underlying45)))) (And.intro (And.intro (@Try.underlying46) (@Try.underlying50)) (And.intro (@Try.underlying55) (And.intro (@Try.underlying56) (@Try.underlying62)))))
def fxSZ := And.intro (And.intro (And.intro (And.intro (And.intro (@sz3) (@sz4)) (And.intro (@sz5) (@sz9))) (And.intro (And.intro (@sz22) (@sz23)) (And.intro (@sz27) (And.intro (@sz30) (@sz31))))) (And.intro (And.intro (And.intro (@sz33) (@sz36)) (And.intro (@sz42) (And.intro (@sz43) (@sz45)))) (And.intro (And.intro (@sz46) (@sz50)) (And.intro (@sz55) (And.intro (@sz56) (@sz62)))))) (And.intro (And.intro (And.intro (And.intro (@ag3) (@ag4)) (And.intro (@ag5) (@ag9))) (And.intro (And.intro (@ag22) (@ag23)) (And.intro (@ag27) (And.intro (@ag30) (@ag31))))) (And.intro (And.intro (And.intro (@ag33) (@ag36)) (And.intro (@ag42) (And.intro (@ag43) (@ag45)))) (And.intro (And.intro (@ag46) (@ag50)) (And.intro (@ag55) (And.intro (@ag56) (@ag62))))))
def fxZE := And.intro (And.intro (And.intro (And.intro (@ze3) (@ze4)) (And.intro (@ze5) (@ze9))) (And.intro (And.intro (@ze22) (@ze23)) (And.intro (@ze27) (And.intro (@ze30) (@ze31))))) (And.intro (And.intro (And.intro (@ze33) (@ze36)) (And.intro (@ze42) (And.intro (@ze43) (@ze45)))) (And.intro (And.intro (@ze46) (@ze50)) (And.intro (@ze55) (And.intro (@ze56) (@ze62)))))
def fxFA := And.intro (And.intro (And.intro (@fa23_0) (@fa23_1)) (And.intro (@fa23_2) (@fa43_0))) (And.intro (And.intro (@fa43_1) (@fa43_2)) (And.intro (@fa56_0) (And.intro (@fa56_1) (@fa56_2))))
theorem fxFE : (undef = undef) = True := noFacts
def fxEL := And.intro (And.intro (@el27) (@el30)) (And.intro (@el45) (@by5))
def fxI := And.intro (And.intro (And.intro (ip3) (And.intro (is3) (ip4))) (And.intro (And.intro (is4) (ip5)) (And.intro (is5) (ip9)))) (And.intro (And.intro (is9) (And.intro (ip36) (is36))) (And.intro (And.intro (ip50) (is50)) (And.intro (ip62) (is62))))
def fxB := And.intro (And.intro (br4) (And.intro (ln27) (ln30))) (And.intro (pr31) (And.intro (pr33) (ln45)))
def fxST := sr9
def fxLEN := And.intro (And.intro (sl9) (ll27)) (And.intro (ll30) (And.intro (ll45) (al46)))
def fxIX := And.intro (si9) (ai46)
def fxSS := ss9
def fxIA := And.intro (And.intro (la27) (la30)) (And.intro (la45) (aa46))
def fxEQ := And.intro (@eq23) (@ne23)
def fxCV := And.intro (And.intro (cv3_5) (cv3_62)) (And.intro (cv5_3) (cv50_3))
def fxMK := mk45
def fxBU := And.intro (And.intro (And.intro (@bu46_0_1_2_3) (@bu23_0_1_2)) (And.intro (@bu23_0) (@bu56_1))) (And.intro (And.intro (@bu43_0) (@bu23_)) (And.intro (@bs27_1_0) (@bs45_1_0)))
end Go.Proofs.Ytmehmjdcigokjaa
