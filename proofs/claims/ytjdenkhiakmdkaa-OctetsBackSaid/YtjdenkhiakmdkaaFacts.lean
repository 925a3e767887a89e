/- Closed facts on this seat's program, for the abstract evaluator: written by gen.py. -/
import Derived.Test.YtjdenkhiakmdkaaFwS
import Derived.Test.YtjdenkhiakmdkaaProg
set_option linter.all false
namespace Go.Proofs.Ytjdenkhiakmdkaa
open Go.Ab
def prs : FuncId → Nat → List (Nat × Nat)
  | _, _ => []
set_option maxRecDepth 100000 in
theorem prsOk : progOkB Try.prog prs = true := by kernel_rfl
theorem sz0 : sizeT Try.prog 0 = some 1 := by kernel_rfl
theorem ag0 : isAggT Try.prog 0 = some false := by kernel_rfl
theorem ip0 : isPtr Try.prog 0 = false := by kernel_rfl
theorem is0 : isSl Try.prog 0 = false := by kernel_rfl
theorem by0 : bytesT Try.prog 0 = some 0 := by kernel_rfl
theorem sz1 : sizeT Try.prog 1 = some 1 := by kernel_rfl
theorem ag1 : isAggT Try.prog 1 = some false := by kernel_rfl
theorem ip1 : isPtr Try.prog 1 = false := by kernel_rfl
theorem is1 : isSl Try.prog 1 = false := by kernel_rfl
theorem by1 : bytesT Try.prog 1 = some 8 := by kernel_rfl
theorem ze1 : zeroCells? Try.prog 1 = some #[.nilFunc] := by kernel_rfl
theorem sz2 : sizeT Try.prog 2 = some 1 := by kernel_rfl
theorem ag2 : isAggT Try.prog 2 = some false := by kernel_rfl
theorem ip2 : isPtr Try.prog 2 = false := by kernel_rfl
theorem is2 : isSl Try.prog 2 = false := by kernel_rfl
theorem by2 : bytesT Try.prog 2 = some 8 := by kernel_rfl
theorem ze2 : zeroCells? Try.prog 2 = some #[.int .i64 0] := by kernel_rfl
theorem sz3 : sizeT Try.prog 3 = some 1 := by kernel_rfl
theorem ag3 : isAggT Try.prog 3 = some false := by kernel_rfl
theorem ip3 : isPtr Try.prog 3 = false := by kernel_rfl
theorem is3 : isSl Try.prog 3 = false := by kernel_rfl
theorem by3 : bytesT Try.prog 3 = some 8 := by kernel_rfl
theorem ze3 : zeroCells? Try.prog 3 = some #[.int .i64 0] := by kernel_rfl
theorem sz4 : sizeT Try.prog 4 = some 1 := by kernel_rfl
theorem ag4 : isAggT Try.prog 4 = some false := by kernel_rfl
theorem ip4 : isPtr Try.prog 4 = false := by kernel_rfl
theorem is4 : isSl Try.prog 4 = false := by kernel_rfl
theorem by4 : bytesT Try.prog 4 = some 1 := by kernel_rfl
theorem ze4 : zeroCells? Try.prog 4 = some #[.bool false] := by kernel_rfl
theorem sz5 : sizeT Try.prog 5 = some 1 := by kernel_rfl
theorem ag5 : isAggT Try.prog 5 = some false := by kernel_rfl
theorem ip5 : isPtr Try.prog 5 = false := by kernel_rfl
theorem is5 : isSl Try.prog 5 = false := by kernel_rfl
theorem by5 : bytesT Try.prog 5 = some 1 := by kernel_rfl
theorem ze5 : zeroCells? Try.prog 5 = some #[.int .u8 0] := by kernel_rfl
theorem sz6 : sizeT Try.prog 6 = some 1 := by kernel_rfl
theorem ag6 : isAggT Try.prog 6 = some false := by kernel_rfl
theorem ip6 : isPtr Try.prog 6 = false := by kernel_rfl
theorem is6 : isSl Try.prog 6 = false := by kernel_rfl
theorem by6 : bytesT Try.prog 6 = some 1 := by kernel_rfl
theorem ze6 : zeroCells? Try.prog 6 = some #[.int .u8 0] := by kernel_rfl
theorem sz7 : sizeT Try.prog 7 = some 4 := by kernel_rfl
theorem ag7 : isAggT Try.prog 7 = some true := by kernel_rfl
theorem ip7 : isPtr Try.prog 7 = false := by kernel_rfl
theorem is7 : isSl Try.prog 7 = false := by kernel_rfl
theorem fa7_0 (b o : Nat) : evFieldAddr Try.prog 7 (.pointer (some ⟨b, o, none⟩)) 0 = some (.pointer (some ⟨b, o + 0, none⟩)) := by kernel_rfl
theorem fe7_0 (cs : Array Value) : evField Try.prog 7 (.agg cs) 0 = cs[0]? := by kernel_rfl
theorem fa7_1 (b o : Nat) : evFieldAddr Try.prog 7 (.pointer (some ⟨b, o, none⟩)) 1 = some (.pointer (some ⟨b, o + 1, none⟩)) := by kernel_rfl
theorem fe7_1 (cs : Array Value) : evField Try.prog 7 (.agg cs) 1 = cs[1]? := by kernel_rfl
theorem fa7_2 (b o : Nat) : evFieldAddr Try.prog 7 (.pointer (some ⟨b, o, none⟩)) 2 = some (.pointer (some ⟨b, o + 2, none⟩)) := by kernel_rfl
theorem fe7_2 (cs : Array Value) : evField Try.prog 7 (.agg cs) 2 = cs[2]? := by kernel_rfl
theorem fa7_3 (b o : Nat) : evFieldAddr Try.prog 7 (.pointer (some ⟨b, o, none⟩)) 3 = some (.pointer (some ⟨b, o + 3, none⟩)) := by kernel_rfl
theorem fe7_3 (cs : Array Value) : evField Try.prog 7 (.agg cs) 3 = cs[3]? := by kernel_rfl
theorem by7 : bytesT Try.prog 7 = some 24 := by kernel_rfl
theorem ze7 : zeroCells? Try.prog 7 = some #[.int .i64 0, .int .i64 0, .bool false, .int .u8 0] := by kernel_rfl
theorem sz8 : sizeT Try.prog 8 = some 4 := by kernel_rfl
theorem ag8 : isAggT Try.prog 8 = some true := by kernel_rfl
theorem ip8 : isPtr Try.prog 8 = false := by kernel_rfl
theorem is8 : isSl Try.prog 8 = false := by kernel_rfl
theorem fa8_0 (b o : Nat) : evFieldAddr Try.prog 8 (.pointer (some ⟨b, o, none⟩)) 0 = some (.pointer (some ⟨b, o + 0, none⟩)) := by kernel_rfl
theorem fe8_0 (cs : Array Value) : evField Try.prog 8 (.agg cs) 0 = cs[0]? := by kernel_rfl
theorem fa8_1 (b o : Nat) : evFieldAddr Try.prog 8 (.pointer (some ⟨b, o, none⟩)) 1 = some (.pointer (some ⟨b, o + 1, none⟩)) := by kernel_rfl
theorem fe8_1 (cs : Array Value) : evField Try.prog 8 (.agg cs) 1 = cs[1]? := by kernel_rfl
theorem fa8_2 (b o : Nat) : evFieldAddr Try.prog 8 (.pointer (some ⟨b, o, none⟩)) 2 = some (.pointer (some ⟨b, o + 2, none⟩)) := by kernel_rfl
theorem fe8_2 (cs : Array Value) : evField Try.prog 8 (.agg cs) 2 = cs[2]? := by kernel_rfl
theorem fa8_3 (b o : Nat) : evFieldAddr Try.prog 8 (.pointer (some ⟨b, o, none⟩)) 3 = some (.pointer (some ⟨b, o + 3, none⟩)) := by kernel_rfl
theorem fe8_3 (cs : Array Value) : evField Try.prog 8 (.agg cs) 3 = cs[3]? := by kernel_rfl
theorem by8 : bytesT Try.prog 8 = some 24 := by kernel_rfl
theorem ze8 : zeroCells? Try.prog 8 = some #[.int .i64 0, .int .i64 0, .bool false, .int .u8 0] := by kernel_rfl
theorem sz9 : sizeT Try.prog 9 = some 1 := by kernel_rfl
theorem ag9 : isAggT Try.prog 9 = some false := by kernel_rfl
theorem ip9 : isPtr Try.prog 9 = false := by kernel_rfl
theorem is9 : isSl Try.prog 9 = false := by kernel_rfl
theorem by9 : bytesT Try.prog 9 = some 16 := by kernel_rfl
theorem ze9 : zeroCells? Try.prog 9 = some #[.string ⟨#[]⟩] := by kernel_rfl
theorem sz10 : sizeT Try.prog 10 = some 1 := by kernel_rfl
theorem ag10 : isAggT Try.prog 10 = some false := by kernel_rfl
theorem ip10 : isPtr Try.prog 10 = false := by kernel_rfl
theorem is10 : isSl Try.prog 10 = false := by kernel_rfl
theorem by10 : bytesT Try.prog 10 = some 16 := by kernel_rfl
theorem ze10 : zeroCells? Try.prog 10 = some #[.string ⟨#[]⟩] := by kernel_rfl
theorem sz11 : sizeT Try.prog 11 = some 1 := by kernel_rfl
theorem ag11 : isAggT Try.prog 11 = some false := by kernel_rfl
theorem ip11 : isPtr Try.prog 11 = false := by kernel_rfl
theorem is11 : isSl Try.prog 11 = false := by kernel_rfl
theorem by11 : bytesT Try.prog 11 = some 16 := by kernel_rfl
theorem ze11 : zeroCells? Try.prog 11 = some #[.string ⟨#[]⟩] := by kernel_rfl
theorem sz12 : sizeT Try.prog 12 = some 1 := by kernel_rfl
theorem ag12 : isAggT Try.prog 12 = some false := by kernel_rfl
theorem ip12 : isPtr Try.prog 12 = false := by kernel_rfl
theorem is12 : isSl Try.prog 12 = false := by kernel_rfl
theorem by12 : bytesT Try.prog 12 = some 8 := by kernel_rfl
theorem ze12 : zeroCells? Try.prog 12 = some #[.int .u64 0] := by kernel_rfl
theorem sz13 : sizeT Try.prog 13 = some 2 := by kernel_rfl
theorem ag13 : isAggT Try.prog 13 = some true := by kernel_rfl
theorem ip13 : isPtr Try.prog 13 = false := by kernel_rfl
theorem is13 : isSl Try.prog 13 = false := by kernel_rfl
theorem fa13_0 (b o : Nat) : evFieldAddr Try.prog 13 (.pointer (some ⟨b, o, none⟩)) 0 = some (.pointer (some ⟨b, o + 0, none⟩)) := by kernel_rfl
theorem fe13_0 (cs : Array Value) : evField Try.prog 13 (.agg cs) 0 = cs[0]? := by kernel_rfl
theorem fa13_1 (b o : Nat) : evFieldAddr Try.prog 13 (.pointer (some ⟨b, o, none⟩)) 1 = some (.pointer (some ⟨b, o + 1, none⟩)) := by kernel_rfl
theorem fe13_1 (cs : Array Value) : evField Try.prog 13 (.agg cs) 1 = cs[1]? := by kernel_rfl
theorem by13 : bytesT Try.prog 13 = some 24 := by kernel_rfl
theorem ze13 : zeroCells? Try.prog 13 = some #[.string ⟨#[]⟩, .int .u64 0] := by kernel_rfl
theorem sz14 : sizeT Try.prog 14 = some 2 := by kernel_rfl
theorem ag14 : isAggT Try.prog 14 = some true := by kernel_rfl
theorem ip14 : isPtr Try.prog 14 = false := by kernel_rfl
theorem is14 : isSl Try.prog 14 = false := by kernel_rfl
theorem fa14_0 (b o : Nat) : evFieldAddr Try.prog 14 (.pointer (some ⟨b, o, none⟩)) 0 = some (.pointer (some ⟨b, o + 0, none⟩)) := by kernel_rfl
theorem fe14_0 (cs : Array Value) : evField Try.prog 14 (.agg cs) 0 = cs[0]? := by kernel_rfl
theorem fa14_1 (b o : Nat) : evFieldAddr Try.prog 14 (.pointer (some ⟨b, o, none⟩)) 1 = some (.pointer (some ⟨b, o + 1, none⟩)) := by kernel_rfl
theorem fe14_1 (cs : Array Value) : evField Try.prog 14 (.agg cs) 1 = cs[1]? := by kernel_rfl
theorem by14 : bytesT Try.prog 14 = some 24 := by kernel_rfl
theorem ze14 : zeroCells? Try.prog 14 = some #[.string ⟨#[]⟩, .int .u64 0] := by kernel_rfl
theorem sz15 : sizeT Try.prog 15 = some 1 := by kernel_rfl
theorem ag15 : isAggT Try.prog 15 = some false := by kernel_rfl
theorem ip15 : isPtr Try.prog 15 = true := by kernel_rfl
theorem is15 : isSl Try.prog 15 = false := by kernel_rfl
theorem by15 : bytesT Try.prog 15 = some 8 := by kernel_rfl
theorem ze15 : zeroCells? Try.prog 15 = some #[.pointer none] := by kernel_rfl
theorem sz16 : sizeT Try.prog 16 = some 1 := by kernel_rfl
theorem ag16 : isAggT Try.prog 16 = some false := by kernel_rfl
theorem ip16 : isPtr Try.prog 16 = true := by kernel_rfl
theorem is16 : isSl Try.prog 16 = false := by kernel_rfl
theorem by16 : bytesT Try.prog 16 = some 8 := by kernel_rfl
theorem ze16 : zeroCells? Try.prog 16 = some #[.pointer none] := by kernel_rfl
theorem sz17 : sizeT Try.prog 17 = some 1 := by kernel_rfl
theorem ag17 : isAggT Try.prog 17 = some false := by kernel_rfl
theorem ip17 : isPtr Try.prog 17 = true := by kernel_rfl
theorem is17 : isSl Try.prog 17 = false := by kernel_rfl
theorem by17 : bytesT Try.prog 17 = some 8 := by kernel_rfl
theorem ze17 : zeroCells? Try.prog 17 = some #[.pointer none] := by kernel_rfl
theorem sz18 : sizeT Try.prog 18 = some 1 := by kernel_rfl
theorem ag18 : isAggT Try.prog 18 = some true := by kernel_rfl
theorem ip18 : isPtr Try.prog 18 = false := by kernel_rfl
theorem is18 : isSl Try.prog 18 = false := by kernel_rfl
theorem fa18_0 (b o : Nat) : evFieldAddr Try.prog 18 (.pointer (some ⟨b, o, none⟩)) 0 = some (.pointer (some ⟨b, o + 0, none⟩)) := by kernel_rfl
theorem fe18_0 (cs : Array Value) : evField Try.prog 18 (.agg cs) 0 = cs[0]? := by kernel_rfl
theorem by18 : bytesT Try.prog 18 = some 8 := by kernel_rfl
theorem ze18 : zeroCells? Try.prog 18 = some #[.pointer none] := by kernel_rfl
theorem sz19 : sizeT Try.prog 19 = some 1 := by kernel_rfl
theorem ag19 : isAggT Try.prog 19 = some true := by kernel_rfl
theorem ip19 : isPtr Try.prog 19 = false := by kernel_rfl
theorem is19 : isSl Try.prog 19 = false := by kernel_rfl
theorem fa19_0 (b o : Nat) : evFieldAddr Try.prog 19 (.pointer (some ⟨b, o, none⟩)) 0 = some (.pointer (some ⟨b, o + 0, none⟩)) := by kernel_rfl
theorem fe19_0 (cs : Array Value) : evField Try.prog 19 (.agg cs) 0 = cs[0]? := by kernel_rfl
theorem by19 : bytesT Try.prog 19 = some 8 := by kernel_rfl
theorem ze19 : zeroCells? Try.prog 19 = some #[.pointer none] := by kernel_rfl
theorem sz20 : sizeT Try.prog 20 = some 1 := by kernel_rfl
theorem ag20 : isAggT Try.prog 20 = some false := by kernel_rfl
theorem ip20 : isPtr Try.prog 20 = false := by kernel_rfl
theorem is20 : isSl Try.prog 20 = false := by kernel_rfl
theorem by20 : bytesT Try.prog 20 = some 16 := by kernel_rfl
theorem ze20 : zeroCells? Try.prog 20 = some #[.nilIface] := by kernel_rfl
theorem sz21 : sizeT Try.prog 21 = some 1 := by kernel_rfl
theorem ag21 : isAggT Try.prog 21 = some false := by kernel_rfl
theorem ip21 : isPtr Try.prog 21 = false := by kernel_rfl
theorem is21 : isSl Try.prog 21 = false := by kernel_rfl
theorem by21 : bytesT Try.prog 21 = some 4 := by kernel_rfl
theorem ze21 : zeroCells? Try.prog 21 = some #[.int .i32 0] := by kernel_rfl
theorem sz22 : sizeT Try.prog 22 = some 1 := by kernel_rfl
theorem ag22 : isAggT Try.prog 22 = some false := by kernel_rfl
theorem ip22 : isPtr Try.prog 22 = false := by kernel_rfl
theorem is22 : isSl Try.prog 22 = false := by kernel_rfl
theorem by22 : bytesT Try.prog 22 = some 8 := by kernel_rfl
theorem ze22 : zeroCells? Try.prog 22 = some #[.nilFunc] := by kernel_rfl
theorem sz23 : sizeT Try.prog 23 = some 1 := by kernel_rfl
theorem ag23 : isAggT Try.prog 23 = some false := by kernel_rfl
theorem ip23 : isPtr Try.prog 23 = false := by kernel_rfl
theorem is23 : isSl Try.prog 23 = false := by kernel_rfl
theorem by23 : bytesT Try.prog 23 = some 8 := by kernel_rfl
theorem ze23 : zeroCells? Try.prog 23 = some #[.int .i64 0] := by kernel_rfl
theorem sz24 : sizeT Try.prog 24 = some 1 := by kernel_rfl
theorem ag24 : isAggT Try.prog 24 = some false := by kernel_rfl
theorem ip24 : isPtr Try.prog 24 = false := by kernel_rfl
theorem is24 : isSl Try.prog 24 = false := by kernel_rfl
theorem by24 : bytesT Try.prog 24 = some 0 := by kernel_rfl
theorem sz25 : sizeT Try.prog 25 = some 1 := by kernel_rfl
theorem ag25 : isAggT Try.prog 25 = some false := by kernel_rfl
theorem ip25 : isPtr Try.prog 25 = false := by kernel_rfl
theorem is25 : isSl Try.prog 25 = false := by kernel_rfl
theorem by25 : bytesT Try.prog 25 = some 8 := by kernel_rfl
theorem ze25 : zeroCells? Try.prog 25 = some #[.nilFunc] := by kernel_rfl
theorem sz26 : sizeT Try.prog 26 = some 1 := by kernel_rfl
theorem ag26 : isAggT Try.prog 26 = some false := by kernel_rfl
theorem ip26 : isPtr Try.prog 26 = false := by kernel_rfl
theorem is26 : isSl Try.prog 26 = false := by kernel_rfl
theorem by26 : bytesT Try.prog 26 = some 0 := by kernel_rfl
theorem sz27 : sizeT Try.prog 27 = some 1 := by kernel_rfl
theorem ag27 : isAggT Try.prog 27 = some false := by kernel_rfl
theorem ip27 : isPtr Try.prog 27 = false := by kernel_rfl
theorem is27 : isSl Try.prog 27 = false := by kernel_rfl
theorem by27 : bytesT Try.prog 27 = some 8 := by kernel_rfl
theorem ze27 : zeroCells? Try.prog 27 = some #[.nilFunc] := by kernel_rfl
theorem sz28 : sizeT Try.prog 28 = some 1 := by kernel_rfl
theorem ag28 : isAggT Try.prog 28 = some false := by kernel_rfl
theorem ip28 : isPtr Try.prog 28 = false := by kernel_rfl
theorem is28 : isSl Try.prog 28 = false := by kernel_rfl
theorem by28 : bytesT Try.prog 28 = some 0 := by kernel_rfl
theorem sz29 : sizeT Try.prog 29 = some 1 := by kernel_rfl
theorem ag29 : isAggT Try.prog 29 = some false := by kernel_rfl
theorem ip29 : isPtr Try.prog 29 = false := by kernel_rfl
theorem is29 : isSl Try.prog 29 = false := by kernel_rfl
theorem by29 : bytesT Try.prog 29 = some 8 := by kernel_rfl
theorem ze29 : zeroCells? Try.prog 29 = some #[.nilFunc] := by kernel_rfl
theorem sz30 : sizeT Try.prog 30 = some 1 := by kernel_rfl
theorem ag30 : isAggT Try.prog 30 = some false := by kernel_rfl
theorem ip30 : isPtr Try.prog 30 = false := by kernel_rfl
theorem is30 : isSl Try.prog 30 = false := by kernel_rfl
theorem by30 : bytesT Try.prog 30 = some 0 := by kernel_rfl
theorem sz31 : sizeT Try.prog 31 = some 1 := by kernel_rfl
theorem ag31 : isAggT Try.prog 31 = some false := by kernel_rfl
theorem ip31 : isPtr Try.prog 31 = false := by kernel_rfl
theorem is31 : isSl Try.prog 31 = false := by kernel_rfl
theorem by31 : bytesT Try.prog 31 = some 8 := by kernel_rfl
theorem ze31 : zeroCells? Try.prog 31 = some #[.nilFunc] := by kernel_rfl
theorem sz32 : sizeT Try.prog 32 = some 1 := by kernel_rfl
theorem ag32 : isAggT Try.prog 32 = some false := by kernel_rfl
theorem ip32 : isPtr Try.prog 32 = false := by kernel_rfl
theorem is32 : isSl Try.prog 32 = false := by kernel_rfl
theorem by32 : bytesT Try.prog 32 = some 0 := by kernel_rfl
theorem sz33 : sizeT Try.prog 33 = some 1 := by kernel_rfl
theorem ag33 : isAggT Try.prog 33 = some false := by kernel_rfl
theorem ip33 : isPtr Try.prog 33 = false := by kernel_rfl
theorem is33 : isSl Try.prog 33 = false := by kernel_rfl
theorem by33 : bytesT Try.prog 33 = some 8 := by kernel_rfl
theorem ze33 : zeroCells? Try.prog 33 = some #[.nilFunc] := by kernel_rfl
theorem sz34 : sizeT Try.prog 34 = some 1 := by kernel_rfl
theorem ag34 : isAggT Try.prog 34 = some false := by kernel_rfl
theorem ip34 : isPtr Try.prog 34 = false := by kernel_rfl
theorem is34 : isSl Try.prog 34 = false := by kernel_rfl
theorem by34 : bytesT Try.prog 34 = some 8 := by kernel_rfl
theorem ze34 : zeroCells? Try.prog 34 = some #[.nilFunc] := by kernel_rfl
theorem sz35 : sizeT Try.prog 35 = some 1 := by kernel_rfl
theorem ag35 : isAggT Try.prog 35 = some false := by kernel_rfl
theorem ip35 : isPtr Try.prog 35 = false := by kernel_rfl
theorem is35 : isSl Try.prog 35 = false := by kernel_rfl
theorem by35 : bytesT Try.prog 35 = some 8 := by kernel_rfl
theorem ze35 : zeroCells? Try.prog 35 = some #[.nilFunc] := by kernel_rfl
theorem sz36 : sizeT Try.prog 36 = some 1 := by kernel_rfl
theorem ag36 : isAggT Try.prog 36 = some false := by kernel_rfl
theorem ip36 : isPtr Try.prog 36 = false := by kernel_rfl
theorem is36 : isSl Try.prog 36 = false := by kernel_rfl
theorem by36 : bytesT Try.prog 36 = some 8 := by kernel_rfl
theorem ze36 : zeroCells? Try.prog 36 = some #[.nilFunc] := by kernel_rfl
theorem sz37 : sizeT Try.prog 37 = some 1 := by kernel_rfl
theorem ag37 : isAggT Try.prog 37 = some false := by kernel_rfl
theorem ip37 : isPtr Try.prog 37 = false := by kernel_rfl
theorem is37 : isSl Try.prog 37 = false := by kernel_rfl
theorem by37 : bytesT Try.prog 37 = some 8 := by kernel_rfl
theorem ze37 : zeroCells? Try.prog 37 = some #[.int .u64 0] := by kernel_rfl
theorem sz38 : sizeT Try.prog 38 = some 1 := by kernel_rfl
theorem ag38 : isAggT Try.prog 38 = some false := by kernel_rfl
theorem ip38 : isPtr Try.prog 38 = false := by kernel_rfl
theorem is38 : isSl Try.prog 38 = false := by kernel_rfl
theorem by38 : bytesT Try.prog 38 = some 8 := by kernel_rfl
theorem ze38 : zeroCells? Try.prog 38 = some #[.int .u64 0] := by kernel_rfl
theorem sz39 : sizeT Try.prog 39 = some 1 := by kernel_rfl
theorem ag39 : isAggT Try.prog 39 = some false := by kernel_rfl
theorem ip39 : isPtr Try.prog 39 = false := by kernel_rfl
theorem is39 : isSl Try.prog 39 = false := by kernel_rfl
theorem by39 : bytesT Try.prog 39 = some 8 := by kernel_rfl
theorem ze39 : zeroCells? Try.prog 39 = some #[.nilFunc] := by kernel_rfl
theorem sz40 : sizeT Try.prog 40 = some 1 := by kernel_rfl
theorem ag40 : isAggT Try.prog 40 = some false := by kernel_rfl
theorem el40 : elemT Try.prog 40 = some 9 := by kernel_rfl
theorem ip40 : isPtr Try.prog 40 = false := by kernel_rfl
theorem is40 : isSl Try.prog 40 = true := by kernel_rfl
theorem by40 : bytesT Try.prog 40 = some 24 := by kernel_rfl
theorem ze40 : zeroCells? Try.prog 40 = some #[.slice none 0 0] := by kernel_rfl
theorem sz41 : sizeT Try.prog 41 = some 1 := by kernel_rfl
theorem ag41 : isAggT Try.prog 41 = some false := by kernel_rfl
theorem ip41 : isPtr Try.prog 41 = false := by kernel_rfl
theorem is41 : isSl Try.prog 41 = false := by kernel_rfl
theorem by41 : bytesT Try.prog 41 = some 8 := by kernel_rfl
theorem ze41 : zeroCells? Try.prog 41 = some #[.nilFunc] := by kernel_rfl
theorem sz42 : sizeT Try.prog 42 = some 1 := by kernel_rfl
theorem ag42 : isAggT Try.prog 42 = some false := by kernel_rfl
theorem el42 : elemT Try.prog 42 = some 5 := by kernel_rfl
theorem ip42 : isPtr Try.prog 42 = false := by kernel_rfl
theorem is42 : isSl Try.prog 42 = true := by kernel_rfl
theorem by42 : bytesT Try.prog 42 = some 24 := by kernel_rfl
theorem ze42 : zeroCells? Try.prog 42 = some #[.slice none 0 0] := by kernel_rfl
theorem sz43 : sizeT Try.prog 43 = some 1 := by kernel_rfl
theorem ag43 : isAggT Try.prog 43 = some false := by kernel_rfl
theorem ip43 : isPtr Try.prog 43 = false := by kernel_rfl
theorem is43 : isSl Try.prog 43 = false := by kernel_rfl
theorem by43 : bytesT Try.prog 43 = some 8 := by kernel_rfl
theorem ze43 : zeroCells? Try.prog 43 = some #[.nilFunc] := by kernel_rfl
theorem sz44 : sizeT Try.prog 44 = some 1 := by kernel_rfl
theorem ag44 : isAggT Try.prog 44 = some false := by kernel_rfl
theorem ip44 : isPtr Try.prog 44 = false := by kernel_rfl
theorem is44 : isSl Try.prog 44 = false := by kernel_rfl
theorem by44 : bytesT Try.prog 44 = some 8 := by kernel_rfl
theorem ze44 : zeroCells? Try.prog 44 = some #[.nilFunc] := by kernel_rfl
theorem sz45 : sizeT Try.prog 45 = some 4 := by kernel_rfl
theorem ag45 : isAggT Try.prog 45 = some true := by kernel_rfl
theorem ip45 : isPtr Try.prog 45 = false := by kernel_rfl
theorem is45 : isSl Try.prog 45 = false := by kernel_rfl
theorem fa45_0 (b o : Nat) : evFieldAddr Try.prog 45 (.pointer (some ⟨b, o, none⟩)) 0 = some (.pointer (some ⟨b, o + 0, none⟩)) := by kernel_rfl
theorem fe45_0 (cs : Array Value) : evField Try.prog 45 (.agg cs) 0 = cs[0]? := by kernel_rfl
theorem fa45_1 (b o : Nat) : evFieldAddr Try.prog 45 (.pointer (some ⟨b, o, none⟩)) 1 = some (.pointer (some ⟨b, o + 1, none⟩)) := by kernel_rfl
theorem fe45_1 (cs : Array Value) : evField Try.prog 45 (.agg cs) 1 = cs[1]? := by kernel_rfl
theorem fa45_2 (b o : Nat) : evFieldAddr Try.prog 45 (.pointer (some ⟨b, o, none⟩)) 2 = some (.pointer (some ⟨b, o + 2, none⟩)) := by kernel_rfl
theorem fe45_2 (cs : Array Value) : evField Try.prog 45 (.agg cs) 2 = cs[2]? := by kernel_rfl
theorem fa45_3 (b o : Nat) : evFieldAddr Try.prog 45 (.pointer (some ⟨b, o, none⟩)) 3 = some (.pointer (some ⟨b, o + 3, none⟩)) := by kernel_rfl
theorem fe45_3 (cs : Array Value) : evField Try.prog 45 (.agg cs) 3 = cs[3]? := by kernel_rfl
theorem by45 : bytesT Try.prog 45 = some 40 := by kernel_rfl
theorem ze45 : zeroCells? Try.prog 45 = some #[.pointer none, .pointer none, .pointer none, .string ⟨#[]⟩] := by kernel_rfl
theorem sz46 : sizeT Try.prog 46 = some 4 := by kernel_rfl
theorem ag46 : isAggT Try.prog 46 = some true := by kernel_rfl
theorem ip46 : isPtr Try.prog 46 = false := by kernel_rfl
theorem is46 : isSl Try.prog 46 = false := by kernel_rfl
theorem fa46_0 (b o : Nat) : evFieldAddr Try.prog 46 (.pointer (some ⟨b, o, none⟩)) 0 = some (.pointer (some ⟨b, o + 0, none⟩)) := by kernel_rfl
theorem fe46_0 (cs : Array Value) : evField Try.prog 46 (.agg cs) 0 = cs[0]? := by kernel_rfl
theorem fa46_1 (b o : Nat) : evFieldAddr Try.prog 46 (.pointer (some ⟨b, o, none⟩)) 1 = some (.pointer (some ⟨b, o + 1, none⟩)) := by kernel_rfl
theorem fe46_1 (cs : Array Value) : evField Try.prog 46 (.agg cs) 1 = cs[1]? := by kernel_rfl
theorem fa46_2 (b o : Nat) : evFieldAddr Try.prog 46 (.pointer (some ⟨b, o, none⟩)) 2 = some (.pointer (some ⟨b, o + 2, none⟩)) := by kernel_rfl
theorem fe46_2 (cs : Array Value) : evField Try.prog 46 (.agg cs) 2 = cs[2]? := by kernel_rfl
theorem fa46_3 (b o : Nat) : evFieldAddr Try.prog 46 (.pointer (some ⟨b, o, none⟩)) 3 = some (.pointer (some ⟨b, o + 3, none⟩)) := by kernel_rfl
theorem fe46_3 (cs : Array Value) : evField Try.prog 46 (.agg cs) 3 = cs[3]? := by kernel_rfl
theorem by46 : bytesT Try.prog 46 = some 40 := by kernel_rfl
theorem ze46 : zeroCells? Try.prog 46 = some #[.pointer none, .pointer none, .pointer none, .string ⟨#[]⟩] := by kernel_rfl
theorem sz47 : sizeT Try.prog 47 = some 0 := by kernel_rfl
theorem ag47 : isAggT Try.prog 47 = some true := by kernel_rfl
theorem ip47 : isPtr Try.prog 47 = false := by kernel_rfl
theorem is47 : isSl Try.prog 47 = false := by kernel_rfl
theorem by47 : bytesT Try.prog 47 = some 0 := by kernel_rfl
theorem ze47 : zeroCells? Try.prog 47 = some #[] := by kernel_rfl
theorem sz48 : sizeT Try.prog 48 = some 0 := by kernel_rfl
theorem ag48 : isAggT Try.prog 48 = some true := by kernel_rfl
theorem ip48 : isPtr Try.prog 48 = false := by kernel_rfl
theorem is48 : isSl Try.prog 48 = false := by kernel_rfl
theorem fe48_0 (cs : Array Value) : evField Try.prog 48 (.agg cs) 0 = some (.agg (cs.extract 0 (0 + 0))) := by kernel_rfl
theorem by48 : bytesT Try.prog 48 = some 0 := by kernel_rfl
theorem ze48 : zeroCells? Try.prog 48 = some #[] := by kernel_rfl
theorem sz49 : sizeT Try.prog 49 = some 0 := by kernel_rfl
theorem ag49 : isAggT Try.prog 49 = some true := by kernel_rfl
theorem ip49 : isPtr Try.prog 49 = false := by kernel_rfl
theorem is49 : isSl Try.prog 49 = false := by kernel_rfl
theorem fe49_0 (cs : Array Value) : evField Try.prog 49 (.agg cs) 0 = some (.agg (cs.extract 0 (0 + 0))) := by kernel_rfl
theorem by49 : bytesT Try.prog 49 = some 0 := by kernel_rfl
theorem ze49 : zeroCells? Try.prog 49 = some #[] := by kernel_rfl
theorem sz50 : sizeT Try.prog 50 = some 1 := by kernel_rfl
theorem ag50 : isAggT Try.prog 50 = some false := by kernel_rfl
theorem ip50 : isPtr Try.prog 50 = false := by kernel_rfl
theorem is50 : isSl Try.prog 50 = false := by kernel_rfl
theorem by50 : bytesT Try.prog 50 = some 8 := by kernel_rfl
theorem ze50 : zeroCells? Try.prog 50 = some #[.nilFunc] := by kernel_rfl
theorem sz51 : sizeT Try.prog 51 = some 1 := by kernel_rfl
theorem ag51 : isAggT Try.prog 51 = some false := by kernel_rfl
theorem ip51 : isPtr Try.prog 51 = false := by kernel_rfl
theorem is51 : isSl Try.prog 51 = false := by kernel_rfl
theorem by51 : bytesT Try.prog 51 = some 4 := by kernel_rfl
theorem ze51 : zeroCells? Try.prog 51 = some #[.int .u32 0] := by kernel_rfl
theorem sz52 : sizeT Try.prog 52 = some 1 := by kernel_rfl
theorem ag52 : isAggT Try.prog 52 = some false := by kernel_rfl
theorem ip52 : isPtr Try.prog 52 = false := by kernel_rfl
theorem is52 : isSl Try.prog 52 = false := by kernel_rfl
theorem by52 : bytesT Try.prog 52 = some 1 := by kernel_rfl
theorem ze52 : zeroCells? Try.prog 52 = some #[.int .u8 0] := by kernel_rfl
theorem sz53 : sizeT Try.prog 53 = some 1 := by kernel_rfl
theorem ag53 : isAggT Try.prog 53 = some false := by kernel_rfl
theorem ip53 : isPtr Try.prog 53 = false := by kernel_rfl
theorem is53 : isSl Try.prog 53 = false := by kernel_rfl
theorem by53 : bytesT Try.prog 53 = some 1 := by kernel_rfl
theorem ze53 : zeroCells? Try.prog 53 = some #[.int .u8 0] := by kernel_rfl
theorem sz54 : sizeT Try.prog 54 = some 1 := by kernel_rfl
theorem ag54 : isAggT Try.prog 54 = some false := by kernel_rfl
theorem ip54 : isPtr Try.prog 54 = false := by kernel_rfl
theorem is54 : isSl Try.prog 54 = false := by kernel_rfl
theorem by54 : bytesT Try.prog 54 = some 8 := by kernel_rfl
theorem ze54 : zeroCells? Try.prog 54 = some #[.nilFunc] := by kernel_rfl
theorem sz55 : sizeT Try.prog 55 = some 1 := by kernel_rfl
theorem ag55 : isAggT Try.prog 55 = some false := by kernel_rfl
theorem ip55 : isPtr Try.prog 55 = true := by kernel_rfl
theorem is55 : isSl Try.prog 55 = false := by kernel_rfl
theorem by55 : bytesT Try.prog 55 = some 8 := by kernel_rfl
theorem ze55 : zeroCells? Try.prog 55 = some #[.pointer none] := by kernel_rfl
theorem sz56 : sizeT Try.prog 56 = some 1 := by kernel_rfl
theorem ag56 : isAggT Try.prog 56 = some false := by kernel_rfl
theorem ip56 : isPtr Try.prog 56 = false := by kernel_rfl
theorem is56 : isSl Try.prog 56 = false := by kernel_rfl
theorem by56 : bytesT Try.prog 56 = some 4 := by kernel_rfl
theorem ze56 : zeroCells? Try.prog 56 = some #[.int .i32 0] := by kernel_rfl
theorem sz57 : sizeT Try.prog 57 = some 1 := by kernel_rfl
theorem ag57 : isAggT Try.prog 57 = some false := by kernel_rfl
theorem ip57 : isPtr Try.prog 57 = false := by kernel_rfl
theorem is57 : isSl Try.prog 57 = false := by kernel_rfl
theorem by57 : bytesT Try.prog 57 = some 4 := by kernel_rfl
theorem ze57 : zeroCells? Try.prog 57 = some #[.int .i32 0] := by kernel_rfl
theorem sz58 : sizeT Try.prog 58 = some 11 := by kernel_rfl
theorem ag58 : isAggT Try.prog 58 = some true := by kernel_rfl
theorem ip58 : isPtr Try.prog 58 = false := by kernel_rfl
theorem is58 : isSl Try.prog 58 = false := by kernel_rfl
theorem fa58_0 (b o : Nat) : evFieldAddr Try.prog 58 (.pointer (some ⟨b, o, none⟩)) 0 = some (.pointer (some ⟨b, o + 0, none⟩)) := by kernel_rfl
theorem fe58_0 (cs : Array Value) : evField Try.prog 58 (.agg cs) 0 = cs[0]? := by kernel_rfl
theorem fa58_1 (b o : Nat) : evFieldAddr Try.prog 58 (.pointer (some ⟨b, o, none⟩)) 1 = some (.pointer (some ⟨b, o + 1, none⟩)) := by kernel_rfl
theorem fe58_1 (cs : Array Value) : evField Try.prog 58 (.agg cs) 1 = cs[1]? := by kernel_rfl
theorem fa58_2 (b o : Nat) : evFieldAddr Try.prog 58 (.pointer (some ⟨b, o, none⟩)) 2 = some (.pointer (some ⟨b, o + 2, none⟩)) := by kernel_rfl
theorem fe58_2 (cs : Array Value) : evField Try.prog 58 (.agg cs) 2 = cs[2]? := by kernel_rfl
theorem fa58_3 (b o : Nat) : evFieldAddr Try.prog 58 (.pointer (some ⟨b, o, none⟩)) 3 = some (.pointer (some ⟨b, o + 3, none⟩)) := by kernel_rfl
theorem fe58_3 (cs : Array Value) : evField Try.prog 58 (.agg cs) 3 = cs[3]? := by kernel_rfl
theorem fa58_4 (b o : Nat) : evFieldAddr Try.prog 58 (.pointer (some ⟨b, o, none⟩)) 4 = some (.pointer (some ⟨b, o + 4, none⟩)) := by kernel_rfl
theorem fe58_4 (cs : Array Value) : evField Try.prog 58 (.agg cs) 4 = cs[4]? := by kernel_rfl
theorem fa58_5 (b o : Nat) : evFieldAddr Try.prog 58 (.pointer (some ⟨b, o, none⟩)) 5 = some (.pointer (some ⟨b, o + 5, none⟩)) := by kernel_rfl
theorem fe58_5 (cs : Array Value) : evField Try.prog 58 (.agg cs) 5 = cs[5]? := by kernel_rfl
theorem fa58_6 (b o : Nat) : evFieldAddr Try.prog 58 (.pointer (some ⟨b, o, none⟩)) 6 = some (.pointer (some ⟨b, o + 6, none⟩)) := by kernel_rfl
theorem fe58_6 (cs : Array Value) : evField Try.prog 58 (.agg cs) 6 = cs[6]? := by kernel_rfl
theorem fa58_7 (b o : Nat) : evFieldAddr Try.prog 58 (.pointer (some ⟨b, o, none⟩)) 7 = some (.pointer (some ⟨b, o + 7, none⟩)) := by kernel_rfl
theorem fe58_7 (cs : Array Value) : evField Try.prog 58 (.agg cs) 7 = cs[7]? := by kernel_rfl
theorem fa58_8 (b o : Nat) : evFieldAddr Try.prog 58 (.pointer (some ⟨b, o, none⟩)) 8 = some (.pointer (some ⟨b, o + 8, none⟩)) := by kernel_rfl
theorem fe58_8 (cs : Array Value) : evField Try.prog 58 (.agg cs) 8 = cs[8]? := by kernel_rfl
theorem fa58_9 (b o : Nat) : evFieldAddr Try.prog 58 (.pointer (some ⟨b, o, none⟩)) 9 = some (.pointer (some ⟨b, o + 9, none⟩)) := by kernel_rfl
theorem fe58_9 (cs : Array Value) : evField Try.prog 58 (.agg cs) 9 = cs[9]? := by kernel_rfl
theorem fa58_10 (b o : Nat) : evFieldAddr Try.prog 58 (.pointer (some ⟨b, o, none⟩)) 10 = some (.pointer (some ⟨b, o + 10, none⟩)) := by kernel_rfl
theorem fe58_10 (cs : Array Value) : evField Try.prog 58 (.agg cs) 10 = cs[10]? := by kernel_rfl
theorem by58 : bytesT Try.prog 58 = some 48 := by kernel_rfl
theorem ze58 : zeroCells? Try.prog 58 = some #[.int .u64 0, .int .u64 0, .int .u32 0, .int .u8 0, .int .u8 0, .int .u8 0, .int .u8 0, .nilFunc, .pointer none, .int .i32 0, .int .i32 0] := by kernel_rfl
theorem sz59 : sizeT Try.prog 59 = some 11 := by kernel_rfl
theorem ag59 : isAggT Try.prog 59 = some true := by kernel_rfl
theorem ip59 : isPtr Try.prog 59 = false := by kernel_rfl
theorem is59 : isSl Try.prog 59 = false := by kernel_rfl
theorem fa59_0 (b o : Nat) : evFieldAddr Try.prog 59 (.pointer (some ⟨b, o, none⟩)) 0 = some (.pointer (some ⟨b, o + 0, none⟩)) := by kernel_rfl
theorem fe59_0 (cs : Array Value) : evField Try.prog 59 (.agg cs) 0 = cs[0]? := by kernel_rfl
theorem fa59_1 (b o : Nat) : evFieldAddr Try.prog 59 (.pointer (some ⟨b, o, none⟩)) 1 = some (.pointer (some ⟨b, o + 1, none⟩)) := by kernel_rfl
theorem fe59_1 (cs : Array Value) : evField Try.prog 59 (.agg cs) 1 = cs[1]? := by kernel_rfl
theorem fa59_2 (b o : Nat) : evFieldAddr Try.prog 59 (.pointer (some ⟨b, o, none⟩)) 2 = some (.pointer (some ⟨b, o + 2, none⟩)) := by kernel_rfl
theorem fe59_2 (cs : Array Value) : evField Try.prog 59 (.agg cs) 2 = cs[2]? := by kernel_rfl
theorem fa59_3 (b o : Nat) : evFieldAddr Try.prog 59 (.pointer (some ⟨b, o, none⟩)) 3 = some (.pointer (some ⟨b, o + 3, none⟩)) := by kernel_rfl
theorem fe59_3 (cs : Array Value) : evField Try.prog 59 (.agg cs) 3 = cs[3]? := by kernel_rfl
theorem fa59_4 (b o : Nat) : evFieldAddr Try.prog 59 (.pointer (some ⟨b, o, none⟩)) 4 = some (.pointer (some ⟨b, o + 4, none⟩)) := by kernel_rfl
theorem fe59_4 (cs : Array Value) : evField Try.prog 59 (.agg cs) 4 = cs[4]? := by kernel_rfl
theorem fa59_5 (b o : Nat) : evFieldAddr Try.prog 59 (.pointer (some ⟨b, o, none⟩)) 5 = some (.pointer (some ⟨b, o + 5, none⟩)) := by kernel_rfl
theorem fe59_5 (cs : Array Value) : evField Try.prog 59 (.agg cs) 5 = cs[5]? := by kernel_rfl
theorem fa59_6 (b o : Nat) : evFieldAddr Try.prog 59 (.pointer (some ⟨b, o, none⟩)) 6 = some (.pointer (some ⟨b, o + 6, none⟩)) := by kernel_rfl
theorem fe59_6 (cs : Array Value) : evField Try.prog 59 (.agg cs) 6 = cs[6]? := by kernel_rfl
theorem fa59_7 (b o : Nat) : evFieldAddr Try.prog 59 (.pointer (some ⟨b, o, none⟩)) 7 = some (.pointer (some ⟨b, o + 7, none⟩)) := by kernel_rfl
theorem fe59_7 (cs : Array Value) : evField Try.prog 59 (.agg cs) 7 = cs[7]? := by kernel_rfl
theorem fa59_8 (b o : Nat) : evFieldAddr Try.prog 59 (.pointer (some ⟨b, o, none⟩)) 8 = some (.pointer (some ⟨b, o + 8, none⟩)) := by kernel_rfl
theorem fe59_8 (cs : Array Value) : evField Try.prog 59 (.agg cs) 8 = cs[8]? := by kernel_rfl
theorem fa59_9 (b o : Nat) : evFieldAddr Try.prog 59 (.pointer (some ⟨b, o, none⟩)) 9 = some (.pointer (some ⟨b, o + 9, none⟩)) := by kernel_rfl
theorem fe59_9 (cs : Array Value) : evField Try.prog 59 (.agg cs) 9 = cs[9]? := by kernel_rfl
theorem fa59_10 (b o : Nat) : evFieldAddr Try.prog 59 (.pointer (some ⟨b, o, none⟩)) 10 = some (.pointer (some ⟨b, o + 10, none⟩)) := by kernel_rfl
theorem fe59_10 (cs : Array Value) : evField Try.prog 59 (.agg cs) 10 = cs[10]? := by kernel_rfl
theorem by59 : bytesT Try.prog 59 = some 48 := by kernel_rfl
theorem ze59 : zeroCells? Try.prog 59 = some #[.int .u64 0, .int .u64 0, .int .u32 0, .int .u8 0, .int .u8 0, .int .u8 0, .int .u8 0, .nilFunc, .pointer none, .int .i32 0, .int .i32 0] := by kernel_rfl
theorem sz60 : sizeT Try.prog 60 = some 1 := by kernel_rfl
theorem ag60 : isAggT Try.prog 60 = some false := by kernel_rfl
theorem ip60 : isPtr Try.prog 60 = false := by kernel_rfl
theorem is60 : isSl Try.prog 60 = false := by kernel_rfl
theorem by60 : bytesT Try.prog 60 = some 8 := by kernel_rfl
theorem ze60 : zeroCells? Try.prog 60 = some #[.pointer none] := by kernel_rfl
end Go.Proofs.Ytjdenkhiakmdkaa
