/- Closed facts on this seat's program, for the abstract evaluator: written by gen2.py. -/
import Derived.Test.YtppieiodphkbgaaFwZB
import Derived.Test.YtppieiodphkbgaaProg
set_option linter.all false
namespace Go.Proofs.Ytppieiodphkbgaa
open Go.Ab
def prs : FuncId → Nat → List (Nat × Nat)
  | 8, 1 => [(3, 9)]
  | 12, 3 => [(3, 6)]
  | _, _ => []
set_option maxRecDepth 100000 in
theorem prsOk : progOkB Try.prog prs = true := by kernel_rfl
theorem mixed : Try.prog.follows .mixedOrders = true := by kernel_rfl
theorem sz3 : sizeT Try.prog 3 = some 1 := by kernel_rfl
theorem sz4 : sizeT Try.prog 4 = some 1 := by kernel_rfl
theorem sz5 : sizeT Try.prog 5 = some 1 := by kernel_rfl
theorem sz22 : sizeT Try.prog 22 = some 1 := by kernel_rfl
theorem sz24 : sizeT Try.prog 24 = some 1 := by kernel_rfl
theorem sz26 : sizeT Try.prog 26 = some 1 := by kernel_rfl
theorem sz27 : sizeT Try.prog 27 = some 2 := by kernel_rfl
theorem sz28 : sizeT Try.prog 28 = some 2 := by kernel_rfl
theorem sz39 : sizeT Try.prog 39 = some 3 := by kernel_rfl
theorem sz40 : sizeT Try.prog 40 = some 3 := by kernel_rfl
theorem ag3 : isAggT Try.prog 3 = some false := by kernel_rfl
theorem ag4 : isAggT Try.prog 4 = some false := by kernel_rfl
theorem ag5 : isAggT Try.prog 5 = some false := by kernel_rfl
theorem ag22 : isAggT Try.prog 22 = some false := by kernel_rfl
theorem ag24 : isAggT Try.prog 24 = some false := by kernel_rfl
theorem ag26 : isAggT Try.prog 26 = some false := by kernel_rfl
theorem ag27 : isAggT Try.prog 27 = some true := by kernel_rfl
theorem ag28 : isAggT Try.prog 28 = some true := by kernel_rfl
theorem ag39 : isAggT Try.prog 39 = some true := by kernel_rfl
theorem ag40 : isAggT Try.prog 40 = some true := by kernel_rfl
theorem ip3 : isPtr Try.prog 3 = false := by kernel_rfl
theorem is3 : isSl Try.prog 3 = false := by kernel_rfl
theorem ze3 : zeroCells? Try.prog 3 = some #[.int .i64 0] := by kernel_rfl
theorem ip4 : isPtr Try.prog 4 = false := by kernel_rfl
theorem is4 : isSl Try.prog 4 = false := by kernel_rfl
theorem ze4 : zeroCells? Try.prog 4 = some #[.bool false] := by kernel_rfl
def br4 := @bool_rules Try.prog 4 Try.underlying4 ip4 is4
theorem ip5 : isPtr Try.prog 5 = false := by kernel_rfl
theorem is5 : isSl Try.prog 5 = false := by kernel_rfl
theorem ze5 : zeroCells? Try.prog 5 = some #[.int .u8 0] := by kernel_rfl
theorem ip22 : isPtr Try.prog 22 = false := by kernel_rfl
theorem is22 : isSl Try.prog 22 = true := by kernel_rfl
theorem ze22 : zeroCells? Try.prog 22 = some #[.slice none 0 0] := by kernel_rfl
theorem el22 : elemT Try.prog 22 = some 28 := by kernel_rfl
def ll22 := @slice_len Try.prog 22 28 Try.underlying22
def ln22 := @slice_nil Try.prog 22 ip22 is22
def la22 := @slice_ia Try.prog 22 28 2 Try.underlying22 sz28
theorem ip24 : isPtr Try.prog 24 = true := by kernel_rfl
theorem is24 : isSl Try.prog 24 = false := by kernel_rfl
theorem ze24 : zeroCells? Try.prog 24 = some #[.pointer none] := by kernel_rfl
def pr24 := @ptr_rules Try.prog 24 ip24
theorem ip26 : isPtr Try.prog 26 = false := by kernel_rfl
theorem is26 : isSl Try.prog 26 = true := by kernel_rfl
theorem ze26 : zeroCells? Try.prog 26 = some #[.slice none 0 0] := by kernel_rfl
theorem el26 : elemT Try.prog 26 = some 3 := by kernel_rfl
def ll26 := @slice_len Try.prog 26 3 Try.underlying26
def ln26 := @slice_nil Try.prog 26 ip26 is26
def la26 := @slice_ia Try.prog 26 3 1 Try.underlying26 sz3
theorem ip27 : isPtr Try.prog 27 = false := by kernel_rfl
theorem is27 : isSl Try.prog 27 = false := by kernel_rfl
theorem ze27 : zeroCells? Try.prog 27 = some #[.int .i64 0, .int .i64 0] := by kernel_rfl
theorem ip28 : isPtr Try.prog 28 = false := by kernel_rfl
theorem is28 : isSl Try.prog 28 = false := by kernel_rfl
theorem ze28 : zeroCells? Try.prog 28 = some #[.int .i64 0, .int .i64 0] := by kernel_rfl
theorem fa28_0 {b o : Nat} : evFieldAddr Try.prog 28 (.pointer (some ⟨b, o, none⟩)) 0 = some (.pointer (some ⟨b, o + 0, none⟩)) := by kernel_rfl
theorem fa28_1 {b o : Nat} : evFieldAddr Try.prog 28 (.pointer (some ⟨b, o, none⟩)) 1 = some (.pointer (some ⟨b, o + 1, none⟩)) := by kernel_rfl
theorem ip39 : isPtr Try.prog 39 = false := by kernel_rfl
theorem is39 : isSl Try.prog 39 = false := by kernel_rfl
theorem ze39 : zeroCells? Try.prog 39 = some #[.slice none 0 0, .int .i64 0, .int .i64 0] := by kernel_rfl
theorem ip40 : isPtr Try.prog 40 = false := by kernel_rfl
theorem is40 : isSl Try.prog 40 = false := by kernel_rfl
theorem ze40 : zeroCells? Try.prog 40 = some #[.slice none 0 0, .int .i64 0, .int .i64 0] := by kernel_rfl
theorem fa40_0 {b o : Nat} : evFieldAddr Try.prog 40 (.pointer (some ⟨b, o, none⟩)) 0 = some (.pointer (some ⟨b, o + 0, none⟩)) := by kernel_rfl
theorem fa40_1 {b o : Nat} : evFieldAddr Try.prog 40 (.pointer (some ⟨b, o, none⟩)) 1 = some (.pointer (some ⟨b, o + 1, none⟩)) := by kernel_rfl
theorem fa40_2 {b o : Nat} : evFieldAddr Try.prog 40 (.pointer (some ⟨b, o, none⟩)) 2 = some (.pointer (some ⟨b, o + 2, none⟩)) := by kernel_rfl
def cv5_3 := @cv_rule Try.prog 5 3 .u8 .i64 Try.underlying5 Try.underlying3
theorem by3 : bytesT Try.prog 3 = some 8 := by kernel_rfl
def mk26 := @mk_rule Try.prog 26 3 (.int .i64 0) 8 el26 ze3 sz3 by3
theorem bu40_0 (x0a : Option Addr) (x0n x0c : Nat) : evBuild Try.prog 40 [(0, .slice x0a x0n x0c)] = some (.agg #[.slice x0a x0n x0c, .int .i64 0, .int .i64 0]) := by kernel_rfl
theorem bs26_1_0 (x0 : Int) {nid : Nat} : evBuildSlice Try.prog nid 26 1 [(0, .int .i64 x0)] = some ⟨.slice (some ⟨nid, 0, none⟩) 1 1, [(nid, some (.cells [.int .i64 x0] 3 true))], []⟩ := by kernel_rfl
theorem ap26_26 : AppT Try.prog 26 26 3 1 8 := ⟨by kernel_rfl, ⟨_, Try.underlying26, rfl⟩, by kernel_rfl, by kernel_rfl, ⟨_, ze3, rfl⟩, by decide⟩
def fxU := And.intro (And.intro (And.intro (@Try.underlying3) (@Try.underlying4)) (And.intro (@Try.underlying5) (And.intro (@Try.underlying22) (@Try.underlying24)))) (And.intro (And.intro (@Try.underlying26) (@Try.underlying27)) (And.intro (@Try.underlying28) (And.intro (@Try.underlying39) (@Try.underlying40))))
def fxSZ := And.intro (And.intro (And.intro (And.intro (@sz3) (@sz4)) (And.intro (@sz5) (And.intro (@sz22) (@sz24)))) (And.intro (And.intro (@sz26) (@sz27)) (And.intro (@sz28) (And.intro (@sz39) (@sz40))))) (And.intro (And.intro (And.intro (@ag3) (@ag4)) (And.intro (@ag5) (And.intro (@ag22) (@ag24)))) (And.intro (And.intro (@ag26) (@ag27)) (And.intro (@ag28) (And.intro (@ag39) (@ag40)))))
def fxZE := And.intro (And.intro (And.intro (@ze3) (@ze4)) (And.intro (@ze5) (And.intro (@ze22) (@ze24)))) (And.intro (And.intro (@ze26) (@ze27)) (And.intro (@ze28) (And.intro (@ze39) (@ze40))))
def fxFA := And.intro (And.intro (@fa28_0) (@fa28_1)) (And.intro (@fa40_0) (And.intro (@fa40_1) (@fa40_2)))
theorem fxFE : (undef = undef) = True := noFacts
def fxEL := And.intro (@el22) (And.intro (@el26) (@by3))
def fxI := And.intro (And.intro (ip3) (And.intro (is3) (ip4))) (And.intro (is4) (And.intro (ip5) (is5)))
def fxB := And.intro (And.intro (br4) (ln22)) (And.intro (pr24) (ln26))
theorem fxST : (undef = undef) = True := noFacts
def fxLEN := And.intro (ll22) (ll26)
theorem fxIX : (undef = undef) = True := noFacts
theorem fxSS : (undef = undef) = True := noFacts
def fxIA := And.intro (la22) (la26)
theorem fxEQ : (undef = undef) = True := noFacts
def fxCV := cv5_3
def fxMK := mk26
def fxBU := And.intro (@bu40_0) (@bs26_1_0)
end Go.Proofs.Ytppieiodphkbgaa
