/- Closed facts on this seat's program, for the abstract evaluator: written by gen2.py. -/
import Derived.Test.YtpcbfbjoiknbhaaFwG3
import Derived.Test.YtpcbfbjoiknbhaaProg
set_option linter.all false
namespace Go.Proofs.Ytpcbfbjoiknbhaa
open Go.Ab
def prs : FuncId → Nat → List (Nat × Nat)
  | 3, 17 => [(7, 11), (23, 27), (23, 31)]
  | 13, 1 => [(1, 5)]
  | 18, 1 => [(4, 8)]
  | _, _ => []
set_option maxRecDepth 100000 in
theorem prsOk : progOkB Try.prog prs = true := by kernel_rfl
theorem mixed : Try.prog.follows .mixedOrders = true := by kernel_rfl
theorem sz3 : sizeT Try.prog 3 = some 1 := by kernel_rfl
theorem sz4 : sizeT Try.prog 4 = some 1 := by kernel_rfl
theorem sz5 : sizeT Try.prog 5 = some 1 := by kernel_rfl
theorem sz9 : sizeT Try.prog 9 = some 1 := by kernel_rfl
theorem sz22 : sizeT Try.prog 22 = some 1 := by kernel_rfl
theorem sz24 : sizeT Try.prog 24 = some 1 := by kernel_rfl
theorem sz26 : sizeT Try.prog 26 = some 1 := by kernel_rfl
theorem sz27 : sizeT Try.prog 27 = some 2 := by kernel_rfl
theorem sz28 : sizeT Try.prog 28 = some 2 := by kernel_rfl
theorem sz29 : sizeT Try.prog 29 = some 3 := by kernel_rfl
theorem sz30 : sizeT Try.prog 30 = some 3 := by kernel_rfl
theorem sz36 : sizeT Try.prog 36 = some 1 := by kernel_rfl
theorem sz37 : sizeT Try.prog 37 = some 1 := by kernel_rfl
theorem sz40 : sizeT Try.prog 40 = some 1 := by kernel_rfl
theorem sz41 : sizeT Try.prog 41 = some 2 := by kernel_rfl
theorem sz42 : sizeT Try.prog 42 = some 2 := by kernel_rfl
theorem sz43 : sizeT Try.prog 43 = some 4 := by kernel_rfl
theorem sz44 : sizeT Try.prog 44 = some 4 := by kernel_rfl
theorem sz49 : sizeT Try.prog 49 = some 1 := by kernel_rfl
theorem sz50 : sizeT Try.prog 50 = some 1 := by kernel_rfl
theorem ag3 : isAggT Try.prog 3 = some false := by kernel_rfl
theorem ag4 : isAggT Try.prog 4 = some false := by kernel_rfl
theorem ag5 : isAggT Try.prog 5 = some false := by kernel_rfl
theorem ag9 : isAggT Try.prog 9 = some false := by kernel_rfl
theorem ag22 : isAggT Try.prog 22 = some false := by kernel_rfl
theorem ag24 : isAggT Try.prog 24 = some false := by kernel_rfl
theorem ag26 : isAggT Try.prog 26 = some false := by kernel_rfl
theorem ag27 : isAggT Try.prog 27 = some true := by kernel_rfl
theorem ag28 : isAggT Try.prog 28 = some true := by kernel_rfl
theorem ag29 : isAggT Try.prog 29 = some true := by kernel_rfl
theorem ag30 : isAggT Try.prog 30 = some true := by kernel_rfl
theorem ag36 : isAggT Try.prog 36 = some false := by kernel_rfl
theorem ag37 : isAggT Try.prog 37 = some false := by kernel_rfl
theorem ag40 : isAggT Try.prog 40 = some false := by kernel_rfl
theorem ag41 : isAggT Try.prog 41 = some true := by kernel_rfl
theorem ag42 : isAggT Try.prog 42 = some true := by kernel_rfl
theorem ag43 : isAggT Try.prog 43 = some true := by kernel_rfl
theorem ag44 : isAggT Try.prog 44 = some true := by kernel_rfl
theorem ag49 : isAggT Try.prog 49 = some false := by kernel_rfl
theorem ag50 : isAggT Try.prog 50 = some false := by kernel_rfl
theorem ip3 : isPtr Try.prog 3 = false := by kernel_rfl
theorem is3 : isSl Try.prog 3 = false := by kernel_rfl
theorem ze3 : zeroCells? Try.prog 3 = some #[.int .i64 0] := by kernel_rfl
theorem ip4 : isPtr Try.prog 4 = false := by kernel_rfl
theorem is4 : isSl Try.prog 4 = false := by kernel_rfl
theorem ze4 : zeroCells? Try.prog 4 = some #[.bool false] := by kernel_rfl
def br4 := @bool_rules Try.prog 4 Try.underlying4 ip4 is4
theorem ip5 : isPtr Try.prog 5 = false := by kernel_rfl
theorem is5 : isSl Try.prog 5 = false := by kernel_rfl
theorem ze5 : zeroCells? Try.prog 5 = some #[.int .u8 0] := by kernel_rfl
theorem ip9 : isPtr Try.prog 9 = false := by kernel_rfl
theorem is9 : isSl Try.prog 9 = false := by kernel_rfl
theorem ze9 : zeroCells? Try.prog 9 = some #[.string ⟨#[]⟩] := by kernel_rfl
def sr9 := @str_rules2 Try.prog 9 Try.underlying9 ip9 is9
def sl9 := @str_len Try.prog 9 Try.underlying9
def si9 := @str_ix Try.prog 9 Try.underlying9
def ss9 := @str_sl Try.prog 9 Try.underlying9 ip9 is9
theorem ip22 : isPtr Try.prog 22 = false := by kernel_rfl
theorem is22 : isSl Try.prog 22 = true := by kernel_rfl
theorem ze22 : zeroCells? Try.prog 22 = some #[.slice none 0 0] := by kernel_rfl
theorem el22 : elemT Try.prog 22 = some 30 := by kernel_rfl
def ll22 := @slice_len Try.prog 22 30 Try.underlying22
def ln22 := @slice_nil Try.prog 22 ip22 is22
def la22 := @slice_ia Try.prog 22 30 3 Try.underlying22 sz30
theorem ip24 : isPtr Try.prog 24 = true := by kernel_rfl
theorem is24 : isSl Try.prog 24 = false := by kernel_rfl
theorem ze24 : zeroCells? Try.prog 24 = some #[.pointer none] := by kernel_rfl
def pr24 := @ptr_rules Try.prog 24 ip24
theorem ip26 : isPtr Try.prog 26 = true := by kernel_rfl
theorem is26 : isSl Try.prog 26 = false := by kernel_rfl
theorem ze26 : zeroCells? Try.prog 26 = some #[.pointer none] := by kernel_rfl
def pr26 := @ptr_rules Try.prog 26 ip26
theorem ip27 : isPtr Try.prog 27 = false := by kernel_rfl
theorem is27 : isSl Try.prog 27 = false := by kernel_rfl
theorem ze27 : zeroCells? Try.prog 27 = some #[.string ⟨#[]⟩, .int .i64 0] := by kernel_rfl
theorem ip28 : isPtr Try.prog 28 = false := by kernel_rfl
theorem is28 : isSl Try.prog 28 = false := by kernel_rfl
theorem ze28 : zeroCells? Try.prog 28 = some #[.string ⟨#[]⟩, .int .i64 0] := by kernel_rfl
theorem fa28_0 {b o : Nat} : evFieldAddr Try.prog 28 (.pointer (some ⟨b, o, none⟩)) 0 = some (.pointer (some ⟨b, o + 0, none⟩)) := by kernel_rfl
theorem fa28_1 {b o : Nat} : evFieldAddr Try.prog 28 (.pointer (some ⟨b, o, none⟩)) 1 = some (.pointer (some ⟨b, o + 1, none⟩)) := by kernel_rfl
theorem ip29 : isPtr Try.prog 29 = false := by kernel_rfl
theorem is29 : isSl Try.prog 29 = false := by kernel_rfl
theorem ze29 : zeroCells? Try.prog 29 = some #[.bool false, .int .i64 0, .string ⟨#[]⟩] := by kernel_rfl
theorem ip30 : isPtr Try.prog 30 = false := by kernel_rfl
theorem is30 : isSl Try.prog 30 = false := by kernel_rfl
theorem ze30 : zeroCells? Try.prog 30 = some #[.bool false, .int .i64 0, .string ⟨#[]⟩] := by kernel_rfl
theorem fa30_0 {b o : Nat} : evFieldAddr Try.prog 30 (.pointer (some ⟨b, o, none⟩)) 0 = some (.pointer (some ⟨b, o + 0, none⟩)) := by kernel_rfl
theorem fa30_1 {b o : Nat} : evFieldAddr Try.prog 30 (.pointer (some ⟨b, o, none⟩)) 1 = some (.pointer (some ⟨b, o + 1, none⟩)) := by kernel_rfl
theorem fa30_2 {b o : Nat} : evFieldAddr Try.prog 30 (.pointer (some ⟨b, o, none⟩)) 2 = some (.pointer (some ⟨b, o + 2, none⟩)) := by kernel_rfl
theorem ip36 : isPtr Try.prog 36 = false := by kernel_rfl
theorem is36 : isSl Try.prog 36 = true := by kernel_rfl
theorem ze36 : zeroCells? Try.prog 36 = some #[.slice none 0 0] := by kernel_rfl
theorem el36 : elemT Try.prog 36 = some 9 := by kernel_rfl
def ll36 := @slice_len Try.prog 36 9 Try.underlying36
def ln36 := @slice_nil Try.prog 36 ip36 is36
def la36 := @slice_ia Try.prog 36 9 1 Try.underlying36 sz9
theorem ip37 : isPtr Try.prog 37 = false := by kernel_rfl
theorem is37 : isSl Try.prog 37 = true := by kernel_rfl
theorem ze37 : zeroCells? Try.prog 37 = some #[.slice none 0 0] := by kernel_rfl
theorem el37 : elemT Try.prog 37 = some 5 := by kernel_rfl
def ll37 := @slice_len Try.prog 37 5 Try.underlying37
def ln37 := @slice_nil Try.prog 37 ip37 is37
def la37 := @slice_ia Try.prog 37 5 1 Try.underlying37 sz5
theorem ip40 : isPtr Try.prog 40 = true := by kernel_rfl
theorem is40 : isSl Try.prog 40 = false := by kernel_rfl
theorem ze40 : zeroCells? Try.prog 40 = some #[.pointer none] := by kernel_rfl
def pr40 := @ptr_rules Try.prog 40 ip40
theorem ip41 : isPtr Try.prog 41 = false := by kernel_rfl
theorem is41 : isSl Try.prog 41 = false := by kernel_rfl
theorem ze41 : zeroCells? Try.prog 41 = some #[.pointer none, .slice none 0 0] := by kernel_rfl
theorem ip42 : isPtr Try.prog 42 = false := by kernel_rfl
theorem is42 : isSl Try.prog 42 = false := by kernel_rfl
theorem ze42 : zeroCells? Try.prog 42 = some #[.pointer none, .slice none 0 0] := by kernel_rfl
theorem fa42_0 {b o : Nat} : evFieldAddr Try.prog 42 (.pointer (some ⟨b, o, none⟩)) 0 = some (.pointer (some ⟨b, o + 0, none⟩)) := by kernel_rfl
theorem fa42_1 {b o : Nat} : evFieldAddr Try.prog 42 (.pointer (some ⟨b, o, none⟩)) 1 = some (.pointer (some ⟨b, o + 1, none⟩)) := by kernel_rfl
theorem ip43 : isPtr Try.prog 43 = false := by kernel_rfl
theorem is43 : isSl Try.prog 43 = false := by kernel_rfl
theorem ze43 : zeroCells? Try.prog 43 = some #[.pointer none, .slice none 0 0, .string ⟨#[]⟩, .int .i64 0] := by kernel_rfl
theorem ip44 : isPtr Try.prog 44 = false := by kernel_rfl
theorem is44 : isSl Try.prog 44 = false := by kernel_rfl
theorem ze44 : zeroCells? Try.prog 44 = some #[.pointer none, .slice none 0 0, .string ⟨#[]⟩, .int .i64 0] := by kernel_rfl
theorem fa44_0 {b o : Nat} : evFieldAddr Try.prog 44 (.pointer (some ⟨b, o, none⟩)) 0 = some (.pointer (some ⟨b, o + 0, none⟩)) := by kernel_rfl
theorem fa44_1 {b o : Nat} : evFieldAddr Try.prog 44 (.pointer (some ⟨b, o, none⟩)) 1 = some (.pointer (some ⟨b, o + 2, none⟩)) := by kernel_rfl
theorem fa44_2 {b o : Nat} : evFieldAddr Try.prog 44 (.pointer (some ⟨b, o, none⟩)) 2 = some (.pointer (some ⟨b, o + 3, none⟩)) := by kernel_rfl
theorem ip49 : isPtr Try.prog 49 = true := by kernel_rfl
theorem is49 : isSl Try.prog 49 = false := by kernel_rfl
theorem ze49 : zeroCells? Try.prog 49 = some #[.pointer none] := by kernel_rfl
def pr49 := @ptr_rules Try.prog 49 ip49
theorem ip50 : isPtr Try.prog 50 = false := by kernel_rfl
theorem is50 : isSl Try.prog 50 = false := by kernel_rfl
theorem ze50 : zeroCells? Try.prog 50 = some #[.pointer none] := by kernel_rfl
def cv5_3 := @cv_rule Try.prog 5 3 .u8 .i64 Try.underlying5 Try.underlying3
theorem bu28_  : evBuild Try.prog 28 [] = some (.agg #[.string ⟨#[]⟩, .int .i64 0]) := by kernel_rfl
theorem bu44_  : evBuild Try.prog 44 [] = some (.agg #[.pointer none, .slice none 0 0, .string ⟨#[]⟩, .int .i64 0]) := by kernel_rfl
theorem ap37_9 : AppT Try.prog 37 9 5 1 1 := ⟨by kernel_rfl, ⟨_, Try.underlying9, rfl⟩, by kernel_rfl, by kernel_rfl, ⟨_, ze5, rfl⟩, by decide⟩
def fxU := And.intro (And.intro (And.intro (And.intro (@Try.underlying3) (@Try.underlying4)) (And.intro (@Try.underlying5) (And.intro (@Try.underlying9) (@Try.underlying22)))) (And.intro (And.intro (@Try.underlying24) (@Try.underlying26)) (And.intro (@Try.underlying27) (And.intro (@Try.underlying28) (@Try.underlying29))))) (And.intro (And.intro (And.intro (@Try.underlying30) (@Try.underlying36)) (And.intro (@Try.underlying37) (And.intro (@Try.underlying40) (@Try.underlying41)))) (And.intro (And.intro (@Try.underlying42) (@Try.underlying43)) (And.intro (@Try.underlying44) (And.intro (@Try.underlying49) (@Try.underlying50)))))
def fxSZ := And.intro (And.intro (And.intro (And.intro (And.intro (@sz3) (@sz4)) (And.intro (@sz5) (And.intro (@sz9) (@sz22)))) (And.intro (And.intro (@sz24) (@sz26)) (And.intro (@sz27) (And.intro (@sz28) (@sz29))))) (And.intro (And.intro (And.intro (@sz30) (@sz36)) (And.intro (@sz37) (And.intro (@sz40) (@sz41)))) (And.intro (And.intro (@sz42) (@sz43)) (And.intro (@sz44) (And.intro (@sz49) (@sz50)))))) (And.intro (And.intro (And.intro (And.intro (@ag3) (@ag4)) (And.intro (@ag5) (And.intro (@ag9) (@ag22)))) (And.intro (And.intro (@ag24) (@ag26)) (And.intro (@ag27) (And.intro (@ag28) (@ag29))))) (And.intro (And.intro (And.intro (@ag30) (@ag36)) (And.intro (@ag37) (And.intro (@ag40) (@ag41)))) (And.intro (And.intro (@ag42) (@ag43)) (And.intro (@ag44) (And.intro (@ag49) (@ag50))))))
def fxZE := And.intro (And.intro (And.intro (And.intro (@ze3) (@ze4)) (And.intro (@ze5) (And.intro (@ze9) (@ze22)))) (And.intro (And.intro (@ze24) (@ze26)) (And.intro (@ze27) (And.intro (@ze28) (@ze29))))) (And.intro (And.intro (And.intro (@ze30) (@ze36)) (And.intro (@ze37) (And.intro (@ze40) (@ze41)))) (And.intro (And.intro (@ze42) (@ze43)) (And.intro (@ze44) (And.intro (@ze49) (@ze50)))))
def fxFA := And.intro (And.intro (And.intro (@fa28_0) (@fa28_1)) (And.intro (@fa30_0) (And.intro (@fa30_1) (@fa30_2)))) (And.intro (And.intro (@fa42_0) (@fa42_1)) (And.intro (@fa44_0) (And.intro (@fa44_1) (@fa44_2))))
theorem fxFE : (undef = undef) = True := noFacts
def fxEL := And.intro (@el22) (And.intro (@el36) (@el37))
def fxI := And.intro (And.intro (And.intro (ip3) (is3)) (And.intro (ip4) (is4))) (And.intro (And.intro (ip5) (is5)) (And.intro (ip9) (is9)))
def fxB := And.intro (And.intro (And.intro (br4) (ln22)) (And.intro (pr24) (pr26))) (And.intro (And.intro (ln36) (ln37)) (And.intro (pr40) (pr49)))
def fxST := sr9
def fxLEN := And.intro (And.intro (sl9) (ll22)) (And.intro (ll36) (ll37))
def fxIX := si9
def fxSS := ss9
def fxIA := And.intro (la22) (And.intro (la36) (la37))
theorem fxEQ : (undef = undef) = True := noFacts
def fxCV := cv5_3
theorem fxMK : (undef = undef) = True := noFacts
def fxBU := And.intro (@bu28_) (@bu44_)
end Go.Proofs.Ytpcbfbjoiknbhaa
