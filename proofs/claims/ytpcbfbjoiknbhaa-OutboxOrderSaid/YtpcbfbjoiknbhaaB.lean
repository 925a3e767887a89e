/- A part of the proof that OutboxOrder holds of every input. -/
import Derived.Test.YtpcbfbjoiknbhaaStr
import Derived.Test.YtpcbfbjoiknbhaaRules
import Derived.Test.YtpcbfbjoiknbhaaRows 
namespace Go.Proofs.Ytpcbfbjoiknbhaa
open Go.Ab Go.RowKit
set_option linter.all false
set_option maxRecDepth 10000
set_option maxHeartbeats 2000000
noncomputable def TB : Tbl := [(19, sWr), (18, sStr)]
theorem TBok : TblOK Try.prog TB := fun E hE x hx => by
  simp only [TB, List.mem_cons, List.not_mem_nil, or_false] at hx
  rcases hx with rfl | rfl
  · exact ⟨sWr_sound hE, sWr_mono⟩
  · exact ⟨sStr_sound hE, sStr_mono⟩
noncomputable def s6 : List Value → Option Value := evG Try.prog prs TB 1000000 10 6
noncomputable def T6 : Tbl := (6, lift s6) :: TB
theorem T6ok : TblOK Try.prog T6 := TblOK.consG mixed prsOk TBok 6 1000000 10
theorem known_eq : s6 [] = some (.bool true) := by kernel_rfl
theorem call6_6 {E : Env} {k d : Nat} {args : List Value} {σ : St} {Q : Value → St → Prop} : WCall (evFunT E T6 k d) 6 args σ Q = bindV (s6 args) fun v => Q v σ := by
  rw [wcallT (by kernel_rfl)]; exact wcall_pure
theorem wrCall {E : Env} {k d : Nat} {args : List Value} {σ : St} {Q : Value → St → Prop} : WCall (evFunT E T6 k d) 19 args σ Q = bindV (sWr args σ) fun x => Q x.1 x.2 := by
  rw [wcallT (by kernel_rfl)]
  show WCall (callT ((6, _) :: (19, _) :: _)) 19 args σ Q = _
  rw [wcall_skip (by decide)]
  exact wcall_head
theorem stCall {E : Env} {k d : Nat} {args : List Value} {σ : St} {Q : Value → St → Prop} : WCall (evFunT E T6 k d) 18 args σ Q = bindV (sStr args σ) fun x => Q x.1 x.2 := by
  rw [wcallT (by kernel_rfl)]
  show WCall (callT ((6, _) :: (19, _) :: (18, _) :: _)) 18 args σ Q = _
  rw [wcall_skip (by decide), wcall_skip (by decide)]
  exact wcall_head
end Go.Proofs.Ytpcbfbjoiknbhaa
