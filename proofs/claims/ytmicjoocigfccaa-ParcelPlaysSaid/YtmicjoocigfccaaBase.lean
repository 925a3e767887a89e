/- A part of the proof that ParcelPlays holds of every input. -/
import Derived.Test.YtmicjoocigfccaaRules
import Derived.Test.YtmicjoocigfccaaRows 
namespace Go.Proofs.Ytmicjoocigfccaa
open Go.Ab Go.RowKit
set_option linter.all false
set_option maxRecDepth 10000
set_option maxHeartbeats 8000000
noncomputable def s6 : List Value → Option Value := evG Try.prog prs ([] : Tbl) 1000000 10 6
noncomputable def T6 : Tbl := (6, lift s6) :: ([] : Tbl)
theorem T6ok : TblOK Try.prog T6 := TblOK.consG mixed prsOk (TblOK.nil Try.prog) 6 1000000 10
theorem call6_6 {E : Env} {k d : Nat} {args : List Value} {σ : St} {Q : Value → St → Prop} : WCall (evFunT E T6 k d) 6 args σ Q = bindV (s6 args) fun v => Q v σ := by
  rw [wcallT (by kernel_rfl)]; unfold T6
  exact wcall_pure
theorem known_eq : s6 [] = some (.bool true) := by kernel_rfl
end Go.Proofs.Ytmicjoocigfccaa
