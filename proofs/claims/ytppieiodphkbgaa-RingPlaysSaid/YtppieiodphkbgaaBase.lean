/- A part of the proof that RingPlays holds of every input. -/
import Derived.Test.YtppieiodphkbgaaRules
import Derived.Test.YtppieiodphkbgaaRows 
import Derived.Test.YtppieiodphkbgaaFwZF
namespace Go.Proofs.Ytppieiodphkbgaa
open Go.Ab Go.RowKit
set_option linter.all false
set_option maxRecDepth 10000
set_option maxHeartbeats 2000000
noncomputable def s6 : List Value → Option Value := evG Try.prog prs ([] : Tbl) 1000000 10 6
noncomputable def T6 : Tbl := (6, lift s6) :: ([] : Tbl)
theorem T6ok : TblOK Try.prog T6 := TblOK.consG mixed prsOk (TblOK.nil Try.prog) 6 1000000 10
theorem call6_6 {E : Env} {k d : Nat} {args : List Value} {σ : St} {Q : Value → St → Prop} : WCall (evFunT E T6 k d) 6 args σ Q = bindV (s6 args) fun v => Q v σ := by
  rw [wcallT (by kernel_rfl)]; unfold T6
  exact wcall_pure
theorem known_eq : s6 [] = some (.bool true) := by kernel_rfl
/-- A row m that goes round in the places a, from f on. -/
structure RV (m a : List Int) (f : Nat) : Prop where
  lo : 8 ≤ a.length
  hi : a.length ≤ 1000
  fl : f < a.length
  ln : m.length ≤ a.length
  gt : ∀ i, i < m.length → a[(f + i) % a.length]? = m[i]?
theorem pl (f N i : Nat) : ((f : Int) + (i : Int) + (N : Int)) % (N : Int) = (((f + i) % N : Nat) : Int) := by
  rw [Int.add_emod_right]; norm_cast
theorem RV.cell {m a : List Int} {f : Nat} (h : RV m a f) {i : Nat} {v : Int} (hv : m[i]? = some v) : a[(f + i) % a.length]? = some v := by
  rw [h.gt i (List.getElem?_eq_some_iff.1 hv).1, hv]
theorem RV.new : RV [] (List.replicate 8 0) 0 := ⟨by simp, by simp, by simp, by simp, by simp⟩
theorem mod_ne {f N i j : Nat} (hi : i < N) (hj : j < N) (hf : f < N) (hij : i ≠ j) : (f + i) % N ≠ (f + j) % N := by

  intro h
  have h1 : (f + i) % N = if f + i < N then f + i else f + i - N := by
    split
    · exact Nat.mod_eq_of_lt (by assumption)
    · rw [Nat.mod_eq_sub_mod (by omega), Nat.mod_eq_of_lt (by omega)]
  have h2 : (f + j) % N = if f + j < N then f + j else f + j - N := by
    split
    · exact Nat.mod_eq_of_lt (by assumption)
    · rw [Nat.mod_eq_sub_mod (by omega), Nat.mod_eq_of_lt (by omega)]
  rw [h1, h2] at h
  split at h <;> split at h <;> omega
end Go.Proofs.Ytppieiodphkbgaa
