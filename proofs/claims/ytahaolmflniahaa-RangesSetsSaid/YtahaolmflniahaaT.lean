/- A part of the proof that RangesSets holds of every input. -/
import Derived.Test.YtahaolmflniahaaH
namespace Go.Proofs.Ytahaolmflniahaa
open Go.Ab Go.RowKit
set_option linter.all false
set_option maxRecDepth 10000
set_option maxHeartbeats 4000000
def turnR (bo : Bool) (lo hi : Int) (m : List Rg) : List Rg :=
  if max lo 1 ≤ min hi 1000000 then (if bo then addR (max lo 1) (min hi 1000000) m else cutR (max lo 1) (min hi 1000000) m) else m
def tv (bo : Bool) (lo hi : Int) (m : List Rg) : Int := if bo then cnt (turnR bo lo hi m) - cnt m else cnt m - cnt (turnR bo lo hi m)
theorem addR_len {lo hi : Int} {m : List Rg} (h1 : 1 ≤ lo) (h2 : hi ≤ 1000000) (hb : lo ≤ hi) (hg : good m) (hs : sep m) : (addR lo hi m).length ≤ m.length + 2 := by
  have h3 := joinR_len (put_good (k := pk (cutR lo hi m) lo) (e := ⟨lo, hi⟩) (cutR_good h1 h2 hg) (by simp only; omega))
  rw [putAt_len (show pk (cutR lo hi m) lo ≤ _ from fi_le)] at h3
  have h4 := sep_len hb hg hs
  unfold addR; omega
theorem turnR_ok {bo : Bool} {lo hi : Int} {m : List Rg} (hg : good m) (hs : sep m) : good (turnR bo lo hi m) ∧ sep (turnR bo lo hi m) ∧ (turnR bo lo hi m).length ≤ m.length + 2 := by
  unfold turnR
  split
  · cases bo
    · exact ⟨cutR_good (by omega) (by omega) hg, cutR_sep (by assumption) hs, by have := sep_len (by assumption : max lo 1 ≤ min hi 1000000) hg hs; simp only [Bool.false_eq_true, if_false]; omega⟩
    · have h := addR_ok (show 1 ≤ max lo 1 by omega) (show min hi 1000000 ≤ 1000000 by omega) (by assumption) hg hs
      exact ⟨h.1, h.2.1, by rw [if_pos rfl]; exact addR_len (by omega) (by omega) (by assumption) hg hs⟩
  · exact ⟨hg, hs, by omega⟩
theorem turnR_in {bo : Bool} {lo hi : Int} {m : List Rg} (hg : good m) (hs : sep m) (h1 : 1 ≤ lo) (h2 : hi ≤ 1000000) (hb : lo ≤ hi) (n : Int) : inR (turnR bo lo hi m) n ↔ if lo ≤ n ∧ n ≤ hi then bo = true else inR m n := by
  unfold turnR
  rw [show max lo 1 = lo by omega, show min hi 1000000 = hi by omega, if_pos hb]
  cases bo
  · rw [if_neg (by simp), cutR_in]
    split
    · simp; omega
    · exact ⟨fun h => h.1, fun h => ⟨h, by omega⟩⟩
  · rw [if_pos rfl, (addR_ok h1 h2 hb hg hs).2.2.1]
    split
    · simp; omega
    · constructor
      · rintro (h | h)
        · exact h
        · omega
      · exact .inl
attribute [local irreducible] O RO ROC ROCW W WR WLoop WHop WCall bindV evFunT OFun OFin OCond OReg OBack OBackP onward caught jumps BackK BackP RSV
section
variable {E : Env} (hP : E.P = Try.prog) (hpr : E.pairs = prs) {d : Nat} {Q : Value → St → Prop} {L R R1 R2 R3 : List Res} {p : Nat} {sl : Value} {el : TypeId} {x : Bool} {m : List Rg}
include hP hpr
theorem c9u (h1 : Sel L (.blk p [sl] el x) R) (h2 : Sel R (.row 0 sl m.length (flat rgC m) 40 2) R1) (hco : capOk sl) (hn : m.length ≤ 900) (hg : good m) (lo hi : Int)
   (K : ∀ sl', capOk sl' → O E (.blk p [sl'] el x :: .row 0 sl' (turnR false lo hi m).length (flat rgC (turnR false lo hi m)) 40 2 :: R1) (Q (.int .i64 (tv false lo hi m)))) : O E L fun σ => WCall (evFunT E T7 1000000 (d + 4)) 9 [.pointer (some ⟨p, 0, none⟩), .int .i64 lo, .int .i64 hi] σ Q := by
  by_cases hb : max lo 1 ≤ min hi 1000000
  · have e : turnR false lo hi m = cutR (max lo 1) (min hi 1000000) m := by unfold turnR; rw [if_pos hb, if_neg (by simp)]
    unfold tv at K
    rw [e] at K
    exact c9y hP hpr h1 h2 hn hg lo hi _ _ rfl rfl hb K
  · have e : turnR false lo hi m = m := by unfold turnR; rw [if_neg hb]
    unfold tv at K
    rw [e] at K
    simp only [Bool.false_eq_true, if_false, Int.sub_self] at K
    exact O.ent (.cons h1 (.cons h2 .refl)) (c9n hP hpr lo hi (by omega) (K _ hco))
theorem c10u (h1 : Sel L (.blk p [sl] el x) R) (h2 : Sel R (.row 0 sl m.length (flat rgC m) 40 2) R1) (hco : capOk sl) (hn : m.length ≤ 900) (hg : good m) (hs : sep m) (lo hi : Int)
   (K : ∀ sl', capOk sl' → O E (.blk p [sl'] el x :: .row 0 sl' (turnR true lo hi m).length (flat rgC (turnR true lo hi m)) 40 2 :: R1) (Q (.int .i64 (tv true lo hi m)))) : O E L fun σ => WCall (evFunT E T7 1000000 (d + 4)) 10 [.pointer (some ⟨p, 0, none⟩), .int .i64 lo, .int .i64 hi] σ Q := by
  by_cases hb : max lo 1 ≤ min hi 1000000
  · have e : turnR true lo hi m = addR (max lo 1) (min hi 1000000) m := by unfold turnR; rw [if_pos hb, if_pos rfl]
    have ha := addR_ok (show 1 ≤ max lo 1 by omega) (show min hi 1000000 ≤ 1000000 by omega) hb hg hs
    unfold tv at K
    rw [e] at K
    simp only [if_true] at K
    rw [show cnt (addR (max lo 1) (min hi 1000000) m) - cnt m = min hi 1000000 - max lo 1 + 1 - (cnt m - cnt (cutR (max lo 1) (min hi 1000000) m)) by omega] at K
    exact c10y hP hpr h1 h2 hn hg lo hi _ _ rfl rfl hb K
  · have e : turnR true lo hi m = m := by unfold turnR; rw [if_neg hb]
    unfold tv at K
    rw [e] at K
    simp only [if_true, Int.sub_self] at K
    exact O.ent (.cons h1 (.cons h2 .refl)) (c10n hP hpr lo hi (by omega) (K _ hco))
theorem c12u (h1 : Sel L (.blk p [sl] el x) R) (h2 : Sel R (.row 0 sl m.length (flat rgC m) 40 2) R1) (hn : m.length ≤ 900) (hg : good m) (hs : sep m) (lo hi : Int) (bo : Bool)
   (K : ∀ sl', O E (.blk p [sl'] el x :: .row 0 sl' (turnR bo lo hi m).length (flat rgC (turnR bo lo hi m)) 40 2 :: R1) (Q (.int .i64 (tv bo lo hi m)))) : O E L fun σ => WCall (evFunT E T7 1000000 (d + 4)) 12 [.pointer (some ⟨p, 0, none⟩), .int .i64 lo, .int .i64 hi, .bool bo] σ Q := by
  by_cases hb : max lo 1 ≤ min hi 1000000
  · cases bo
    · have e : turnR false lo hi m = cutR (max lo 1) (min hi 1000000) m := by unfold turnR; rw [if_pos hb, if_neg (by simp)]
      unfold tv at K
      rw [e] at K
      exact c12c hP hpr h1 h2 hn hg hs lo hi _ _ rfl rfl hb K
    · have e : turnR true lo hi m = addR (max lo 1) (min hi 1000000) m := by unfold turnR; rw [if_pos hb, if_pos rfl]
      unfold tv at K
      rw [e] at K
      exact c12a hP hpr h1 h2 hn hg hs lo hi _ _ rfl rfl hb K
  · have e : turnR bo lo hi m = m := by unfold turnR; rw [if_neg hb]
    unfold tv at K
    rw [e] at K
    have e2 : (if bo = true then cnt m - cnt m else cnt m - cnt m) = 0 := by split <;> omega
    rw [e2] at K
    exact c12n hP hpr h1 h2 lo hi (by omega) (K _)
end
end Go.Proofs.Ytahaolmflniahaa
