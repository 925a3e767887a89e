/- Loops, by what holds ahead of each round; jumps back to a label likewise. -/
import Derived.Test.YtllffogcdeempaaFwS
set_option linter.all false
namespace Go.Ab
/-- A frame, slot by slot: the slots that a round does not tell of stay names. -/
theorem frame_list (n : Nat) (fr : List Value) (h : fr.length = n) : fr = (List.range n).map fun i => fr.getD i undef := by
  apply List.ext_getElem
  · simp [h]
  · intro i h1 h2
    simp [List.getD_eq_getElem?_getD, List.getElem?_eq_getElem h1]

section
variable {E : Env} {call : CallF} {k : Nat} {fid : FuncId} {c : Code} {Q : Ex → List Value → St → Prop}

/-- At most n rounds are gone on from; I i holds ahead of round i. -/
theorem wloop_inv (I : Nat → List Value → St → Prop) (n : Nat)
    (step : ∀ i fr σ, i ≤ n → I i fr σ → W E call k fid c none fr σ (onward (fun fr σ => i < n ∧ I (i + 1) fr σ) Q)) :
    ∀ (j i m : Nat) (fr : List Value) (σ : St), n - i = j → i ≤ n → j < m → I i fr σ → WLoop E call k fid c m fr σ Q := by
  intro j
  induction j with
  | zero =>
    intro i m fr σ hj hi hm h
    obtain ⟨m, rfl⟩ : ∃ m', m = m' + 1 := ⟨m - 1, by omega⟩
    refine wloop_round ((step i fr σ hi h).mono ?_)
    intro e fr σ he
    cases e with
    | normal => exact absurd he.1 (by omega)
    | _ => exact he
  | succ j ih =>
    intro i m fr σ hj hi hm h
    obtain ⟨m, rfl⟩ : ∃ m', m = m' + 1 := ⟨m - 1, by omega⟩
    refine wloop_round ((step i fr σ hi h).mono ?_)
    intro e fr σ he
    cases e with
    | normal => exact ih (i + 1) m fr σ (by omega) (by have := he.1; omega) (by omega) he.2
    | _ => exact he

/-- Begun at round 0. -/
theorem wloop_from (I : Nat → List Value → St → Prop) (n : Nat) {m : Nat} {fr : List Value} {σ : St} (hm : n < m) (h : I 0 fr σ)
    (step : ∀ i fr σ, i ≤ n → I i fr σ → W E call k fid c none fr σ (onward (fun fr σ => i < n ∧ I (i + 1) fr σ) Q)) : WLoop E call k fid c m fr σ Q :=
  wloop_inv I n step n 0 m fr σ rfl (Nat.zero_le _) hm h

/-- The same for a scope that jumps back to one label. -/
theorem whop_inv (l : Nat) (hl : hasLabel c l = true) (I : Nat → List Value → St → Prop) (n : Nat)
    (step : ∀ i fr σ, i ≤ n → I i fr σ → W E call k fid c (some l) fr σ (jumps c (fun l' fr σ => l' = l ∧ i < n ∧ I (i + 1) fr σ) Q)) :
    ∀ (j i m : Nat) (fr : List Value) (σ : St), n - i = j → i ≤ n → j < m → I i fr σ → WHop E call k fid c m (some l) fr σ Q := by
  intro j
  induction j with
  | zero =>
    intro i m fr σ hj hi hm h
    obtain ⟨m, rfl⟩ : ∃ m', m = m' + 1 := ⟨m - 1, by omega⟩
    refine whop_pass ((step i fr σ hi h).mono ?_)
    intro e fr σ he
    cases e with
    | goto l' =>
      simp only [jumps] at he ⊢
      split at he
      · exact absurd he.2.1 (by omega)
      · rename_i hn; rw [if_neg hn]; exact he
    | _ => exact he
  | succ j ih =>
    intro i m fr σ hj hi hm h
    obtain ⟨m, rfl⟩ : ∃ m', m = m' + 1 := ⟨m - 1, by omega⟩
    refine whop_pass ((step i fr σ hi h).mono ?_)
    intro e fr σ he
    cases e with
    | goto l' =>
      simp only [jumps] at he ⊢
      split at he
      · rename_i hy
        rw [if_pos hy]
        obtain ⟨rfl, h1, h2⟩ := he
        exact ih (i + 1) m fr σ (by omega) (by omega) (by omega) h2
      · rename_i hn; rw [if_neg hn]; exact he
    | _ => exact he
end
end Go.Ab
