/- A part of the proof that RangesSets holds of every input. -/
import Derived.Test.YtahaolmflniahaaE
namespace Go.Proofs.Ytahaolmflniahaa
open Go.Ab Go.RowKit
set_option linter.all false
set_option maxRecDepth 10000
set_option maxHeartbeats 4000000
/-! What the document does: plain laws. -/
def tcs (x y : Rg) : Prop := x.lo ≤ y.hi + 1 ∧ y.lo ≤ x.hi + 1
instance (x y : Rg) : Decidable (tcs x y) := by unfold tcs; infer_instance
def tstep (s : List Rg × Rg × Bool) (y : Rg) : List Rg × Rg × Bool :=
  if tcs s.2.1 y then (s.1, ⟨min s.2.1.lo y.lo, max s.2.1.hi y.hi⟩, s.2.2)
  else if s.2.1.hi < y.lo ∧ s.2.2 = false then (s.1 ++ [s.2.1] ++ [y], s.2.1, true)
  else (s.1 ++ [y], s.2.1, s.2.2)
def tfold (x : Rg) (m : List Rg) : List Rg × Rg × Bool := m.foldl tstep ([], x, false)
def tfin (s : List Rg × Rg × Bool) : List Rg := if s.2.2 then s.1 else s.1 ++ [s.2.1]
theorem tfold_next {x : Rg} {m : List Rg} {i : Nat} {y : Rg} (h : m[i]? = some y) : tfold x (m.take (i + 1)) = tstep (tfold x (m.take i)) y := by
  unfold tfold; rw [take_next h, List.foldl_append]; rfl
def tA (x : Rg) : List Rg → List Rg
  | [] => [x]
  | y :: m => if tcs x y then tA ⟨min x.lo y.lo, max x.hi y.hi⟩ m else if x.hi < y.lo then x :: y :: m else y :: tA x m
theorem t_done {x : Rg} : ∀ {m out : List Rg}, (∀ y ∈ m, x.hi + 1 < y.lo) → m.foldl tstep (out, x, true) = (out ++ m, x, true)
  | [], out, _ => by simp
  | y :: m, out, h => by
    have h1 := h y (by simp)
    have e : tstep (out, x, true) y = (out ++ [y], x, true) := by
      unfold tstep
      rw [if_neg (by unfold tcs; simp only; omega), if_neg (by simp)]
    rw [List.foldl_cons, e, t_done fun z hz => h z (by simp [hz])]
    simp
theorem t_fold : ∀ {m out : List Rg} {x : Rg}, good m → sep m → x.lo ≤ x.hi → tfin (m.foldl tstep (out, x, false)) = out ++ tA x m
  | [], out, x, _, _, _ => by simp [tfin, tA]
  | y :: m, out, x, hg, hs, hx => by
    have gy := (good_cons.1 hg).1
    rw [List.foldl_cons]
    unfold tA
    by_cases h1 : tcs x y
    · have e : tstep (out, x, false) y = (out, ⟨min x.lo y.lo, max x.hi y.hi⟩, false) := by unfold tstep; rw [if_pos h1]
      rw [e, if_pos h1]
      exact t_fold (good_cons.1 hg).2 (sep_cons.1 hs).2 (by simp only; omega)
    · rw [if_neg h1]
      have h1' : ¬ (x.lo ≤ y.hi + 1 ∧ y.lo ≤ x.hi + 1) := h1
      by_cases h2 : x.hi < y.lo
      · have e : tstep (out, x, false) y = (out ++ [x] ++ [y], x, true) := by unfold tstep; rw [if_neg h1, if_pos ⟨h2, rfl⟩]
        rw [e, if_pos h2, t_done fun z hz => by have := (sep_cons.1 hs).1 z hz; omega]
        simp [tfin]
      · have e : tstep (out, x, false) y = (out ++ [y], x, false) := by unfold tstep; rw [if_neg h1, if_neg (by simp only; omega)]
        rw [e, if_neg h2, t_fold (good_cons.1 hg).2 (sep_cons.1 hs).2 hx]
        simp
theorem tA_ok : ∀ {m : List Rg} {x : Rg}, good m → sep m → (1 ≤ x.lo ∧ x.lo ≤ x.hi ∧ x.hi ≤ 1000000) →
    good (tA x m) ∧ sep (tA x m) ∧ (∀ n, inR (tA x m) n ↔ (x.lo ≤ n ∧ n ≤ x.hi) ∨ inR m n) ∧ ∀ B, B < x.lo → (∀ y ∈ m, B < y.lo) → ∀ w ∈ tA x m, B < w.lo
  | [], x, _, _, hx => ⟨by simp [tA, good]; exact hx, by simp [tA, sep], fun n => by simp [tA, inR], fun B hB _ w hw => by simp [tA] at hw; subst hw; exact hB⟩
  | y :: m, x, hg, hs, hx => by
    have gy := (good_cons.1 hg).1
    have gm := (good_cons.1 hg).2
    have sm := (sep_cons.1 hs).2
    have sy := (sep_cons.1 hs).1
    unfold tA
    by_cases h1 : tcs x y
    · rw [if_pos h1]
      have h1' : x.lo ≤ y.hi + 1 ∧ y.lo ≤ x.hi + 1 := h1
      obtain ⟨a1, a2, a3, a4⟩ := tA_ok (x := ⟨min x.lo y.lo, max x.hi y.hi⟩) gm sm (by simp only; omega)
      refine ⟨a1, a2, fun n => ?_, fun B hB hm => a4 B (by simp only; have := hm y (by simp); omega) fun z hz => hm z (by simp [hz])⟩
      rw [a3, inR_cons, ← or_assoc]
      simp only
      constructor
      · rintro (h | h)
        · left; omega
        · exact .inr h
      · rintro (h | h)
        · left; omega
        · exact .inr h
    · rw [if_neg h1]
      have h1' : ¬ (x.lo ≤ y.hi + 1 ∧ y.lo ≤ x.hi + 1) := h1
      by_cases h2 : x.hi < y.lo
      · rw [if_pos h2]
        refine ⟨good_cons.2 ⟨hx, hg⟩, sep_cons.2 ⟨fun z hz => ?_, hs⟩, fun n => inR_cons, fun B hB hm w hw => ?_⟩
        · rcases List.mem_cons.1 hz with rfl | hz
          · omega
          · have := sy z hz; omega
        · rcases List.mem_cons.1 hw with rfl | hw
          · exact hB
          · exact hm w hw
      · rw [if_neg h2]
        obtain ⟨a1, a2, a3, a4⟩ := tA_ok (x := x) gm sm hx
        refine ⟨good_cons.2 ⟨gy, a1⟩, sep_cons.2 ⟨a4 _ (by omega) sy, a2⟩, fun n => ?_, fun B hB hm w hw => ?_⟩
        · rw [inR_cons, a3, inR_cons]
          constructor
          · rintro (h | h | h)
            · exact .inr (.inl h)
            · exact .inl h
            · exact .inr (.inr h)
          · rintro (h | h | h)
            · exact .inr (.inl h)
            · exact .inl h
            · exact .inr (.inr h)
        · rcases List.mem_cons.1 hw with rfl | hw
          · exact hm w (by simp)
          · exact a4 B hB (fun z hz => hm z (by simp [hz])) w hw
theorem tA_add {lo hi : Int} {m : List Rg} (h1 : 1 ≤ lo) (h2 : hi ≤ 1000000) (hb : lo ≤ hi) (hg : good m) (hs : sep m) : tfin (tfold ⟨lo, hi⟩ m) = addR lo hi m := by
  unfold tfold
  rw [t_fold hg hs (by simp only; exact hb), List.nil_append]
  obtain ⟨a1, a2, a3, _⟩ := tA_ok (x := ⟨lo, hi⟩) hg hs (by simp only; omega)
  obtain ⟨b1, b2, b3, _⟩ := addR_ok h1 h2 hb hg hs
  refine uniq a1 b1 a2 b2 fun n => ?_
  rw [a3, b3, or_comm]
/-- Numbers up to one. -/
def upR (n : Int) (m : List Rg) : List Int := m.flatMap fun y => (List.range (min y.hi n - y.lo + 1).toNat).map fun k => y.lo + (k : Nat)
end Go.Proofs.Ytahaolmflniahaa
