/- A part of the proof that SlipTags holds of every input. -/
import Derived.Test.YtllffogcdeempaaG
namespace Go.Proofs.Ytllffogcdeempaa
open Go.Ab Go.RowKit
set_option linter.all false
set_option maxRecDepth 10000
def sl0 (t : Nat) : Slip := ⟨t, t, ⟨#[]⟩, ⟨0, 0, 0, ⟨#[]⟩, ⟨#[]⟩, 0, 0, 0, false, 0⟩⟩
def ss (S : Nat → Bool) (n : Nat) : List Slip := ((List.range n).filter S).map sl0
def up (S : Nat → Bool) (t n : Nat) : List Slip := ((List.range' (t + 1) (n - (t + 1))).filter S).map sl0
def bsr (S : Nat → Bool) (n : Nat) : List Bool := (List.range n).map S
def only (i : Nat) : Nat → Bool := fun j => decide (1 ≤ j ∧ j ≤ i)
def offS (S : Nat → Bool) (t : Nat) : Nat → Bool := fun j => S j && !(j == t)
def ge (S : Nat → Bool) (t : Nat) : Nat → Bool := fun j => S j && decide (t ≤ j)
theorem range_split {t n : Nat} (h : t < n) : List.range n = List.range t ++ (t :: List.range' (t + 1) (n - (t + 1))) := by
  rw [List.range_eq_range', List.range_eq_range']
  have h1 := List.range'_append (s := 0) (m := t) (n := n - t) (step := 1)
  rw [show t + (n - t) = n by omega, show 0 + 1 * t = t by omega] at h1
  rw [← h1, show n - t = (n - (t + 1)) + 1 by omega, List.range'_succ]
theorem ss_split (S : Nat → Bool) {t n : Nat} (h : t < n) : ss S n = ss S t ++ ((if S t then [sl0 t] else []) ++ up S t n) := by
  unfold ss up
  rw [range_split h, List.filter_append, List.map_append, List.filter_cons]
  congr 1
  split <;> simp
theorem ss_y {S : Nat → Bool} {t n : Nat} (h : t < n) (hs : S t = true) : ss S n = ss S t ++ sl0 t :: up S t n := by rw [ss_split S h, hs]; rfl
theorem ss_n {S : Nat → Bool} {t n : Nat} (h : t < n) (hs : S t = false) : ss S n = ss S t ++ up S t n := by rw [ss_split S h, hs]; rfl
theorem ss_lt {S : Nat → Bool} {t : Nat} : ∀ z ∈ ss S t, z.tag < (t : Int) := by
  intro z hz
  simp only [ss, List.mem_map, List.mem_filter, List.mem_range] at hz
  obtain ⟨j, ⟨h1, _⟩, rfl⟩ := hz
  simp only [sl0]; omega
theorem up_gt {S : Nat → Bool} {t n : Nat} : ∀ z ∈ up S t n, (t : Int) < z.tag := by
  intro z hz
  simp only [up, List.mem_map, List.mem_filter, List.mem_range'_1] at hz
  obtain ⟨j, ⟨h1, _⟩, rfl⟩ := hz
  simp only [sl0]; omega
theorem ss_len {S : Nat → Bool} {t : Nat} : (ss S t).length ≤ t := by
  unfold ss
  rw [List.length_map]
  exact Nat.le_trans (List.length_filter_le _ _) (by simp)
theorem bsr_len {S : Nat → Bool} {n : Nat} : (bsr S n).length = n := by simp [bsr]
theorem bsr_get {S : Nat → Bool} {n t : Nat} (h : t < n) : (bsr S n)[t]? = some (S t) := by simp [bsr, h]
theorem bsr_set {S S' : Nat → Bool} {n t : Nat} {b : Bool} (ht : S' t = b) (h : ∀ j, j ≠ t → j < n → S' j = S j) : (bsr S n).set t b = bsr S' n := by
  apply List.ext_getElem?
  intro j
  by_cases hj : j < n
  · rw [bsr_get hj, List.getElem?_set]
    by_cases e : t = j
    · subst e; rw [if_pos rfl, if_pos (by rw [bsr_len]; exact hj), ht]
    · rw [if_neg e, bsr_get hj, h j (Ne.symm e) hj]
  · rw [List.getElem?_eq_none (by rw [List.length_set, bsr_len]; omega), List.getElem?_eq_none (by rw [bsr_len]; omega)]
theorem ss_congr {S S' : Nat → Bool} {n : Nat} (h : ∀ j, j < n → S j = S' j) : ss S n = ss S' n := by
  unfold ss
  rw [List.filter_congr (fun x hx => h x (List.mem_range.1 hx))]
theorem up_congr {S S' : Nat → Bool} {t n : Nat} (h : ∀ j, t < j → S j = S' j) : up S t n = up S' t n := by
  unfold up
  rw [List.filter_congr (fun x hx => h x (by have := List.mem_range'_1.1 hx; omega))]
theorem ss_nil {S : Nat → Bool} {n : Nat} (h : ∀ j, j < n → S j = false) : ss S n = [] := by
  unfold ss
  rw [List.filter_eq_nil_iff.2 (fun x hx => by rw [h x (List.mem_range.1 hx)]; simp)]; rfl
theorem ss_off {S : Nat → Bool} {t n : Nat} (h : t < n) : ss (offS S t) n = ss S t ++ up S t n := by
  rw [ss_n h (by simp [offS])]
  congr 1
  · exact ss_congr fun j hj => by simp only [offS]; rw [show (j == t) = false by simp; omega]; simp
  · exact up_congr fun j hj => by simp only [offS]; rw [show (j == t) = false by simp; omega]; simp
theorem off_set {S : Nat → Bool} {t n : Nat} : (bsr S n).set t false = bsr (offS S t) n :=
  bsr_set (by simp [offS]) fun j hj _ => by simp only [offS]; rw [show (j == t) = false by simp; omega]; simp
theorem ss_succ {S : Nat → Bool} {t : Nat} : ss S (t + 1) = ss S t ++ (if S t then [sl0 t] else []) := by
  rw [ss_split S (Nat.lt_succ_self t)]
  congr 1
  rw [show up S t (t + 1) = [] by simp [up], List.append_nil]
theorem ss_two (S : Nat → Bool) {t n : Nat} (h : t < n) : ss S n = ss S (t + 1) ++ up S t n := by
  rw [ss_split S h, ss_succ, List.append_assoc]
theorem ss_ge {S : Nat → Bool} {t n : Nat} (h : t < n) : ss (ge S (t + 1)) n = up S t n := by
  rw [ss_two _ h, ss_nil (fun j hj => by simp only [ge]; rw [decide_eq_false (by omega)]; simp), List.nil_append]
  exact up_congr fun j hj => by simp only [ge]; rw [decide_eq_true (by omega)]; simp
theorem ge_one {S : Nat → Bool} (h : S 0 = false) : ge S 1 = S := by
  funext j
  cases j with
  | zero => simp [ge, h]
  | succ j => simp [ge]
theorem ge_set {S : Nat → Bool} {j n : Nat} : (bsr (ge S j) n).set j false = bsr (ge S (j + 1)) n :=
  bsr_set (by simp [ge]) fun x hx _ => by simp only [ge]; congr 1; simp only [decide_eq_decide]; omega
theorem ge_skip {S : Nat → Bool} {j : Nat} (h : S j = false) : ge S (j + 1) = ge S j := by
  funext x
  by_cases e : x = j
  · subst e; simp [ge, h]
  · simp only [ge]; congr 1; simp only [decide_eq_decide]; omega
theorem ge_at {S : Nat → Bool} {j : Nat} : ge S j j = S j := by simp [ge]
theorem only_ss {i : Nat} : ss (only i) (i + 1) ++ [sl0 (i + 1)] = ss (only (i + 1)) (i + 1 + 1) := by
  rw [ss_succ (S := only (i + 1)), show only (i + 1) (i + 1) = true by simp [only], if_pos rfl]
  congr 1
  exact ss_congr fun j hj => by simp only [only, decide_eq_decide]; omega
theorem only_set {i n : Nat} : (bsr (only i) n).set (i + 1) true = bsr (only (i + 1)) n :=
  bsr_set (by simp [only]) fun j hj _ => by simp only [only, decide_eq_decide]; omega
theorem only_zero : ss (only 0) 1 = [] := ss_nil fun j hj => by simp [only]; omega
theorem only_false {n : Nat} : bsr (only 0) n = List.replicate n false := by
  apply List.ext_getElem?
  intro j
  by_cases hj : j < n
  · rw [bsr_get hj, List.getElem?_replicate, if_pos hj, show only 0 j = false by simp [only]; omega]
  · rw [List.getElem?_eq_none (by rw [bsr_len]; omega), List.getElem?_eq_none (by simp; omega)]
end Go.Proofs.Ytllffogcdeempaa
