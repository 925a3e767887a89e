/- A part of the proof that QueueEmpties holds of every input. -/
import Derived.Test.YtkdngcoblohhjaaG
namespace Go.Proofs.Ytkdngcoblohhjaa
open Go.Ab Go.RowKit
set_option linter.all false
set_option maxRecDepth 10000
def lessB (x y : Entry) : Bool := decide (y.prio < x.prio ∨ (x.prio = y.prio ∧ x.id < y.id))
theorem lessB_t {x y : Entry} (h : lessB x y = true) : lessE x y := by unfold lessB at h; unfold lessE; exact of_decide_eq_true h
theorem lessB_f {x y : Entry} (h : lessB x y = false) : ¬ lessE x y := by unfold lessB at h; unfold lessE; exact of_decide_eq_false h
theorem less_trans {x y z : Entry} (h : lessE x y) (k : lessE y z) : lessE x z := by
  unfold lessE at *; omega
theorem less_tot {x y : Entry} (h : ¬ lessE x y) (hi : x.id ≠ y.id) : lessE y x := by
  unfold lessE at *; omega
theorem less_asym {x y : Entry} (h : lessE x y) : ¬ lessE y x := by
  unfold lessE at *; omega
/-- Where one is put. -/
def pk (m : List Entry) (s : Entry) : Nat := fi (fun y => !lessB y s) m
theorem pk_le {m : List Entry} {s : Entry} : pk m s ≤ m.length := fi_le
theorem pk_lt {m : List Entry} {s : Entry} : ∀ j y, j < pk m s → m[j]? = some y → lessE y s := fun j y hj hy => by
  have := fi_not hj hy
  simp at this; exact lessB_t this
def fresh (m : List Entry) (s : Entry) : Prop := ∀ y ∈ m, y.id ≠ s.id
theorem fresh.ne {m : List Entry} {s : Entry} (h : fresh m s) : ∀ (j : Nat) (y : Entry), m[j]? = some y → y.id < s.id ∨ s.id < y.id := fun j y hy => by
  have := h y (List.mem_of_getElem? hy); omega
theorem pk_ge {m : List Entry} {s : Entry} (h : fresh m s) : ∀ y, m[pk m s]? = some y → lessE s y := fun y hy => by
  have := fi_yes hy
  simp at this
  exact less_tot (lessB_f this) (h y (List.mem_of_getElem? hy))
theorem Rk.above {m : List Entry} (hm : Rk m) {s : Entry} {k i : Nat} (hgt : ∀ y, m[k]? = some y → lessE s y) (hki : k ≤ i) {y : Entry} (hy : m[i]? = some y) : lessE s y := by
  rcases Nat.eq_or_lt_of_le hki with rfl | hlt
  · exact hgt y hy
  · obtain ⟨z, hz⟩ : ∃ z, m[k]? = some z := ⟨_, List.getElem?_eq_getElem (by have := (List.getElem?_eq_some_iff.1 hy).1; omega)⟩
    exact less_trans (hgt z hz) (hm.up.get hlt hz hy)
theorem Rk.put {m : List Entry} (hm : Rk m) {s : Entry} {k : Nat} (h1 : 0 ≤ s.prio) (h2 : s.prio ≤ 3) (hlt : ∀ j y, j < k → m[j]? = some y → lessE y s) (hgt : ∀ y, m[k]? = some y → lessE s y) : Rk (putAt m k s) := by
  refine ⟨hm.up.put (fun y hy => ?_) fun y hy => ?_, fun y hy => ?_⟩
  · obtain ⟨j, hj⟩ := List.getElem?_of_mem hy
    rw [List.getElem?_take] at hj
    split at hj
    · exact hlt j y (by assumption) hj
    · cases hj
  · obtain ⟨j, hj⟩ := List.getElem?_of_mem hy
    rw [List.getElem?_drop] at hj
    exact hm.above hgt (Nat.le_add_right _ _) hj
  · rcases putAt_mem.1 hy with rfl | hy
    · exact ⟨h1, h2⟩
    · exact hm.bd y hy
theorem Rk.nil : Rk [] := ⟨List.Pairwise.nil, by simp⟩
theorem Rk.sub {m l : List Entry} (hm : Rk m) (h : l.Sublist m) : Rk l := ⟨hm.up.sublist h, fun y hy => hm.bd y (h.subset hy)⟩
theorem Rk.cut {m : List Entry} (hm : Rk m) {i j : Nat} (hij : i ≤ j) : Rk (cutAt m i j) := ⟨hm.up.cut hij, fun y hy => hm.bd y (cutAt_mem hy)⟩
/-- Where an ID is. -/
theorem find_id (m : List Entry) (v : Int) : (∃ (k : Nat) (y : Entry), m[k]? = some y ∧ y.id = v ∧ ∀ j z, j < k → m[j]? = some z → z.id < v ∨ v < z.id) ∨ (∀ (j : Nat) (z : Entry), m[j]? = some z → z.id < v ∨ v < z.id) := by
  by_cases h : ∃ y, m[fi (fun y : Entry => decide (y.id = v)) m]? = some y
  · obtain ⟨y, hy⟩ := h
    refine .inl ⟨_, y, hy, of_decide_eq_true (fi_yes (p := fun y : Entry => decide (y.id = v)) hy), fun j z hj hz => ?_⟩
    have := of_decide_eq_false (fi_not (p := fun y : Entry => decide (y.id = v)) hj hz)
    omega
  · refine .inr fun j z hz => ?_
    have hj := (List.getElem?_eq_some_iff.1 hz).1
    have hl : m.length ≤ fi (fun y : Entry => decide (y.id = v)) m := by
      rcases Nat.lt_or_ge (fi (fun y : Entry => decide (y.id = v)) m) m.length with h1 | h1
      · exact absurd ⟨_, List.getElem?_eq_getElem h1⟩ h
      · exact h1
    have := of_decide_eq_false (fi_not (p := fun y : Entry => decide (y.id = v)) (show j < _ by omega) hz)
    omega
theorem putAt_countP {g : Entry → Bool} {m : List Entry} {k : Nat} {s : Entry} : (putAt m k s).countP g = m.countP g + (if g s then 1 else 0) := by
  unfold putAt
  conv => rhs; rw [← List.take_append_drop k m]
  simp only [List.countP_append, List.countP_cons, List.countP_nil]
  omega
end Go.Proofs.Ytkdngcoblohhjaa
