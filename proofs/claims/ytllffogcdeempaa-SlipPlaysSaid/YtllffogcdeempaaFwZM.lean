/- Scopes that run to a label of theirs and jump back to it; places in rows. -/
import Derived.Test.YtllffogcdeempaaFwZL
set_option linter.all false
namespace Go.Ab
section
variable {E : Env} {call : CallF} {k : Nat} {fid : FuncId} {fr fr' : List Value} {L L' R : List Res}
/-- What holds where a loop begins. -/
def Begun (E : Env) (J : List Value → List Res → Prop) : Ex → List Value → St → Prop
  | .normal, fr, σ => ∃ L', J fr L' ∧ Own E σ L'
  | _, _, _ => False
theorem o_begun {J : List Value → List Res → Prop} (hj : J fr L') (he : Ent L L') : O E L (Begun E J .normal fr) := fun σ ho => ⟨L', hj, he.own ho⟩
/-- A scope 'a; label; b' whose b jumps back to the label: J i holds at the label when it is passed the (i+1)st time. -/
theorem o_hopL {a b : Code} {Q : Ex → List Value → St → Prop} (l : Nat) (hl : hasLabel a l = false) (J : Nat → List Value → List Res → Prop) (n : Nat) (hm : n + 1 < k)
    (h0 : O E L fun σ => W E call k fid a none fr σ (Begun E (J 0)))
    (step : ∀ i fr L, i ≤ n → J i fr L → O E L fun σ => W E call k fid b none fr σ (jumps (.seq a (.seq (.label l) b)) (fun l' fr σ => l' = l ∧ i < n ∧ ∃ L', J (i + 1) fr L' ∧ Own E σ L') Q)) :
    O E L fun σ => W E call k fid (.scope (.seq a (.seq (.label l) b))) none fr σ Q := by
  have hl2 : hasLabel (.seq a (.seq (.label l) b)) l = true := by simp [hasLabel]
  refine o_hop l hl2 (fun i fr L => i + 1 ≤ n ∧ J (i + 1) fr L) n hm ?_ ?_
  · intro σ ho
    refine w_seq ((h0 σ ho).mono ?_)
    intro e fr σ he
    cases e with
    | normal =>
      obtain ⟨L1, hj, ho1⟩ := he
      show W E call k fid (.seq (.label l) b) none fr σ _
      refine w_seq (w_label ?_)
      show W E call k fid b none fr σ _
      refine (step 0 fr L1 (Nat.zero_le _) hj σ ho1).mono ?_
      intro e fr σ he
      cases e with
      | goto l' =>
        simp only [jumps] at he ⊢
        split at he
        · rename_i hy
          rw [if_pos hy]
          obtain ⟨h1, h2, L2, h3, h4⟩ := he
          exact ⟨h1, L2, ⟨h2, h3⟩, h4⟩
        · rename_i hn; rw [if_neg hn]; exact he
      | _ => exact he
    | _ => exact he.elim
  · rintro i fr L hi ⟨hi2, hj⟩
    intro σ ho
    refine w_seq_past hl ?_
    refine w_seq_at (by simp [hasLabel]) (w_label_at ?_)
    show W E call k fid b none fr σ _
    refine (step (i + 1) fr L hi2 hj σ ho).mono ?_
    intro e fr σ he
    cases e with
    | goto l' =>
      simp only [jumps] at he ⊢
      split at he
      · rename_i hy
        rw [if_pos hy]
        obtain ⟨h1, h2, L2, h3, h4⟩ := he
        exact ⟨h1, by omega, L2, ⟨by omega, h3⟩, h4⟩
      · rename_i hn; rw [if_neg hn]; exact he
    | _ => exact he
end

/-! Places in rows. -/
section
variable {α : Type} {l : List α} {x y : α} {p : α → Bool}
/-- The place of the first one of which p holds; the length, if there is none. -/
def fi (p : α → Bool) (l : List α) : Nat := l.findIdx p
theorem fi_le : fi p l ≤ l.length := List.findIdx_le_length
theorem fi_not {j : Nat} (hj : j < fi p l) (hy : l[j]? = some y) : p y = false := by
  obtain ⟨h1, h2⟩ := List.getElem?_eq_some_iff.1 hy
  have := List.not_of_lt_findIdx hj
  rw [h2] at this
  simpa using this
theorem fi_yes (hy : l[fi p l]? = some y) : p y = true := by
  obtain ⟨h1, h2⟩ := List.getElem?_eq_some_iff.1 hy
  rw [← h2]
  exact List.findIdx_getElem (w := h1)
theorem fi_eq {k : Nat} (hk : k ≤ l.length) (hlt : ∀ j y, j < k → l[j]? = some y → p y = false) (hge : ∀ y, l[k]? = some y → p y = true) : fi p l = k := by
  have h1 := fi_le (p := p) (l := l)
  rcases Nat.lt_trichotomy (fi p l) k with h | h | h
  · obtain ⟨y, hy⟩ : ∃ y, l[fi p l]? = some y := ⟨_, List.getElem?_eq_getElem (by omega)⟩
    have := hlt _ y h hy
    rw [fi_yes hy] at this; cases this
  · exact h
  · obtain ⟨y, hy⟩ : ∃ y, l[k]? = some y := ⟨_, List.getElem?_eq_getElem (by omega)⟩
    have := fi_not h hy
    rw [hge y hy] at this; cases this
/-- One put in at a place; one taken out. -/
def putAt (l : List α) (k : Nat) (x : α) : List α := l.take k ++ ([x] ++ l.drop k)
def cutAt (l : List α) (i j : Nat) : List α := l.take i ++ l.drop j
theorem putAt_len {k : Nat} (h : k ≤ l.length) : (putAt l k x).length = l.length + 1 := by simp [putAt]; omega
theorem cutAt_len {i j : Nat} (h : i ≤ j) (h2 : j ≤ l.length) : (cutAt l i j).length = i + (l.length - j) := by simp [cutAt]; omega
theorem putAt_mem {k : Nat} : y ∈ putAt l k x ↔ y = x ∨ y ∈ l := by
  unfold putAt
  rw [List.mem_append, List.mem_append, List.mem_singleton]
  conv => rhs; rw [← List.take_append_drop k l, List.mem_append]
  constructor
  · rintro (h | h | h)
    · exact .inr (.inl h)
    · exact .inl h
    · exact .inr (.inr h)
  · rintro (h | h | h)
    · exact .inr (.inl h)
    · exact .inl h
    · exact .inr (.inr h)
theorem cutAt_mem {i j : Nat} (h : y ∈ cutAt l i j) : y ∈ l := by
  unfold cutAt at h
  rcases List.mem_append.1 h with h | h
  · exact List.mem_of_mem_take h
  · exact List.mem_of_mem_drop h
section
variable {f : α → List Value} {k : Nat}
theorem flat_putAt (h : ∀ x, (f x).length = k) {i : Nat} : flat f (putAt l i x) = (flat f l).take (i * k) ++ (f x ++ (flat f l).drop (i * k)) := by
  unfold putAt
  rw [flat_app, flat_app, flat_drop h]
  congr 1
  · rw [flat_take h]
  · simp [flat]
theorem flat_cutAt (h : ∀ x, (f x).length = k) {i j : Nat} : flat f (cutAt l i j) = (flat f l).take (i * k) ++ (flat f l).drop (j * k) := by
  unfold cutAt
  rw [flat_app, flat_drop h, flat_take h]
end
theorem cut_split {A B : List α} : cutAt (A ++ y :: B) A.length (A.length + 1) = A ++ B := by
  unfold cutAt
  rw [List.take_left, show A.length + 1 = A.length + 1 from rfl, ← List.drop_drop, List.drop_left]; rfl
theorem put_split {A B : List α} : putAt (A ++ B) A.length x = A ++ x :: B := by
  unfold putAt
  rw [List.take_left, List.drop_left]; rfl
theorem split_lt {A B : List α} {P : α → Prop} (h : ∀ z ∈ A, P z) : ∀ j y, j < A.length → (A ++ B)[j]? = some y → P y := by
  intro j y hj hy
  rw [List.getElem?_append_left hj] at hy
  exact h y (List.mem_of_getElem? hy)
theorem split_ge {A B : List α} {P : α → Prop} (h : ∀ z ∈ B, P z) : ∀ y, (A ++ B)[A.length]? = some y → P y := by
  intro y hy
  rw [List.getElem?_append_right (Nat.le_refl _)] at hy
  exact h y (List.mem_of_getElem? hy)
theorem split_at {A B : List α} : (A ++ y :: B)[A.length]? = some y := by simp
/-- Rising rows. -/
def Rise (r : α → α → Prop) (l : List α) : Prop := l.Pairwise r
theorem Rise.cut {r : α → α → Prop} (h : Rise r l) {i j : Nat} (hij : i ≤ j) : Rise r (cutAt l i j) := by
  unfold Rise cutAt
  have h1 : l.Pairwise r := h
  rw [← List.take_append_drop i l, List.pairwise_append] at h1
  have h2 : (l.drop j).Sublist (l.drop i) := by
    rw [show j = i + (j - i) by omega, ← List.drop_drop]
    exact List.drop_sublist _ _
  rw [List.pairwise_append]
  exact ⟨h1.1, h1.2.1.sublist h2, fun a ha b hb => h1.2.2 a ha b (h2.subset hb)⟩
theorem Rise.put {r : α → α → Prop} (h : Rise r l) {k : Nat} (h1 : ∀ y ∈ l.take k, r y x) (h2 : ∀ y ∈ l.drop k, r x y) : Rise r (putAt l k x) := by
  unfold Rise putAt
  have h0 : l.Pairwise r := h
  rw [← List.take_append_drop k l, List.pairwise_append] at h0
  rw [List.pairwise_append, List.pairwise_append]
  refine ⟨h0.1, ⟨by simp, h0.2.1, fun a ha b hb => ?_⟩, fun a ha b hb => ?_⟩
  · rw [List.mem_singleton] at ha; subst ha; exact h2 b hb
  · rcases List.mem_append.1 hb with hb | hb
    · rw [List.mem_singleton] at hb; subst hb; exact h1 a ha
    · exact h0.2.2 a ha b hb
theorem Rise.get {r : α → α → Prop} (h : Rise r l) {i j : Nat} (hij : i < j) (hx : l[i]? = some x) (hy : l[j]? = some y) : r x y := by
  obtain ⟨a1, a2⟩ := List.getElem?_eq_some_iff.1 hx
  obtain ⟨b1, b2⟩ := List.getElem?_eq_some_iff.1 hy
  rw [← a2, ← b2]
  exact List.pairwise_iff_getElem.1 h i j a1 b1 hij
end
/-- A row of truths. -/
def boolC (b : Bool) : List Value := [.bool b]
theorem boolC_len (b : Bool) : (boolC b).length = 1 := rfl
theorem boolC_one (b : Bool) : (boolC b).all oneCell = true := rfl
theorem flat_repl {α : Type} {f : α → List Value} {v : Value} {x : α} (h : f x = [v]) (n : Nat) : flat f (List.replicate n x) = List.replicate n v := by
  induction n with
  | zero => rfl
  | succ n ih => rw [List.replicate_succ, flat_cons, ih, h]; rfl
end Go.Ab
