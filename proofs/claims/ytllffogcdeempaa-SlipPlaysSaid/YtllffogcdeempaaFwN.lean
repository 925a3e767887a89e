/- From the abstract evaluator to a call in the model; functions that only compute. -/
import Derived.Test.YtllffogcdeempaaFwM
set_option linter.all false
open Go.RowKit
namespace Go.Ab

/-- The surroundings of a call in a world. -/
def envAt (P : Program) (pairs : FuncId → Nat → List (Nat × Nat)) (w : World) : Env :=
  { P, old := w.heap.size, base := fun a => w.cell? a, sum := fun _ _ _ => none, pairs }

/-- Surroundings in which nothing is there. -/
def envNil (P : Program) (pairs : FuncId → Nat → List (Nat × Nat)) : Env :=
  { P, old := 0, base := fun _ => none, sum := fun _ _ _ => none, pairs }

theorem rel_at (P : Program) (pairs : FuncId → Nat → List (Nat × Nat)) (w : World) : Rel (envAt P pairs w) w (fun _ => none) ⟨.leaf, w.heap.size⟩ w :=
  ⟨Below.refl _ _, Nat.le_refl _, Nat.le_refl _, fun a v _ _ h => h, fun a p h => (by cases h), fun a b h => (by cases h), fun a p h => (by cases h), fun a a' b b' p p' h => (by cases h)⟩

theorem rel_nil (P : Program) (pairs : FuncId → Nat → List (Nat × Nat)) (w : World) : Rel (envNil P pairs) w (fun _ => none) ⟨.leaf, 0⟩ w :=
  ⟨Below.refl _ _, Nat.zero_le _, Nat.le_refl _, fun a v _ h _ => absurd h (Nat.not_lt_zero _), fun a p h => (by cases h), fun a b h => (by cases h), fun a p h => (by cases h), fun a a' b b' p p' h => (by cases h)⟩

/-- A value that bears no number of a block, or a row of such. -/
def plainV : Value → Bool
  | .tuple vs => vs.toList.all scalar
  | v => scalar v

theorem VRel.plain_eq {old : Nat} {μ : Mu} {v v' : Value} (h : VRel old μ v v') (hp : plainV v = true) : v' = v := by
  cases v with
  | tuple xs =>
    obtain ⟨ys, rfl, hs, hrel⟩ := h.inv_tuple
    have : ys.toList = xs.toList := list_eq_of (by simpa using hs) fun i x y hx hy => (hrel i x y (by simpa using hx) (by simpa using hy)).scalar_eq (List.all_eq_true.1 hp x (List.mem_of_getElem? hx))
    rw [show ys = xs from Array.ext' this]
  | _ => exact h.scalar_eq hp

theorem VRel.of_plain {old : Nat} {μ : Mu} {v : Value} (hp : plainV v = true) : VRel old μ v v := by
  cases v with
  | tuple xs =>
    refine .tuple _ _ rfl fun i x y hx hy => ?_
    rw [hx] at hy
    cases hy
    exact .of_scalar (List.all_eq_true.1 hp x (by simpa using Array.mem_of_getElem? hx))
  | _ => exact .of_scalar hp

theorem Rel.later {E : Env} {w0 w w' : World} {μ : Mu} {σ : St} (hr : Rel E w0 μ σ w) (hb : Below w.heap.size w w') : Rel E w0 μ σ w' :=
  ⟨hr.below.trans (hb.mono hr.below.size), hr.old_le, hr.old_next, hr.base, hr.dom,
    fun a b h => let ⟨p, hp, hbr⟩ := hr.blk a b h; ⟨p, hp, hbr.world (hb.block _ (hr.new a p hp).2)⟩,
    fun a p h => ⟨(hr.new a p h).1, by have := (hr.new a p h).2; have := hb.size; omega⟩, hr.inj⟩

/-- One function's contract. -/
def FnSound (E : Env) (f : FuncId) (s : List Value → St → Option (Value × St)) : Prop :=
  ∀ (w0 : World) (args : List Value) (σ : St) (v : Value) (σ' : St), s args σ = some (v, σ') →
    ((∃ fn, E.P.funcs[f]? = some fn ∧ fn.body.isSome = true ∧ fn.name ≠ "runtime.NumGoroutine") ∧ σ.next ≤ σ'.next ∧
    ∀ (μ : Mu) (w : World) (args' : Array Value), Rel E w0 μ σ w → LRel E.old μ args args'.toList →
      Calls E.P f args' w fun e w' => ∃ v' μ', e = .returned v' ∧ VRel E.old μ' v v' ∧ Rel E w0 μ' σ' w' ∧ ∀ a, a < σ.next → μ' a = μ a) ∨ ExtOK E w0 f args σ v σ'

/-- It stays right with one more block on the heap. -/
def FnMono (s : List Value → St → Option (Value × St)) : Prop := ∀ (args : List Value) (σ : St) (v : Value) (σ' : St) (n : Nat) (x : Option Blk), σ.heap.get n = none → n < σ.next → s args σ = some (v, σ') →
  σ'.heap.get n = none ∧ σ.next ≤ σ'.next ∧ s args ⟨σ.heap.set n x, σ.next⟩ = some (v, ⟨σ'.heap.set n x, σ'.next⟩)
structure FnOK (E : Env) (f : FuncId) (s : List Value → St → Option (Value × St)) : Prop where
  ok : FnSound E f s
  mono : FnMono s

/-- A table of contracts. -/
abbrev Tbl := List (FuncId × (List Value → St → Option (Value × St)))

def callT : Tbl → CallF
  | [], _, _, _ => none
  | (g, s) :: r, f, args, σ => if g = f then s args σ else callT r f args σ

theorem callT_sound {E : Env} : ∀ (t : Tbl), (∀ x ∈ t, FnOK E x.1 x.2) → CallSound E (callT t)
  | [], _ => fun w0 f args σ v σ' h => by cases h
  | (g, s) :: r, ht => by
    intro w0 f args σ v σ' h
    simp only [callT] at h
    split at h
    · rename_i he
      subst he
      exact (ht (g, s) (by simp)).ok w0 args σ v σ' h
    · exact callT_sound r (fun x hx => ht x (by simp [hx])) w0 f args σ v σ' h

theorem callT_mono {E : Env} : ∀ (t : Tbl), (∀ x ∈ t, FnOK E x.1 x.2) → Mono (callT t)
  | [], _ => fun f args σ v σ' n x _ _ h => by cases h
  | (g, s) :: r, ht => by
    intro f args σ v σ' n x h1 h2 h
    simp only [callT] at h ⊢
    split at h
    · rename_i he
      subst he
      rw [if_pos rfl]
      exact (ht (g, s) (by simp)).mono args σ v σ' n x h1 h2 h
    · rename_i he
      rw [if_neg he]
      exact callT_mono r (fun x hx => ht x (by simp [hx])) f args σ v σ' n x h1 h2 h

theorem callT_ok {E : Env} (t : Tbl) (ht : ∀ x ∈ t, FnOK E x.1 x.2) : CallOK E (callT t) := ⟨callT_sound t ht, callT_mono t ht⟩

/-- A function that only computes: on plain values, to a plain value; what is there stays as it is. -/
def lift (s : List Value → Option Value) (args : List Value) (σ : St) : Option (Value × St) :=
  match s args with
  | some v => some (v, σ)
  | none => none

theorem lift_mono (s : List Value → Option Value) : FnMono (lift s) := by
  intro args σ v σ' n x h1 h2 h
  unfold lift at h ⊢
  split at h
  · cases h; exact ⟨h1, Nat.le_refl _, rfl⟩
  · cases h

theorem pure_ok {P : Program} {pairs : FuncId → Nat → List (Nat × Nat)} (hm : P.follows .mixedOrders = true) (hp : progOkB P pairs = true) {f : FuncId} {fn : Func} {c : Code} (hfn : P.funcs[f]? = some fn) (hb : fn.body = some c)
    {s : List Value → Option Value} (t : Tbl) (ht : ∀ x ∈ t, FnOK (envNil P pairs) x.1 x.2)
    (h : ∀ args v, s args = some v → args.all scalar = true ∧ plainV v = true ∧ ∃ k σ', evBody (envNil P pairs) (callT t) k f fn c args ⟨.leaf, 0⟩ = some (v, σ')) (E : Env) (hE : E.P = P) : FnOK E f (lift s) := by
  refine ⟨?_, lift_mono s⟩
  intro w0 args σ v σ' hs
  unfold lift at hs
  split at hs
  · rename_i v1 hv1
    cases hs
    obtain ⟨ha, hpv, k, σ2, hev⟩ := h args v hv1
    have hpo := progOk_of (E := envNil P pairs) hm hp
    obtain ⟨hc, hn⟩ := hpo.code f fn c hfn hb
    refine .inl ⟨⟨fn, by rw [hE]; exact hfn, by simp [hb], hn⟩, Nat.le_refl _, fun μ w args' hr hl => ?_⟩
    have he := hl.of_scalars ha
    have hsound := (evBody_sound (w0 := w) (callT_ok t ht) hm hfn hb hc hev).2 (fun _ => none) w args' (rel_nil P pairs w) ⟨by rw [he], fun i x y hx hy => by rw [he] at hy; rw [hx] at hy; cases hy; exact .of_scalar (List.all_eq_true.1 ha x (List.mem_of_getElem? hx))⟩
    rw [hE]
    refine hsound.mono ?_
    rintro e w' ⟨v', μ', rfl, hvr, hr', _⟩
    have := hvr.plain_eq hpv
    subst this
    exact ⟨_, μ, rfl, .of_plain hpv, hr.later hr'.below, fun _ _ => rfl⟩
  · cases hs
end Go.Ab
