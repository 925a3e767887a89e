/- From the abstract evaluator to a call in the model; functions that only compute. -/
import Derived.Test.YtmehmjdcigokjaaFwM
set_option linter.all false
open Go.RowKit
namespace Go.Ab

/-- The surroundings of a call in a world. -/
def envAt (P : Program) (pairs : FuncId → Nat → List (Nat × Nat)) (w : World) : Env :=
  { P, old := w.heap.size, base := fun a => w.cell? a, sum := fun _ _ _ => none, pairs }

/-- Surroundings in which nothing is there. -/
def envNil (P : Program) (pairs : FuncId → Nat → List (Nat × Nat)) : Env :=
  { P, old := 0, base := fun _ => none, sum := fun _ _ _ => none, pairs }

theorem noSum_ok (E : Env) (h : E.sum = fun _ _ _ => none) : CallOK E E.sum := by
  intro w0 f args σ v σ' h'
  rw [h] at h'
  cases h'

theorem rel_at (P : Program) (pairs : FuncId → Nat → List (Nat × Nat)) (w : World) : Rel (envAt P pairs w) w (fun _ => none) ⟨.leaf, w.heap.size⟩ w :=
  ⟨Below.refl _ _, Nat.le_refl _, Nat.le_refl _, fun a v _ _ h => h, fun a p h => (by cases h), fun a b h => (by cases h), fun a p h => (by cases h), fun a a' b b' p p' h => (by cases h)⟩

theorem rel_nil (P : Program) (pairs : FuncId → Nat → List (Nat × Nat)) (w : World) : Rel (envNil P pairs) w (fun _ => none) ⟨.leaf, 0⟩ w :=
  ⟨Below.refl _ _, Nat.zero_le _, Nat.le_refl _, fun a v _ h _ => absurd h (Nat.not_lt_zero _), fun a p h => (by cases h), fun a b h => (by cases h), fun a p h => (by cases h), fun a a' b b' p p' h => (by cases h)⟩

/-- A law that the evaluator answers 'true' returns true, and nothing that was there turns. -/
theorem law_calls {P : Program} {pairs : FuncId → Nat → List (Nat × Nat)} (hm : P.follows .mixedOrders = true) (hp : progOkB P pairs = true) {w : World} {f : FuncId} {args : Array Value} {v : Value} {k d : Nat} {σ' : St}
    (hargs : ∀ x ∈ args.toList, oldV w.heap.size x = true) (hv : flatS v = true) (h : evFun (envAt P pairs w) k d f args.toList ⟨.leaf, w.heap.size⟩ = some (v, σ')) :
    Calls P f args w fun e w' => e = .returned v ∧ Below w.heap.size w w' := by
  have hok := evFun_ok (E := envAt P pairs w) (progOk_of hm hp) (noSum_ok _ rfl) k d w f args.toList _ v σ' h
  have hl : LRel w.heap.size (fun _ => none) args.toList args.toList := ⟨rfl, fun i x y hx hy => by rw [hx] at hy; cases hy; exact .of_old (hargs x (List.mem_of_getElem? hx))⟩
  refine (hok.2.2 (fun _ => none) w args (rel_at P pairs w) hl).mono ?_
  rintro e w' ⟨v', μ', rfl, hvr, hr, _⟩
  exact ⟨by rw [hvr.flat_eq hv], hr.below⟩

/-- A value that bears no number of a block, or a row of such. -/
def plainV : Value → Bool
  | .tuple vs => vs.toList.all scalar
  | v => scalar v

theorem VRel.plain_eq {old : Nat} {μ : Mu} {v v' : Value} (h : VRel old μ v v') (hp : plainV v = true) : v' = v := by
  cases v with
  | tuple xs =>
    obtain ⟨ys, rfl, hs, hrel⟩ := h.inv_tuple
    have : ys.toList = xs.toList := list_eq_of (by simpa using hs) fun i x y hx hy => (hrel i x y (by simpa using hx) (by simpa using hy)).scalar_eq (List.all_eq_true.1 hp x (List.mem_of_getElem? hx))
    rw [show ys = xs from Array.ext' this]
  | _ => exact h.scalar_eq hp

theorem VRel.of_plain {old : Nat} {μ : Mu} {v : Value} (hp : plainV v = true) : VRel old μ v v := by
  cases v with
  | tuple xs =>
    refine .tuple _ _ rfl fun i x y hx hy => ?_
    rw [hx] at hy
    cases hy
    exact .of_scalar (List.all_eq_true.1 hp x (by simpa using Array.mem_of_getElem? hx))
  | _ => exact .of_scalar hp

theorem Rel.later {E : Env} {w0 w w' : World} {μ : Mu} {σ : St} (hr : Rel E w0 μ σ w) (hb : Below w.heap.size w w') : Rel E w0 μ σ w' :=
  ⟨hr.below.trans (hb.mono hr.below.size), hr.old_le, hr.old_next, hr.base, hr.dom,
    fun a b h => let ⟨p, hp, hbr⟩ := hr.blk a b h; ⟨p, hp, hbr.world (hb.block _ (hr.new a p hp).2)⟩,
    fun a p h => ⟨(hr.new a p h).1, by have := (hr.new a p h).2; have := hb.size; omega⟩, hr.inj⟩

/-- One function's contract. -/
def FnOK (E : Env) (f : FuncId) (s : List Value → St → Option (Value × St)) : Prop :=
  ∀ (w0 : World) (args : List Value) (σ : St) (v : Value) (σ' : St), s args σ = some (v, σ') →
    (∃ fn, E.P.funcs[f]? = some fn ∧ fn.body.isSome = true ∧ fn.name ≠ "runtime.NumGoroutine") ∧ σ.next ≤ σ'.next ∧
    ∀ (μ : Mu) (w : World) (args' : Array Value), Rel E w0 μ σ w → LRel E.old μ args args'.toList →
      Calls E.P f args' w fun e w' => ∃ v' μ', e = .returned v' ∧ VRel E.old μ' v v' ∧ Rel E w0 μ' σ' w' ∧ ∀ a, a < σ.next → μ' a = μ a

/-- A table of contracts. -/
abbrev Tbl := List (FuncId × (List Value → St → Option (Value × St)))

def callT : Tbl → CallF
  | [], _, _, _ => none
  | (g, s) :: r, f, args, σ => if g = f then s args σ else callT r f args σ

theorem callT_ok {E : Env} : ∀ (t : Tbl), (∀ x ∈ t, FnOK E x.1 x.2) → CallOK E (callT t)
  | [], _ => fun w0 f args σ v σ' h => by cases h
  | (g, s) :: r, ht => by
    intro w0 f args σ v σ' h
    simp only [callT] at h
    split at h
    · rename_i he
      subst he
      exact ht (g, s) (by simp) w0 args σ v σ' h
    · exact callT_ok r (fun x hx => ht x (by simp [hx])) w0 f args σ v σ' h

/-- A function that only computes: on plain values, to a plain value; what is there stays as it is. -/
def lift (s : List Value → Option Value) (args : List Value) (σ : St) : Option (Value × St) :=
  match s args with
  | some v => some (v, σ)
  | none => none

theorem pure_ok {P : Program} {pairs : FuncId → Nat → List (Nat × Nat)} (hm : P.follows .mixedOrders = true) (hp : progOkB P pairs = true) {f : FuncId} {fn : Func} {c : Code} (hfn : P.funcs[f]? = some fn) (hb : fn.body = some c)
    {s : List Value → Option Value} (t : Tbl) (ht : ∀ x ∈ t, FnOK (envNil P pairs) x.1 x.2)
    (h : ∀ args v, s args = some v → args.all scalar = true ∧ plainV v = true ∧ ∃ k σ', evBody (envNil P pairs) (callT t) k f fn c args ⟨.leaf, 0⟩ = some (v, σ')) (E : Env) (hE : E.P = P) : FnOK E f (lift s) := by
  intro w0 args σ v σ' hs
  unfold lift at hs
  split at hs
  · rename_i v1 hv1
    cases hs
    obtain ⟨ha, hpv, k, σ2, hev⟩ := h args v hv1
    have hpo := progOk_of (E := envNil P pairs) hm hp
    obtain ⟨hc, hn⟩ := hpo.code f fn c hfn hb
    refine ⟨⟨fn, by rw [hE]; exact hfn, by simp [hb], hn⟩, Nat.le_refl _, fun μ w args' hr hl => ?_⟩
    have he := hl.of_scalars ha
    have hsound := (evBody_sound (w0 := w) (callT_ok t ht) hm hfn hb hc hev).2 (fun _ => none) w args' (rel_nil P pairs w) ⟨by rw [he], fun i x y hx hy => by rw [he] at hy; rw [hx] at hy; cases hy; exact .of_scalar (List.all_eq_true.1 ha x (List.mem_of_getElem? hx))⟩
    rw [hE]
    refine hsound.mono ?_
    rintro e w' ⟨v', μ', rfl, hvr, hr', _⟩
    have := hvr.plain_eq hpv
    subst this
    exact ⟨_, μ, rfl, .of_plain hpv, hr.later hr'.below, fun _ _ => rfl⟩
  · cases hs
end Go.Ab
