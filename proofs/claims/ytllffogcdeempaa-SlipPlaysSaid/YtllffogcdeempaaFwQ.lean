/- Functions that only compute, as the evaluator itself answers them. -/
import Derived.Test.YtllffogcdeempaaFwP
set_option linter.all false
open Go.RowKit
namespace Go.Ab

/-- What a function answers on plain values, run for itself. -/
def evS (P : Program) (pairs : FuncId → Nat → List (Nat × Nat)) (t : Tbl) (k : Nat) (f : FuncId) (fn : Func) (c : Code) (args : List Value) : Option Value :=
  if args.all scalar then
    match evBody (envNil P pairs) (callT t) k f fn c args ⟨.leaf, 0⟩ with
    | some (v, _) => if plainV v then some v else none
    | none => none
  else none

theorem evS_ok {P : Program} {pairs : FuncId → Nat → List (Nat × Nat)} (hm : P.follows .mixedOrders = true) (hp : progOkB P pairs = true) {f : FuncId} {fn : Func} {c : Code} (hfn : P.funcs[f]? = some fn) (hb : fn.body = some c)
    (t : Tbl) (ht : ∀ x ∈ t, FnOK (envNil P pairs) x.1 x.2) (k : Nat) (E : Env) (hE : E.P = P) : FnOK E f (lift (evS P pairs t k f fn c)) := by
  refine pure_ok hm hp hfn hb t ht (fun args v h => ?_) E hE
  unfold evS at h
  split at h
  case isFalse => cases h
  rename_i ha
  split at h
  case h_2 => cases h
  rename_i u σ' hev
  split at h
  case isFalse => cases h
  rename_i hpl
  cases h
  exact ⟨ha, hpl, k, σ', hev⟩

theorem evS_of {P : Program} {pairs : FuncId → Nat → List (Nat × Nat)} {t : Tbl} {k : Nat} {f : FuncId} {fn : Func} {c : Code} {args : List Value} {v : Value} (ha : args.all scalar = true) (hv : plainV v = true)
    (h : ∃ u σ', evBody (envNil P pairs) (callT t) k f fn c args ⟨.leaf, 0⟩ = some (u, σ') ∧ u = v) : evS P pairs t k f fn c args = some v := by
  obtain ⟨u, σ', h1, rfl⟩ := h
  simp [evS, ha, h1, hv]

/-- The same, stated for the stepping. -/
theorem evS_w {P : Program} {pairs : FuncId → Nat → List (Nat × Nat)} {t : Tbl} {k : Nat} {f : FuncId} {fn : Func} {c : Code} {args : List Value} {v : Value} (ha : args.all scalar = true) (hv : plainV v = true)
    (h : W (envNil P pairs) (callT t) k f c none (args ++ List.replicate (fn.ntmps - args.length) undef) ⟨.leaf, 0⟩ fun e fr σ => (e = .normal ∨ e = .ret) ∧ bindV (resOf (envNil P pairs) fn fr σ) fun u => u = v) : evS P pairs t k f fn c args = some v :=
  evS_of ha hv (wbody h)

/-- A table of such functions holds in whatever surroundings over the program. -/
def TblOK (P : Program) (t : Tbl) : Prop := ∀ (E : Env), E.P = P → ∀ x ∈ t, FnOK E x.1 x.2

theorem TblOK.nil (P : Program) : TblOK P [] := fun E _ x hx => by cases hx

theorem TblOK.cons {P : Program} {pairs : FuncId → Nat → List (Nat × Nat)} (hm : P.follows .mixedOrders = true) (hp : progOkB P pairs = true) {f : FuncId} {fn : Func} {c : Code} (hfn : P.funcs[f]? = some fn) (hb : fn.body = some c)
    {t : Tbl} (ht : TblOK P t) (k : Nat) : TblOK P ((f, lift (evS P pairs t k f fn c)) :: t) := by
  intro E hE x hx
  simp only [List.mem_cons] at hx
  rcases hx with rfl | hx
  · exact evS_ok hm hp hfn hb t (ht _ rfl) k E hE
  · exact ht E hE x hx

/-- A law over such a table. -/
theorem law_tbl {P : Program} {pairs : FuncId → Nat → List (Nat × Nat)} (hm : P.follows .mixedOrders = true) (hp : progOkB P pairs = true) {t : Tbl} (ht : TblOK P t) {f : FuncId} {fn : Func} {c : Code} (hfn : P.funcs[f]? = some fn) (hb : fn.body = some c)
    {w : World} {args : Array Value} {v : Value} {k : Nat} (hargs : ∀ x ∈ args.toList, oldV w.heap.size x = true ∨ scalar x = true) (hv : flatS v = true)
    (h : ∃ u σ', evBody (envAt P pairs w) (callT t) k f fn c args.toList ⟨.leaf, w.heap.size⟩ = some (u, σ') ∧ u = v) :
    Calls P f args w fun e w' => e = .returned v ∧ Below w.heap.size w w' := by
  obtain ⟨u, σ', hev, rfl⟩ := h
  have hpo := progOk_of (E := envAt P pairs w) hm hp
  obtain ⟨hc, _⟩ := hpo.code f fn c hfn hb
  have hl : LRel w.heap.size (fun _ => none) args.toList args.toList := ⟨rfl, fun i x y hx hy => by
    rw [hx] at hy; cases hy
    rcases hargs x (List.mem_of_getElem? hx) with h | h
    · exact .of_old h
    · exact .of_scalar h⟩
  refine ((evBody_sound (w0 := w) (callT_ok t (ht (envAt P pairs w) rfl)) hm hfn hb hc hev).2 (fun _ => none) w args (rel_at P pairs w) hl).mono ?_
  rintro e w' ⟨v', μ', rfl, hvr, hr, _⟩
  exact ⟨by rw [hvr.flat_eq hv], hr.below⟩
end Go.Ab
