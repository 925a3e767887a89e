/- A function's own code and results, told apart for the stepping. -/
import Derived.Test.YtllffogcdeempaaFwR
set_option linter.all false
open Go.RowKit
namespace Go.Ab

theorem nlt (n k : Nat) : (n + k < n) = False := by simp

/-- What is handed back. -/
def resR (E : Env) (fr : List Value) (σ : St) (rs : List ResultVar) : Option Value :=
  match resV E fr σ rs with
  | some [v] => some v
  | some l => some (.tuple l.toArray)
  | none => none

theorem resR_tmp {E : Env} {fr : List Value} {σ : St} {t : Nat} : resR E fr σ [.tmp t] = some (fr.getD t undef) := rfl
theorem resR_cell {E : Env} {fr : List Value} {σ : St} {a : Nat} {t : TypeId} : resR E fr σ [.cell a t] = (evLoad E σ.heap.get t (fr.getD a undef)).map fun e => e.val := by
  simp only [resR, resV]
  cases evLoad E σ.heap.get t (fr.getD a undef) <;> rfl
theorem resR_none {E : Env} {fr : List Value} {σ : St} : resR E fr σ [] = some (.tuple #[]) := rfl
theorem resR_two {E : Env} {fr : List Value} {σ : St} {s t : Nat} : resR E fr σ [.tmp s, .tmp t] = some (.tuple #[fr.getD s undef, fr.getD t undef]) := rfl
theorem resR_three {E : Env} {fr : List Value} {σ : St} {s t u : Nat} : resR E fr σ [.tmp s, .tmp t, .tmp u] = some (.tuple #[fr.getD s undef, fr.getD t undef, fr.getD u undef]) := rfl

theorem wbody2 {E : Env} {call : CallF} {k : Nat} {f : FuncId} {fn : Func} {c : Code} {args : List Value} {σ : St} {Q : Value → St → Prop} (n : Nat) (rs : List ResultVar) (hn : fn.ntmps = n) (hr : fn.results.toList = rs)
    (h : W E call k f c none (args ++ List.replicate (n - args.length) undef) σ fun e fr σ => (e = .normal ∨ e = .ret) ∧ bindV (resR E fr σ rs) fun v => Q v σ) :
    ∃ v σ', evBody E call k f fn c args σ = some (v, σ') ∧ Q v σ' := by
  subst hn hr
  exact wbody h

theorem evS_w2 {P : Program} {pairs : FuncId → Nat → List (Nat × Nat)} {t : Tbl} {k : Nat} {f : FuncId} {fn : Func} {c : Code} {args : List Value} {v : Value} (n : Nat) (rs : List ResultVar) (hn : fn.ntmps = n) (hr : fn.results.toList = rs) (ha : args.all scalar = true) (hv : plainV v = true)
    (h : W (envNil P pairs) (callT t) k f c none (args ++ List.replicate (n - args.length) undef) ⟨.leaf, 0⟩ fun e fr σ => (e = .normal ∨ e = .ret) ∧ bindV (resR (envNil P pairs) fr σ rs) fun u => u = v) : evS P pairs t k f fn c args = some v :=
  evS_of ha hv (wbody2 n rs hn hr h)

theorem law_tbl2 {P : Program} {pairs : FuncId → Nat → List (Nat × Nat)} (hm : P.follows .mixedOrders = true) (hp : progOkB P pairs = true) {t : Tbl} (ht : TblOK P t) {f : FuncId} {fn : Func} {c : Code} (hfn : P.funcs[f]? = some fn) (hb : fn.body = some c)
    {w : World} {args : Array Value} {v : Value} {k : Nat} (n : Nat) (rs : List ResultVar) (hn : fn.ntmps = n) (hr : fn.results.toList = rs) (hargs : ∀ x ∈ args.toList, oldV w.heap.size x = true ∨ scalar x = true) (hv : flatS v = true)
    (h : W (envAt P pairs w) (callT t) k f c none (args.toList ++ List.replicate (n - args.toList.length) undef) ⟨.leaf, w.heap.size⟩ fun e fr σ => (e = .normal ∨ e = .ret) ∧ bindV (resR (envAt P pairs w) fr σ rs) fun u => u = v) :
    Calls P f args w fun e w' => e = .returned v ∧ Below w.heap.size w w' :=
  law_tbl hm hp ht hfn hb hargs hv (wbody2 n rs hn hr h)
end Go.Ab
