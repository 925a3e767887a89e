/- Stepping through code with symbols in it: what code comes to, as a statement that simp takes apart. -/
import Derived.Test.YtllffogcdeempaaFwN
set_option linter.all false
open Go.RowKit
namespace Go.Ab

def bindV {α : Type} (x : Option α) (f : α → Prop) : Prop := ∃ a, x = some a ∧ f a

@[simp] theorem bindV_some {α : Type} (a : α) (f : α → Prop) : bindV (some a) f = f a := by simp [bindV]
@[simp] theorem bindV_none {α : Type} (f : α → Prop) : bindV none f = False := by simp [bindV]
theorem bindV_map {α β : Type} (x : Option α) (g : α → β) (f : β → Prop) : bindV (x.map g) f = bindV x fun a => f (g a) := by cases x <;> simp
theorem bindV_ite {α : Type} (c : Prop) [Decidable c] (x y : Option α) (f : α → Prop) : bindV (if c then x else y) f = if c then bindV x f else bindV y f := by split <;> rfl
theorem bindV_mono {α : Type} {x : Option α} {f g : α → Prop} (h : bindV x f) (hfg : ∀ a, f a → g a) : bindV x g := let ⟨a, h1, h2⟩ := h; ⟨a, h1, hfg a h2⟩

/-- A call comes to so much. -/
def WCall (call : CallF) (f : FuncId) (args : List Value) (σ : St) (Q : Value → St → Prop) : Prop := ∃ v σ', call f args σ = some (v, σ') ∧ Q v σ'

theorem WCall.mono {call : CallF} {f : FuncId} {args : List Value} {σ : St} {Q Q' : Value → St → Prop} (h : WCall call f args σ Q) (hq : ∀ v σ', Q v σ' → Q' v σ') : WCall call f args σ Q' :=
  let ⟨v, σ', h1, h2⟩ := h; ⟨v, σ', h1, hq v σ' h2⟩

theorem wcall_pure {g : FuncId} {s : List Value → Option Value} {r : Tbl} {args : List Value} {σ : St} {Q : Value → St → Prop} : WCall (callT ((g, lift s) :: r)) g args σ Q = bindV (s args) fun v => Q v σ := by
  apply propext
  constructor
  · rintro ⟨v, σ', h, hq⟩
    simp only [callT, if_pos] at h
    unfold lift at h
    split at h
    · rename_i u hu; cases h; exact ⟨_, hu, hq⟩
    · cases h
  · rintro ⟨v, h, hq⟩
    exact ⟨v, σ, by simp [callT, lift, h], hq⟩

theorem wcall_skip {f g : FuncId} {s : List Value → St → Option (Value × St)} {r : Tbl} {args : List Value} {σ : St} {Q : Value → St → Prop} (h : g ≠ f) : WCall (callT ((g, s) :: r)) f args σ Q = WCall (callT r) f args σ Q := by
  unfold WCall
  simp only [callT, if_neg h]

theorem wcall_head {g : FuncId} {s : List Value → St → Option (Value × St)} {r : Tbl} {args : List Value} {σ : St} {Q : Value → St → Prop} : WCall (callT ((g, s) :: r)) g args σ Q = bindV (s args σ) fun x => Q x.1 x.2 := by
  apply propext
  unfold WCall bindV
  simp only [callT, if_pos]
  constructor
  · rintro ⟨v, σ', h, hq⟩; exact ⟨(v, σ'), h, hq⟩
  · rintro ⟨⟨v, σ'⟩, h, hq⟩; exact ⟨v, σ', h, hq⟩

/-- The rest of a region. -/
def WR (E : Env) (call : CallF) (ops : List Oper) (base i : Nat) (rest : List Oper) (fr : List Value) (σ : St) (Q : List Rec → List Value → St → Prop) : Prop :=
  (∀ k, rest[k]? = ops[i + k]?) → ∃ rs fr' σ', runOps E call ops base (List.range' i rest.length) fr σ = some (rs, fr', σ') ∧ Q rs fr' σ'

theorem wr_nil {E : Env} {call : CallF} {ops : List Oper} {base i : Nat} {fr : List Value} {σ : St} {Q : List Rec → List Value → St → Prop} (h : Q [] fr σ) : WR E call ops base i [] fr σ Q :=
  fun _ => ⟨[], fr, σ, rfl, h⟩

/-- One step of a region, as a statement. -/
def WStep (E : Env) (call : CallF) (ops : List Oper) (nid : Nat) (o : Oper) (fr : List Value) (σ : St) (K : Rec → List Value → St → Prop) : Prop :=
  if Region.wanted o (yieldA ops fr) then
    match callOf o with
    | some (f, args) => bindV (callee? (Opd fr f) (args.map (Opd fr))) fun x => WCall call x.1 x.2 σ fun v σ' => K (.call σ σ') (put fr o.dst v) σ'
    | none => bindV (evOp E (Opd fr) nid σ.heap.get o) fun e => K (.mem (fun g => evOp E (Opd fr) nid g o) e) (put fr o.dst e.val) ⟨upds σ.heap e.upd, σ.next⟩
  else K .quiet (put fr o.dst undef) σ

theorem wr_cons {E : Env} {call : CallF} {ops : List Oper} {base i : Nat} {o : Oper} {rest : List Oper} {fr : List Value} {σ : St} {Q : List Rec → List Value → St → Prop}
    (h : WStep E call ops (base + i) o fr σ fun r fr σ => WR E call ops base (i + 1) rest fr σ fun rs fr σ => Q (r :: rs) fr σ) : WR E call ops base i (o :: rest) fr σ Q := by
  intro hl
  have ho : ops[i]? = some o := by simpa using (hl 0).symm
  have hrest : ∀ k, rest[k]? = ops[i + 1 + k]? := fun k => by have := hl (k + 1); simp at this; rw [this]; congr 1; omega
  have fin : ∀ r fr1 σ1, step1 E call ops base i fr σ = some (r, fr1, σ1) → (WR E call ops base (i + 1) rest fr1 σ1 fun rs fr σ => Q (r :: rs) fr σ) →
      ∃ rs fr' σ', runOps E call ops base (List.range' i (o :: rest).length) fr σ = some (rs, fr', σ') ∧ Q rs fr' σ' := by
    intro r fr1 σ1 hs hw
    obtain ⟨rs, fr', σ', h1, h2⟩ := hw hrest
    refine ⟨r :: rs, fr', σ', ?_, h2⟩
    simp only [List.length_cons, List.range'_succ]
    exact mk_runOps hs h1
  unfold WStep at h
  split at h
  · rename_i hw
    split at h
    · rename_i f args hc
      obtain ⟨⟨fid, as⟩, hce, v, σ', hcall, hK⟩ := h
      refine fin _ _ _ ?_ hK
      unfold step1
      simp only [ho, hw, if_true, hc, hce, hcall]
    · rename_i hc
      obtain ⟨e, he, hK⟩ := h
      refine fin _ _ _ ?_ hK
      unfold step1
      simp only [ho, hw, if_true, hc, he]
  · rename_i hw
    refine fin _ _ _ ?_ h
    unfold step1
    simp only [ho, hw]
    rfl

/-- What code comes to. -/
def W (E : Env) (call : CallF) (k : Nat) (fid : FuncId) (c : Code) (en : Option Nat) (fr : List Value) (σ : St) (Q : Ex → List Value → St → Prop) : Prop :=
  ∃ e fr' σ', evC E call k fid c en fr σ = some (e, fr', σ') ∧ Q e fr' σ'

section
variable {E : Env} {call : CallF} {k : Nat} {fid : FuncId} {fr : List Value} {σ : St} {Q : Ex → List Value → St → Prop}

theorem W.mono {c : Code} {en : Option Nat} {Q' : Ex → List Value → St → Prop} (h : W E call k fid c en fr σ Q) (hq : ∀ e fr σ, Q e fr σ → Q' e fr σ) : W E call k fid c en fr σ Q' :=
  let ⟨e, fr', σ', h1, h2⟩ := h; ⟨e, fr', σ', h1, hq _ _ _ h2⟩

/-- Behind a piece of code: on with f, or out. -/
def onward (f : List Value → St → Prop) (Q : Ex → List Value → St → Prop) : Ex → List Value → St → Prop
  | .normal, fr, σ => f fr σ
  | e, fr, σ => Q e fr σ

theorem w_seq {x y : Code} (h : W E call k fid x none fr σ (onward (fun fr σ => W E call k fid y none fr σ Q) Q)) : W E call k fid (.seq x y) none fr σ Q := by
  obtain ⟨e, fr', σ', h1, h2⟩ := h
  unfold W
  simp only [evC, h1]
  cases e with
  | normal => exact h2
  | _ => exact ⟨_, _, _, rfl, h2⟩

theorem w_seq_at {x y : Code} {l : Nat} (hl : hasLabel x l = true) (h : W E call k fid x (some l) fr σ (onward (fun fr σ => W E call k fid y none fr σ Q) Q)) : W E call k fid (.seq x y) (some l) fr σ Q := by
  obtain ⟨e, fr', σ', h1, h2⟩ := h
  unfold W
  simp only [evC, hl, if_true, h1]
  cases e with
  | normal => exact h2
  | _ => exact ⟨_, _, _, rfl, h2⟩

theorem w_seq_past {x y : Code} {l : Nat} (hl : hasLabel x l = false) (h : W E call k fid y (some l) fr σ Q) : W E call k fid (.seq x y) (some l) fr σ Q := by
  unfold W at h ⊢
  simpa [evC, hl] using h

theorem w_label {l : Nat} (h : Q .normal fr σ) : W E call k fid (.label l) none fr σ Q := ⟨_, _, _, rfl, h⟩
theorem w_label_at {l : Nat} (h : Q .normal fr σ) : W E call k fid (.label l) (some l) fr σ Q := ⟨.normal, fr, σ, by simp [evC], h⟩
theorem w_skip (h : Q .normal fr σ) : W E call k fid .skip none fr σ Q := ⟨_, _, _, rfl, h⟩
theorem w_ret (h : Q .ret fr σ) : W E call k fid .ret none fr σ Q := ⟨_, _, _, rfl, h⟩
theorem w_exit {id : Nat} (h : Q (.exit id) fr σ) : W E call k fid (.exit id) none fr σ Q := ⟨_, _, _, rfl, h⟩
theorem w_goto {l : Nat} (h : Q (.goto l) fr σ) : W E call k fid (.goto l) none fr σ Q := ⟨_, _, _, rfl, h⟩

theorem w_cond {c : Operand} {x y : Code} {t : Bool} (hc : Opd fr c = .bool t) (h1 : t = true → W E call k fid x none fr σ Q) (h2 : t = false → W E call k fid y none fr σ Q) : W E call k fid (.cond c x y) none fr σ Q := by
  unfold W at *
  simp only [evC, hc]
  cases t with
  | true => simpa using h1 rfl
  | false => simpa using h2 rfl

/-- An exit from a block, caught. -/
def caught (id : Nat) (Q : Ex → List Value → St → Prop) : Ex → List Value → St → Prop
  | .exit id', fr, σ => if id' = id then Q .normal fr σ else Q (.exit id') fr σ
  | e, fr, σ => Q e fr σ

theorem w_block {id : Nat} {c : Code} (h : W E call k fid c none fr σ (caught id Q)) : W E call k fid (.block id c) none fr σ Q := by
  obtain ⟨e, fr', σ', h1, h2⟩ := h
  unfold W
  simp only [evC, h1]
  cases e with
  | exit id' =>
    simp only [caught] at h2
    split at h2
    · rename_i hid; simp only [hid, if_true]; exact ⟨_, _, _, rfl, h2⟩
    · rename_i hid; simp only [hid, if_false]; exact ⟨_, _, _, rfl, h2⟩
  | _ => exact ⟨_, _, _, rfl, h2⟩

/-- A region no pair of which is to be looked at. -/
theorem w_region {id : Nat} {ops : List Oper} {d : Bool} (hp : E.pairs fid id = []) (h : WR E call ops σ.next 0 ops fr ⟨σ.heap, σ.next + ops.length⟩ fun _ fr σ => Q .normal fr σ) : W E call k fid (.region id ops.toArray d) none fr σ Q := by
  obtain ⟨rs, fr', σ', h1, h2⟩ := h (fun k => by simp)
  refine ⟨.normal, fr', σ', ?_, h2⟩
  rw [← List.range_eq_range'] at h1
  simp only [evC, evRegion, hp, h1, pairsOk, if_true]

theorem w_region_pairs {id : Nat} {ops : List Oper} {d : Bool} (ps : List (Nat × Nat)) (hp : E.pairs fid id = ps) (h : WR E call ops σ.next 0 ops fr ⟨σ.heap, σ.next + ops.length⟩ fun rs fr σ => pairsOk rs ps = true ∧ Q .normal fr σ) :
    W E call k fid (.region id ops.toArray d) none fr σ Q := by
  obtain ⟨rs, fr', σ', h1, h2, h3⟩ := h (fun k => by simp)
  refine ⟨.normal, fr', σ', ?_, h3⟩
  rw [← List.range_eq_range'] at h1
  simp only [evC, evRegion, hp, h1, h2, if_true]
end

/-- Rounds of a loop that are left: so many are enough. -/
def WLoop (E : Env) (call : CallF) (k : Nat) (fid : FuncId) (c : Code) (m : Nat) (fr : List Value) (σ : St) (Q : Ex → List Value → St → Prop) : Prop :=
  ∃ e fr' σ', iter (evC E call k fid c none) m fr σ = some (e, fr', σ') ∧ Q e fr' σ'

def WHop (E : Env) (call : CallF) (k : Nat) (fid : FuncId) (c : Code) (m : Nat) (en : Option Nat) (fr : List Value) (σ : St) (Q : Ex → List Value → St → Prop) : Prop :=
  ∃ e fr' σ', hop (hasLabel c) (evC E call k fid c) m en fr σ = some (e, fr', σ') ∧ Q e fr' σ'

section
variable {E : Env} {call : CallF} {k : Nat} {fid : FuncId} {fr : List Value} {σ : St} {Q : Ex → List Value → St → Prop}
theorem w_loop {c : Code} (h : WLoop E call k fid c k fr σ Q) : W E call k fid (.loop c) none fr σ Q := h
theorem w_scope {c : Code} (h : WHop E call k fid c k none fr σ Q) : W E call k fid (.scope c) none fr σ Q := h

theorem wloop_round {c : Code} {m : Nat} (h : W E call k fid c none fr σ (onward (fun fr σ => WLoop E call k fid c m fr σ Q) Q)) : WLoop E call k fid c (m + 1) fr σ Q := by
  obtain ⟨e, fr', σ', h1, h2⟩ := h
  unfold WLoop
  simp only [iter, h1]
  cases e with
  | normal => exact h2
  | _ => exact ⟨_, _, _, rfl, h2⟩

/-- A jump to a label of the scope goes on there. -/
def jumps (c : Code) (f : Nat → List Value → St → Prop) (Q : Ex → List Value → St → Prop) : Ex → List Value → St → Prop
  | .goto l, fr, σ => if hasLabel c l then f l fr σ else Q (.goto l) fr σ
  | e, fr, σ => Q e fr σ

theorem whop_pass {c : Code} {m : Nat} {en : Option Nat} (h : W E call k fid c en fr σ (jumps c (fun l fr σ => WHop E call k fid c m (some l) fr σ Q) Q)) : WHop E call k fid c (m + 1) en fr σ Q := by
  obtain ⟨e, fr', σ', h1, h2⟩ := h
  unfold WHop
  simp only [hop, h1]
  cases e with
  | goto l =>
    simp only [jumps] at h2
    split at h2
    · rename_i hl; simp only [hl, if_true]; exact h2
    · rename_i hl; simp only [hl]; exact ⟨_, _, _, rfl, h2⟩
  | _ => exact ⟨_, _, _, rfl, h2⟩
end

/-- A function comes to so much. -/
theorem wbody {E : Env} {call : CallF} {k : Nat} {f : FuncId} {fn : Func} {c : Code} {args : List Value} {σ : St} {Q : Value → St → Prop}
    (h : W E call k f c none (args ++ List.replicate (fn.ntmps - args.length) undef) σ fun e fr σ => (e = .normal ∨ e = .ret) ∧ bindV (resOf E fn fr σ) fun v => Q v σ) :
    ∃ v σ', evBody E call k f fn c args σ = some (v, σ') ∧ Q v σ' := by
  obtain ⟨e, fr, σ', h1, h2, v, hv, hq⟩ := h
  refine ⟨v, σ', ?_, hq⟩
  unfold evBody
  rw [h1]
  rcases h2 with rfl | rfl <;> simp [hv]

theorem wfun {E : Env} {k d : Nat} {f : FuncId} {fn : Func} {c : Code} {args : List Value} {σ : St} {Q : Value → St → Prop} (hs : E.sum f args σ = none) (hfn : E.P.funcs[f]? = some fn) (hb : fn.body = some c)
    (h : W E (evFun E k d) k f c none (args ++ List.replicate (fn.ntmps - args.length) undef) σ fun e fr σ => (e = .normal ∨ e = .ret) ∧ bindV (resOf E fn fr σ) fun v => Q v σ) :
    WCall (evFun E k (d + 1)) f args σ Q := by
  obtain ⟨v, σ', h1, h2⟩ := wbody h
  exact ⟨v, σ', by simp only [evFun, hs, hfn, hb]; exact h1, h2⟩
end Go.Ab
