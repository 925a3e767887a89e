/- Stepping by rules whose side conditions are small: what is behind a step is never touched by it. -/
import Derived.Test.YtllffogcdeempaaFwW
set_option linter.all false
open Go.RowKit
namespace Go.Ab

section
variable {E : Env} {call : CallF} {k : Nat} {fid : FuncId} {fr fr' : List Value} {h h' : T} {n n' : Nat} {Q : Ex → List Value → St → Prop} {K : List Value → St → Prop}

/-- The rest of a region, heap and counter told apart. -/
def WX (E : Env) (call : CallF) (ops : List Oper) (base i : Nat) (rest : List Oper) (fr : List Value) (h : T) (n : Nat) (Q : List Rec → List Value → St → Prop) : Prop := WR E call ops base i rest fr ⟨h, n⟩ Q

theorem x_region {id : Nat} {ops : List Oper} {d : Bool} (hp : E.pairs fid id = []) (hl : n + ops.length = n') (hx : WX E call ops n 0 ops fr h n' fun _ fr σ => Q .normal fr σ) : W E call k fid (.region id ops.toArray d) none fr ⟨h, n⟩ Q := by
  subst hl
  exact w_region hp hx

theorem x_region_pairs {id : Nat} {ops : List Oper} {d : Bool} (ps : List (Nat × Nat)) (hp : E.pairs fid id = ps) (hl : n + ops.length = n') (hx : WX E call ops n 0 ops fr h n' fun rs fr σ => pairsOk rs ps = true ∧ Q .normal fr σ) :
    W E call k fid (.region id ops.toArray d) none fr ⟨h, n⟩ Q := by
  subst hl
  exact w_region_pairs ps hp hx

theorem x_nil {ops : List Oper} {base i : Nat} {Q : List Rec → List Value → St → Prop} (hq : Q [] fr ⟨h, n⟩) : WX E call ops base i [] fr h n Q := wr_nil hq

theorem x_op {ops : List Oper} {base i : Nat} {o : Oper} {rest : List Oper} {Q : List Rec → List Value → St → Prop} {e : Eff} {nid j : Nat} (hc : callOf o = none) (hw : Region.wanted o (yieldA ops fr) = true) (hn : base + i = nid) (hj : i + 1 = j)
    (he : evOp E (Opd fr) nid h.get o = some e) (hf : put fr o.dst e.val = fr') (hh : upds h e.upd = h')
    (hx : WX E call ops base j rest fr' h' n fun rs fr1 σ => Q (.mem (fun g => evOp E (Opd fr) nid g o) e :: rs) fr1 σ) : WX E call ops base i (o :: rest) fr h n Q := by
  subst hf hh hn hj
  refine wr_cons ?_
  unfold WStep
  rw [if_pos hw]
  simp only [hc]
  exact ⟨e, he, hx⟩

theorem x_off {ops : List Oper} {base i j : Nat} {o : Oper} {rest : List Oper} {Q : List Rec → List Value → St → Prop} (hw : Region.wanted o (yieldA ops fr) = false) (hj : i + 1 = j) (hf : put fr o.dst undef = fr')
    (hx : WX E call ops base j rest fr' h n fun rs fr1 σ => Q (.quiet :: rs) fr1 σ) : WX E call ops base i (o :: rest) fr h n Q := by
  subst hf hj
  refine wr_cons ?_
  unfold WStep
  rw [if_neg (by simp [hw])]
  exact hx

/-- Whether an operation is wanted hangs on a test. -/
theorem x_test {ops : List Oper} {base i : Nat} {o : Oper} {rest : List Oper} {Q : List Rec → List Value → St → Prop} {b : Bool} (hw : Region.wanted o (yieldA ops fr) = b)
    (h1 : b = true → Region.wanted o (yieldA ops fr) = true → WX E call ops base i (o :: rest) fr h n Q) (h2 : b = false → Region.wanted o (yieldA ops fr) = false → WX E call ops base i (o :: rest) fr h n Q) : WX E call ops base i (o :: rest) fr h n Q := by
  cases b
  · exact h2 rfl hw
  · exact h1 rfl hw

theorem x_test_p {ops : List Oper} {base i : Nat} {o : Oper} {rest : List Oper} {Q : List Rec → List Value → St → Prop} {p : Prop} [Decidable p] (hw : Region.wanted o (yieldA ops fr) = decide p)
    (h1 : p → Region.wanted o (yieldA ops fr) = true → WX E call ops base i (o :: rest) fr h n Q) (h2 : ¬ p → Region.wanted o (yieldA ops fr) = false → WX E call ops base i (o :: rest) fr h n Q) : WX E call ops base i (o :: rest) fr h n Q := by
  by_cases hp : p
  · exact h1 hp (by rw [hw]; exact decide_eq_true hp)
  · exact h2 hp (by rw [hw]; exact decide_eq_false hp)

/-- Behind a call. -/
def PutK (fr : List Value) (d : Option Tmp) (v : Value) (σ : St) (K : List Value → St → Prop) : Prop := K (put fr d v) σ
theorem x_put {d : Option Tmp} {v : Value} {σ : St} (hf : put fr d v = fr') (hk : K fr' σ) : PutK fr d v σ K := by subst hf; exact hk

/-- The rest of a region behind a call. -/
def WXs (E : Env) (call : CallF) (ops : List Oper) (base i : Nat) (rest : List Oper) (fr : List Value) (σ : St) (Q : List Rec → List Value → St → Prop) : Prop := WR E call ops base i rest fr σ Q
theorem x_on {ops : List Oper} {base i : Nat} {rest : List Oper} {Q : List Rec → List Value → St → Prop} (hx : WX E call ops base i rest fr h n Q) : WXs E call ops base i rest fr ⟨h, n⟩ Q := hx

theorem x_call {ops : List Oper} {base i : Nat} {o : Oper} {rest : List Oper} {Q : List Rec → List Value → St → Prop} {f : Operand} {as : List Operand} {g : FuncId} {vs : List Value} {j : Nat} (hc : callOf o = some (f, as)) (hw : Region.wanted o (yieldA ops fr) = true) (hj : i + 1 = j)
    (he : callee? (Opd fr f) (as.map (Opd fr)) = some (g, vs))
    (hx : WCall call g vs ⟨h, n⟩ fun v σ' => PutK fr o.dst v σ' fun fr1 σ1 => WXs E call ops base j rest fr1 σ1 fun rs fr2 σ2 => Q (.call ⟨h, n⟩ σ' :: rs) fr2 σ2) : WX E call ops base i (o :: rest) fr h n Q := by
  subst hj
  refine wr_cons ?_
  unfold WStep
  rw [if_pos hw]
  simp only [hc]
  exact ⟨(g, vs), he, hx⟩

theorem onward_n {σ : St} (hk : K fr σ) : onward K Q .normal fr σ := hk
theorem onward_r {σ : St} (hk : Q .ret fr σ) : onward K Q .ret fr σ := hk
theorem onward_e {σ : St} {i : Nat} (hk : Q (.exit i) fr σ) : onward K Q (.exit i) fr σ := hk
theorem onward_g {σ : St} {i : Nat} (hk : Q (.goto i) fr σ) : onward K Q (.goto i) fr σ := hk
theorem caught_n {σ : St} {id : Nat} (hk : Q .normal fr σ) : caught id Q .normal fr σ := hk
theorem caught_r {σ : St} {id : Nat} (hk : Q .ret fr σ) : caught id Q .ret fr σ := hk
theorem caught_g {σ : St} {id i : Nat} (hk : Q (.goto i) fr σ) : caught id Q (.goto i) fr σ := hk
theorem caught_e {σ : St} {id : Nat} (hk : Q .normal fr σ) : caught id Q (.exit id) fr σ := by simp only [caught, if_true]; exact hk
theorem caught_ne {σ : St} {id i : Nat} (hi : i ≠ id) (hk : Q (.exit i) fr σ) : caught id Q (.exit i) fr σ := by simp only [caught, if_neg hi]; exact hk
theorem jumps_n {σ : St} {c : Code} {f : Nat → List Value → St → Prop} (hk : Q .normal fr σ) : jumps c f Q .normal fr σ := hk
theorem jumps_r {σ : St} {c : Code} {f : Nat → List Value → St → Prop} (hk : Q .ret fr σ) : jumps c f Q .ret fr σ := hk
theorem jumps_e {σ : St} {c : Code} {i : Nat} {f : Nat → List Value → St → Prop} (hk : Q (.exit i) fr σ) : jumps c f Q (.exit i) fr σ := hk
theorem jumps_g {σ : St} {c : Code} {l : Nat} {f : Nat → List Value → St → Prop} (hl : hasLabel c l = true) (hk : f l fr σ) : jumps c f Q (.goto l) fr σ := by simp only [jumps, if_pos hl]; exact hk
theorem jumps_ng {σ : St} {c : Code} {l : Nat} {f : Nat → List Value → St → Prop} (hl : hasLabel c l = false) (hk : Q (.goto l) fr σ) : jumps c f Q (.goto l) fr σ := by simp only [jumps, hl]; exact hk

theorem fin_r {σ : St} {rs : List ResultVar} {v : Value} {R : Value → Prop} (hr : resR E fr σ rs = some v) (hk : R v) : (Ex.ret = .normal ∨ Ex.ret = .ret) ∧ bindV (resR E fr σ rs) R := ⟨.inr rfl, v, hr, hk⟩
theorem fin_n {σ : St} {rs : List ResultVar} {v : Value} {R : Value → Prop} (hr : resR E fr σ rs = some v) (hk : R v) : (Ex.normal = .normal ∨ Ex.normal = .ret) ∧ bindV (resR E fr σ rs) R := ⟨.inl rfl, v, hr, hk⟩

/-- A call of a function of the table. -/
theorem x_tbl {t : Tbl} {d : Nat} {f : FuncId} {s : List Value → Option Value} {args : List Value} {v : Value} {R : Value → St → Prop} {σ : St}
    (hcall : WCall (evFunT E t k d) f args σ R = bindV (s args) fun v => R v σ) (hv : s args = some v) (hk : R v σ) : WCall (evFunT E t k d) f args σ R := by
  rw [hcall]
  exact ⟨v, hv, hk⟩

theorem x_fun {t : Tbl} {d : Nat} {f : FuncId} {fn : Func} {c : Code} {args : List Value} {σ : St} {R : Value → St → Prop} (m : Nat) (rs : List ResultVar) (ht : hasT t f = false) (hfn : E.P.funcs[f]? = some fn) (hb : fn.body = some c) (hn : fn.ntmps = m) (hr : fn.results.toList = rs)
    (hf : args ++ List.replicate (m - args.length) undef = fr)
    (hx : W E (evFunT E t k d) k f c none fr σ fun e fr σ => (e = .normal ∨ e = .ret) ∧ bindV (resR E fr σ rs) fun v => R v σ) :
    WCall (evFunT E t k (d + 1)) f args σ R := by
  subst hf
  exact wfunT m rs ht hfn hb hn hr hx

theorem x_cond_t {c : Operand} {x y : Code} {σ : St} (hc : Opd fr c = .bool true) (hx : W E call k fid x none fr σ Q) : W E call k fid (.cond c x y) none fr σ Q := w_cond_t hc rfl hx
theorem x_cond_f {c : Operand} {x y : Code} {σ : St} (hc : Opd fr c = .bool false) (hx : W E call k fid y none fr σ Q) : W E call k fid (.cond c x y) none fr σ Q := w_cond_f hc rfl hx
theorem x_cond_b {c : Operand} {x y : Code} {σ : St} {b : Bool} (hc : Opd fr c = .bool b) (h1 : b = true → W E call k fid x none fr σ Q) (h2 : b = false → W E call k fid y none fr σ Q) : W E call k fid (.cond c x y) none fr σ Q := w_cond hc h1 h2
end

/-! Heaps written again at one place. -/
theorem T.setF_same : ∀ (k : Nat) (t : T) (n : Nat) (x y : Option Blk), n < k → T.setF k (T.setF k t n x) n y = T.setF k t n y := by
  intro k
  induction k with
  | zero => intro t n x y h; omega
  | succ k ih =>
    intro t n x y h
    by_cases h0 : n = 0
    · subst h0; cases t <;> simp [T.setF]
    · by_cases h1 : n % 2 = 1 <;> cases t <;> simp only [T.setF, h0, h1, if_false, if_true] <;> rw [ih _ _ _ _ (by omega)]
theorem set_same {t : T} {n : Nat} {x y : Option Blk} : (t.set n x).set n y = t.set n y := T.setF_same _ _ _ _ _ (by omega)
theorem set_same1 {t : T} {n m : Nat} {x y z : Option Blk} : ((t.set n x).set m z).set n y = (t.set m z).set n y := by
  by_cases h : n = m
  · subst h; simp only [set_same]
  · rw [T.set_comm t n m x z h, set_same]
theorem set_same2 {t : T} {n m p : Nat} {x y z u : Option Blk} : (((t.set n x).set m z).set p u).set n y = ((t.set m z).set p u).set n y := by
  by_cases h : n = p
  · subst h; rw [set_same, set_same]; exact set_same1
  · rw [T.set_comm _ p n u y (Ne.symm h), set_same1, T.set_comm _ n p y u h]
theorem set_same3 {t : T} {n m p q : Nat} {x y z u v : Option Blk} : ((((t.set n x).set m z).set p u).set q v).set n y = (((t.set m z).set p u).set q v).set n y := by
  by_cases h : n = q
  · subst h; rw [set_same, set_same]; exact set_same2
  · rw [T.set_comm _ q n v y (Ne.symm h), set_same2, T.set_comm _ n q y v h]

theorem bsz {a : Array UInt8} : (ByteArray.mk a).size = a.size := rfl
theorem tmod_pos {a b : Int} (h : 0 ≤ a) : a.tmod b = a % b := Int.tmod_eq_emod_of_nonneg h
theorem tdiv_pos {a b : Int} (h : 0 ≤ a) : a.tdiv b = a / b := Int.tdiv_eq_ediv_of_nonneg h
end Go.Ab
