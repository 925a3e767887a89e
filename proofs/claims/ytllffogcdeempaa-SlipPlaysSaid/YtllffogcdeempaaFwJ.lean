/- Regions: whatever order the model picks, it comes to what the order of the text comes to. -/
import Derived.Test.YtllffogcdeempaaFwI
set_option linter.all false
open Go.RowKit
namespace Go.Ab

/-! ### What is looked at once, in the text -/

def okOpd : Operand → Bool
  | .tmp _ | .func _ => true
  | .const v => scalar v
  | .global _ => false

def okOper (o : Oper) : Bool := o.op.operands.toList.all okOpd

def kind (P : Program) (o : Oper) : Nat :=
  match o.op with
  | .load .. => 1
  | .slice t _ _ _ _ => if isSl P t then 1 else 0
  | .store .. | .alloc _ | .box .. | .buildSlice .. | .makeSlice .. => 2
  | .convert src dst _ => if isSl P src || isSl P dst then 2 else 0
  | .call { callee := .builtin b, .. } => match b with | .len | .min | .max => 0 | _ => 2
  | .call _ => 3
  | _ => 0

def harmless (P : Program) (x y : Oper) : Bool := kind P x == 0 || kind P y == 0 || (kind P x == 1 && kind P y == 1)

def bitsOf (cl : List Nat) : List Edge → Nat
  | [] => 0
  | e :: r => if Region.binds .any e then 2 ^ e.on ||| (cl.getD e.on 0 ||| bitsOf cl r) else bitsOf cl r

def closFrom (cl : List Nat) : List Oper → List Nat
  | [] => cl
  | o :: r => closFrom (cl ++ [bitsOf cl o.after.toList]) r

def edgesOk (o : Oper) (i : Nat) : Bool := o.after.toList.all fun e => !Region.binds .any e || decide (e.on < i)

def pairOk (P : Program) (ops : Array Oper) (ps : List (Nat × Nat)) (cl : List Nat) (i j : Nat) : Bool :=
  match ops[i]?, ops[j]? with
  | some x, some y => (cl.getD j 0).testBit i || (x.apart ops y && (harmless P x y || ps.contains (i, j)))
  | _, _ => false

/-- A region that draws its order may be gone through in the order of the text, the pairs 'ps' being looked at as it runs. -/
def drawOk (P : Program) (ops : Array Oper) (ps : List (Nat × Nat)) : Bool :=
  let cl := closFrom [] ops.toList
  (ops.toList.zipIdx.all fun x => edgesOk x.1 x.2) && ps.all (fun p => decide (p.1 < p.2)) &&
  (List.range ops.size).all fun j => (List.range j).all fun i => pairOk P ops ps cl i j

inductive Anc (ops : Array Oper) (i : Nat) : Nat → Prop
  | one (j : Nat) (o : Oper) (e : Edge) (ho : ops[j]? = some o) (he : e ∈ o.after.toList) (hb : Region.binds .any e = true) (hi : e.on = i) : Anc ops i j
  | step (j : Nat) (o : Oper) (e : Edge) (ho : ops[j]? = some o) (he : e ∈ o.after.toList) (hb : Region.binds .any e = true) (h : Anc ops i e.on) : Anc ops i j

theorem bitsOf_spec (ops : Array Oper) (cl : List Nat) (hcl : ∀ j i, (cl.getD j 0).testBit i = true → Anc ops i j) (j : Nat) (o : Oper) (ho : ops[j]? = some o) :
    ∀ (es : List Edge), (∀ e ∈ es, e ∈ o.after.toList) → ∀ i, (bitsOf cl es).testBit i = true → Anc ops i j := by
  intro es
  induction es with
  | nil => intro _ i h; simp [bitsOf] at h
  | cons e r ih =>
    intro hm i h
    simp only [bitsOf] at h
    have hr := ih (fun x hx => hm x (List.mem_cons_of_mem _ hx)) i
    split at h
    · rename_i hb
      simp only [Nat.testBit_or, Bool.or_eq_true] at h
      rcases h with h | h | h
      · rw [Nat.testBit_two_pow] at h
        exact .one j o e ho (hm e (by simp)) hb (by simpa using h)
      · exact .step j o e ho (hm e (by simp)) hb (hcl _ _ h)
      · exact hr h
    · exact hr h

theorem closFrom_spec (ops : Array Oper) : ∀ (l : List Oper) (cl : List Nat), (∀ k, l[k]? = ops[cl.length + k]?) → (∀ j i, (cl.getD j 0).testBit i = true → Anc ops i j) →
    ∀ j i, ((closFrom cl l).getD j 0).testBit i = true → Anc ops i j := by
  intro l
  induction l with
  | nil => intro cl _ h; exact h
  | cons o r ih =>
    intro cl hl h
    simp only [closFrom]
    have ho : ops[cl.length]? = some o := by simpa using (hl 0).symm
    refine ih _ (fun k => ?_) (fun j i hb => ?_)
    · have := hl (k + 1)
      simp at this
      rw [this]
      congr 1
      simp
      omega
    · by_cases hj : j < cl.length
      · refine h j i ?_
        have e : (cl ++ [bitsOf cl o.after.toList]).getD j 0 = cl.getD j 0 := by
          simp only [List.getD]
          rw [List.getElem?_append_left hj]
        rw [e] at hb
        exact hb
      · by_cases hj2 : j = cl.length
        · subst hj2
          have e : (cl ++ [bitsOf cl o.after.toList]).getD cl.length 0 = bitsOf cl o.after.toList := by simp [List.getD]
          rw [e] at hb
          exact bitsOf_spec ops cl h _ o ho _ (fun e he => he) i hb
        · have e : (cl ++ [bitsOf cl o.after.toList]).getD j 0 = 0 := by
            simp only [List.getD]
            rw [List.getElem?_eq_none (by simp; omega)]
            rfl
          rw [e] at hb
          simp at hb

/-! ### Two operations that have nothing to do with each other -/

def IndepP : Rec → Rec → Prop
  | .quiet, _ => True
  | _, .quiet => True
  | .mem _ e, .mem _ e' => (∀ b ∈ e.upd.map (·.1), b ∉ e'.rds ∧ b ∉ e'.upd.map (·.1)) ∧ ∀ b ∈ e'.upd.map (·.1), b ∉ e.rds
  | .mem f e, .call b a => e.upd = [] ∧ f b.heap.get = some e ∧ f a.heap.get = some e
  | .call b a, .mem f e => allocOnly e = true ∨ (e.upd = [] ∧ f b.heap.get = some e ∧ f a.heap.get = some e)
  | .call .., .call .. => False

/-- A call that stays right when one more block lies on the heap. -/
def Mono (call : CallF) : Prop := ∀ (f : FuncId) (args : List Value) (σ : St) (v : Value) (σ' : St) (n : Nat) (x : Option Blk), σ.heap.get n = none → n < σ.next → call f args σ = some (v, σ') →
  σ'.heap.get n = none ∧ σ.next ≤ σ'.next ∧ call f args ⟨σ.heap.set n x, σ.next⟩ = some (v, ⟨σ'.heap.set n x, σ'.next⟩)

/-- The same record, with one more block on the heap. -/
def Grown (n : Nat) (x : Option Blk) : Rec → Rec → Prop
  | .quiet, .quiet => True
  | .mem f e, .mem f' e' => f' = f ∧ e' = e
  | .call b a, .call b' a' => b.heap.get n = none ∧ a.heap.get n = none ∧ b' = ⟨b.heap.set n x, b.next⟩ ∧ a' = ⟨a.heap.set n x, a.next⟩
  | _, _ => False

def RecMono : Rec → Prop
  | .mem f _ => ∀ (g g' : Nat → Option Blk), (∀ b x, g b = some x → g' b = some x) → ∀ e, f g = some e → f g' = some e
  | _ => True

theorem set_ext {h : T} {n : Nat} {x : Option Blk} (hn : h.get n = none) : ∀ b y, h.get b = some y → (h.set n x).get b = some y := by
  intro b y hb
  rw [T.get_set_ne _ _ _ _ (by intro e; subst e; rw [hn] at hb; cases hb)]
  exact hb

theorem IndepP.grow_r {n : Nat} {x : Option Blk} {h r r' : Rec} (hm : RecMono h) (hi : IndepP h r) (hg : Grown n x r r') : IndepP h r' := by
  cases r <;> cases r' <;> simp only [Grown] at hg
  · exact hi
  · obtain ⟨rfl, rfl⟩ := hg; exact hi
  · obtain ⟨h1, h2, rfl, rfl⟩ := hg
    cases h with
    | quiet => trivial
    | call b a => exact hi.elim
    | mem f e =>
      obtain ⟨q1, q2, q3⟩ := hi
      exact ⟨q1, hm _ _ (set_ext h1) _ q2, hm _ _ (set_ext h2) _ q3⟩

theorem IndepP.grow_l {n : Nat} {x : Option Blk} {h r r' : Rec} (hm : RecMono h) (hi : IndepP r h) (hg : Grown n x r r') : IndepP r' h := by
  cases r <;> cases r' <;> simp only [Grown] at hg
  · exact hi
  · obtain ⟨rfl, rfl⟩ := hg; exact hi
  · obtain ⟨h1, h2, rfl, rfl⟩ := hg
    cases h with
    | quiet => trivial
    | call b a => exact hi.elim
    | mem f e =>
      rcases hi with hi | ⟨q1, q2, q3⟩
      · exact .inl hi
      · exact .inr ⟨q1, hm _ _ (set_ext h1) _ q2, hm _ _ (set_ext h2) _ q3⟩

theorem beqF_eq {a b : Value} (h : beqF a b = true) : a = b := by
  unfold beqF at h
  split at h <;> simp_all

theorem beqL_eq : ∀ {a b : List Value}, beqL a b = true → a = b
  | [], [], _ => rfl
  | [], _ :: _, h => by simp [beqL] at h
  | _ :: _, [], h => by simp [beqL] at h
  | x :: a, y :: b, h => by
    simp only [beqL, Bool.and_eq_true] at h
    rw [beqF_eq h.1, beqL_eq h.2]

theorem beqV_eq {a b : Value} (h : beqV a b = true) : a = b := by
  unfold beqV at h
  split at h
  · rw [show _ = _ from Array.ext' (beqL_eq h)]
  · exact beqF_eq h

theorem effSame_spec {e : Eff} (h0 : e.upd = []) {x : Option Eff} (h : effSame e x = true) : x = some e := by
  unfold effSame at h
  split at h
  · rename_i e'
    simp only [Bool.and_eq_true, List.isEmpty_iff, beq_iff_eq] at h
    obtain ⟨h1, h2, h3⟩ := h
    have := beqV_eq h3
    cases e; cases e'
    simp_all
  · cases h

theorem disj_spec {a b : List Nat} (h : disj a b = true) : ∀ x ∈ a, x ∉ b := by
  intro x hx hb
  unfold disj at h
  have := List.all_eq_true.1 h x hx
  simp at this
  exact this hb

theorem indep_spec {r r' : Rec} (h : indep r r' = true) : IndepP r r' := by
  cases r <;> cases r' <;> simp only [indep, IndepP, Bool.and_eq_true] at h ⊢
  · obtain ⟨h1, h2⟩ := h
    refine ⟨fun b hb => ?_, disj_spec h2⟩
    have := disj_spec h1 b hb
    simp only [List.mem_append, not_or] at this
    exact this
  · obtain ⟨h1, h2, h3⟩ := h
    have h0 : _ = [] := List.isEmpty_iff.1 h1
    exact ⟨h0, effSame_spec h0 h2, effSame_spec h0 h3⟩
  · simp only [Bool.or_eq_true, Bool.and_eq_true] at h
    rcases h with h | ⟨h1, h2, h3⟩
    · exact .inl h
    · have h0 : _ = [] := List.isEmpty_iff.1 h1
      exact .inr ⟨h0, effSame_spec h0 h2, effSame_spec h0 h3⟩
  · cases h

theorem upds_get (t : T) : ∀ (l : List (Nat × Option Blk)) (b : Nat), b ∉ l.map (·.1) → (upds t l).get b = t.get b := by
  intro l
  induction l generalizing t with
  | nil => intro b _; rfl
  | cons x l ih =>
    intro b hb
    obtain ⟨n, v⟩ := x
    simp only [List.map_cons, List.mem_cons, not_or] at hb
    simp only [upds]
    rw [ih _ b hb.2, T.get_set_ne _ _ _ _ hb.1]

theorem upds_set (t : T) (n : Nat) (v : Option Blk) : ∀ (l : List (Nat × Option Blk)), n ∉ l.map (·.1) → upds (t.set n v) l = (upds t l).set n v := by
  intro l
  induction l generalizing t with
  | nil => intro _; rfl
  | cons x l ih =>
    intro h
    obtain ⟨m, u⟩ := x
    simp only [List.map_cons, List.mem_cons, not_or] at h
    simp only [upds]
    rw [T.set_comm _ _ _ _ _ h.1, ih _ h.2]

theorem upds_comm (t : T) : ∀ (l k : List (Nat × Option Blk)), (∀ b ∈ l.map (·.1), b ∉ k.map (·.1)) → upds (upds t l) k = upds (upds t k) l := by
  intro l
  induction l generalizing t with
  | nil => intro k _; rfl
  | cons x l ih =>
    intro k h
    obtain ⟨n, v⟩ := x
    simp only [upds]
    rw [ih _ k (fun b hb => h b (by simp at hb ⊢; right; exact hb)), upds_set _ _ _ k (h n (by simp))]

theorem put_get (fr : List Value) (dst : Option Tmp) (v : Value) (t : Nat) (h : dst ≠ some t) : (put fr dst v)[t]? = fr[t]? := by
  cases dst with
  | none => rfl
  | some d =>
    have : d ≠ t := fun e => h (by rw [e])
    simp [put, List.getElem?_set_ne this]

theorem Opd_put (fr : List Value) (dst : Option Tmp) (v : Value) (x : Operand) (h : ∀ d, dst = some d → x ≠ .tmp d) : Opd (put fr dst v) x = Opd fr x := by
  cases x with
  | tmp t =>
    have : dst ≠ some t := fun e => h t e rfl
    simp only [Opd, List.getD]
    rw [put_get fr dst v t this]
  | _ => rfl

theorem put_comm' (fr : List Value) (x y : Option Tmp) (v u : Value) (h : ∀ d, x = some d → y ≠ some d) : put (put fr x v) y u = put (put fr y u) x v := by
  cases x with
  | none => rfl
  | some d =>
    cases y with
    | none => rfl
    | some e =>
      have : d ≠ e := fun he => h d rfl (by rw [he])
      simp only [put]
      exact List.set_comm _ _ this

theorem yieldA_put (ops : Array Oper) (fr : List Value) (dst : Option Tmp) (v : Value) (o : Oper) (h : ∀ d, dst = some d → d ∉ o.looksAt ops) :
    Region.wanted o (yieldA ops.toList (put fr dst v)) = Region.wanted o (yieldA ops.toList fr) := by
  unfold Region.wanted
  cases hg : o.guard with
  | none => rfl
  | some jw =>
    obtain ⟨j, w⟩ := jw
    simp only
    have : yieldA ops.toList (put fr dst v) j = yieldA ops.toList fr j := by
      unfold yieldA
      simp only [Array.getElem?_toList]
      cases hd : (ops[j]?).bind (·.dst) with
      | none => rfl
      | some t =>
        have hne : dst ≠ some t := by
          intro e
          refine h t e ?_
          simp [Oper.looksAt, hg, hd]
        simp only [Option.bind_some]
        rw [put_get _ _ _ _ hne]
    rw [this]

theorem opds_put (ops : Array Oper) (fr : List Value) (dst : Option Tmp) (v : Value) (o : Oper) (h : ∀ d, dst = some d → d ∉ o.looksAt ops) :
    ∀ x ∈ o.op.operands, Opd (put fr dst v) x = Opd fr x := by
  intro x hx
  refine Opd_put _ _ _ _ fun d hd hxd => h d hd ?_
  subst hxd
  simp only [Oper.looksAt, List.mem_append, List.mem_filterMap]
  exact .inl ⟨_, by simpa using hx, rfl⟩

theorem map_opds {fr fr' : List Value} (l : List Operand) (h : ∀ x ∈ l, Opd fr' x = Opd fr x) : l.map (Opd fr') = l.map (Opd fr) := List.map_congr_left h

/-- One step, its record. -/
theorem step1_put {E : Env} {call : CallF} {ops : Array Oper} {base i : Nat} {o : Oper} (ho : ops[i]? = some o) (fr : List Value) (dst : Option Tmp) (v : Value) (h : ∀ d, dst = some d → d ∉ o.looksAt ops)
    (h2 : ∀ d, dst = some d → o.dst ≠ some d) {σ : St} {r : Rec} {fr' : List Value} {σ' : St} (hs : step1 E call ops.toList base i fr σ = some (r, fr', σ')) :
    step1 E call ops.toList base i (put fr dst v) σ = some (r, put fr' dst v, σ') := by
  unfold step1 at hs ⊢
  simp only [Array.getElem?_toList, ho] at hs ⊢
  rw [yieldA_put ops fr dst v o h]
  have hop := opds_put ops fr dst v o h
  split at hs
  · rename_i hw
    rw [if_pos hw]
    cases hc : callOf o with
    | some fa =>
      obtain ⟨f, args⟩ := fa
      obtain ⟨ats, aarr, hoc, rfl⟩ : ∃ ats aarr, o.op = .call { callee := .value f, args := aarr, argTypes := ats } ∧ args = aarr.toList := by
        unfold callOf at hc
        split at hc
        · rename_i f' as' ats hoc; cases hc; exact ⟨ats, as', hoc, rfl⟩
        · cases hc
      simp only [hc] at hs ⊢
      have hf : Opd (put fr dst v) f = Opd fr f := hop f (by simp [hoc, Op.operands, Call.operands])
      have ha : aarr.toList.map (Opd (put fr dst v)) = aarr.toList.map (Opd fr) := map_opds _ fun x hx => hop x (by simp at hx; simp [hoc, Op.operands, Call.operands, hx])
      rw [hf, ha]
      split at hs
      · rename_i f' as' hce
        try simp only [hce]
        split at hs
        · rename_i v' σ2 hcall
          cases hs
          try simp only [hcall]
          rw [put_comm' _ _ _ _ _ h2]
        · cases hs
      · cases hs
    | none =>
      simp only [hc] at hs ⊢
      have hev : ∀ g, evOp E (Opd (put fr dst v)) (base + i) g o = evOp E (Opd fr) (base + i) g o := fun g => evOp_opds hop
      split at hs
      · rename_i e he
        cases hs
        rw [hev, he]
        simp only
        rw [put_comm' _ _ _ _ _ h2]
        congr 2
        congr 1
        funext g
        exact hev g
      · cases hs
  · rename_i hw
    rw [if_neg hw]
    cases hs
    rw [put_comm' _ _ _ _ _ h2]

theorem apart_sym {ops : Array Oper} {x y : Oper} (h : x.apart ops y = true) : (∀ d, x.dst = some d → d ∉ y.looksAt ops) ∧ (∀ d, y.dst = some d → d ∉ x.looksAt ops) ∧ (∀ d, x.dst = some d → y.dst ≠ some d) ∧ (∀ d, y.dst = some d → x.dst ≠ some d) := by
  obtain ⟨h1, h2, h3⟩ := Oper.apart_spec h
  exact ⟨h1, h3, h2, fun d hd he => h2 d he hd⟩

theorem step1_quiet {E : Env} {call : CallF} {ops : Array Oper} {base i : Nat} {fr fr' : List Value} {σ σ' : St} (h : step1 E call ops.toList base i fr σ = some (.quiet, fr', σ')) :
    ∃ o, ops[i]? = some o ∧ Region.wanted o (yieldA ops.toList fr) = false ∧ fr' = put fr o.dst undef ∧ σ' = σ := by
  unfold step1 at h
  simp only [Array.getElem?_toList] at h
  split at h
  · cases h
  · rename_i o ho
    split at h
    · split at h
      · split at h
        · split at h <;> cases h
        · cases h
      · split at h <;> cases h
    · rename_i hw
      cases h
      exact ⟨o, ho, by simpa using hw, rfl, rfl⟩

theorem step1_mem {E : Env} {call : CallF} {ops : Array Oper} {base i : Nat} {fr fr' : List Value} {σ σ' : St} {f : (Nat → Option Blk) → Option Eff} {e : Eff} (h : step1 E call ops.toList base i fr σ = some (.mem f e, fr', σ')) :
    ∃ o, ops[i]? = some o ∧ Region.wanted o (yieldA ops.toList fr) = true ∧ callOf o = none ∧ f = (fun g => evOp E (Opd fr) (base + i) g o) ∧ f σ.heap.get = some e ∧ fr' = put fr o.dst e.val ∧ σ' = ⟨upds σ.heap e.upd, σ.next⟩ := by
  unfold step1 at h
  simp only [Array.getElem?_toList] at h
  split at h
  · cases h
  · rename_i o ho
    split at h
    · rename_i hw
      split at h
      · split at h
        · split at h <;> cases h
        · cases h
      · rename_i hc
        split at h
        · rename_i e' he
          cases h
          exact ⟨o, ho, hw, hc, rfl, he, rfl, rfl⟩
        · cases h
    · cases h

theorem step1_call {E : Env} {call : CallF} {ops : Array Oper} {base i : Nat} {fr fr' : List Value} {σ σ' b a : St} (h : step1 E call ops.toList base i fr σ = some (.call b a, fr', σ')) :
    ∃ o f args fid as v, ops[i]? = some o ∧ Region.wanted o (yieldA ops.toList fr) = true ∧ callOf o = some (f, args) ∧ callee? (Opd fr f) (args.map (Opd fr)) = some (fid, as) ∧ call fid as σ = some (v, σ') ∧ b = σ ∧ a = σ' ∧ fr' = put fr o.dst v := by
  unfold step1 at h
  simp only [Array.getElem?_toList] at h
  split at h
  · cases h
  · rename_i o ho
    split at h
    · rename_i hw
      split at h
      · rename_i f args hc
        split at h
        · rename_i fid as hce
          split at h
          · rename_i v σ2 hcall
            cases h
            exact ⟨o, f, args, fid, as, v, ho, hw, hc, hce, hcall, rfl, rfl, rfl⟩
          · cases h
        · cases h
      · split at h <;> cases h
    · cases h

theorem mk_quiet {E : Env} {call : CallF} {ops : Array Oper} {base i : Nat} {fr : List Value} {σ : St} {o : Oper} (ho : ops[i]? = some o) (hw : Region.wanted o (yieldA ops.toList fr) = false) :
    step1 E call ops.toList base i fr σ = some (.quiet, put fr o.dst undef, σ) := by
  unfold step1; simp [ho, hw]

theorem mk_mem {E : Env} {call : CallF} {ops : Array Oper} {base i : Nat} {fr : List Value} {σ : St} {o : Oper} {e : Eff} (ho : ops[i]? = some o) (hw : Region.wanted o (yieldA ops.toList fr) = true) (hc : callOf o = none)
    (he : evOp E (Opd fr) (base + i) σ.heap.get o = some e) :
    step1 E call ops.toList base i fr σ = some (.mem (fun g => evOp E (Opd fr) (base + i) g o) e, put fr o.dst e.val, ⟨upds σ.heap e.upd, σ.next⟩) := by
  unfold step1; simp [ho, hw, hc, he]

theorem mk_call {E : Env} {call : CallF} {ops : Array Oper} {base i : Nat} {fr : List Value} {σ σ' : St} {o : Oper} {f : Operand} {args : List Operand} {fid : FuncId} {as : List Value} {v : Value} (ho : ops[i]? = some o)
    (hw : Region.wanted o (yieldA ops.toList fr) = true) (hc : callOf o = some (f, args)) (hce : callee? (Opd fr f) (args.map (Opd fr)) = some (fid, as)) (hcall : call fid as σ = some (v, σ')) :
    step1 E call ops.toList base i fr σ = some (.call σ σ', put fr o.dst v, σ') := by
  unfold step1; simp [ho, hw, hc, hce, hcall]

/-- Two steps that have nothing to do with each other, in the other order. -/
theorem swap {E : Env} {call : CallF} (hmono : Mono call) {ops : Array Oper} {base i j : Nat} {oi oj : Oper} (hi : ops[i]? = some oi) (hj : ops[j]? = some oj) (hap : oi.apart ops oj = true)
    {fr fr1 fr2 : List Value} {σ σ1 σ2 : St} {ri rj : Rec} (h1 : step1 E call ops.toList base i fr σ = some (ri, fr1, σ1)) (h2 : step1 E call ops.toList base j fr1 σ1 = some (rj, fr2, σ2)) (hind : IndepP ri rj)
    (hfj : σ.heap.get (base + j) = none) (hnj : base + j < σ.next) :
    ∃ fr1' σ1' ri', step1 E call ops.toList base j fr σ = some (rj, fr1', σ1') ∧ step1 E call ops.toList base i fr1' σ1' = some (ri', fr2, σ2) ∧ (ri' = ri ∨ ∃ x, Grown (base + j) x ri ri') := by
  obtain ⟨a1, a2, a3, a4⟩ := apart_sym hap
  -- taking back what i wrote into the frame
  have back : ∀ (v : Value), fr1 = put fr oi.dst v → ∀ (σ' : St) (r : Rec) (fr' : List Value) (σ'' : St), step1 E call ops.toList base j fr1 σ' = some (r, fr', σ'') →
      ∃ frj, step1 E call ops.toList base j fr σ' = some (r, frj, σ'') ∧ fr' = put frj oi.dst v := by
    intro v hv σ' r fr' σ'' h
    subst hv
    have hy := yieldA_put ops fr oi.dst v oj a1
    have hop := opds_put ops fr oi.dst v oj a1
    cases r with
    | quiet =>
      obtain ⟨o, ho, hw, rfl, rfl⟩ := step1_quiet h
      rw [hj] at ho; cases ho
      rw [hy] at hw
      exact ⟨_, mk_quiet hj hw, put_comm' _ _ _ _ _ a3⟩
    | mem f e =>
      obtain ⟨o, ho, hw, hc, rfl, he, rfl, rfl⟩ := step1_mem h
      rw [hj] at ho; cases ho
      rw [hy] at hw
      have hev : ∀ g, evOp E (Opd (put fr oi.dst v)) (base + j) g oj = evOp E (Opd fr) (base + j) g oj := fun g => evOp_opds hop
      have hfun : (fun g => evOp E (Opd (put fr oi.dst v)) (base + j) g oj) = fun g => evOp E (Opd fr) (base + j) g oj := funext hev
      have he' : evOp E (Opd fr) (base + j) σ'.heap.get oj = some e := by rw [← hev]; exact he
      rw [hfun]
      exact ⟨_, mk_mem hj hw hc he', put_comm' _ _ _ _ _ a3⟩
    | call b a =>
      obtain ⟨o, f, args, fid, as, u, ho, hw, hc, hce, hcall, rfl, rfl, rfl⟩ := step1_call h
      rw [hj] at ho; cases ho
      rw [hy] at hw
      obtain ⟨ats, aarr, hoc, rfl⟩ : ∃ ats aarr, oj.op = .call { callee := .value f, args := aarr, argTypes := ats } ∧ args = aarr.toList := by
        unfold callOf at hc
        split at hc
        · rename_i f' as' ats hoc; cases hc; exact ⟨ats, as', hoc, rfl⟩
        · cases hc
      have hf : Opd (put fr oi.dst v) f = Opd fr f := hop f (by simp [hoc, Op.operands, Call.operands])
      have ha : aarr.toList.map (Opd (put fr oi.dst v)) = aarr.toList.map (Opd fr) := map_opds _ fun x hx => hop x (by simp at hx; simp [hoc, Op.operands, Call.operands, hx])
      rw [hf, ha] at hce
      exact ⟨_, mk_call hj hw hc hce hcall, put_comm' _ _ _ _ _ a3⟩
  cases ri with
  | quiet =>
    obtain ⟨o, ho, hw, rfl, rfl⟩ := step1_quiet h1
    rw [hi] at ho; cases ho
    obtain ⟨frj, hsj, rfl⟩ := back _ rfl _ _ _ _ h2
    refine ⟨frj, σ2, _, hsj, ?_, .inl rfl⟩
    have hq := mk_quiet (E := E) (call := call) (base := base) (σ := σ2) hi hw
    cases rj with
    | quiet =>
      obtain ⟨o, ho, _, rfl, rfl⟩ := step1_quiet hsj
      rw [hj] at ho; cases ho
      have := step1_put hi fr oj.dst undef a2 a4 hq
      rwa [put_comm' _ _ _ _ _ a3] at this
    | mem f e =>
      obtain ⟨o, ho, _, _, rfl, _, rfl, rfl⟩ := step1_mem hsj
      rw [hj] at ho; cases ho
      have := step1_put hi fr oj.dst e.val a2 a4 hq
      rwa [put_comm' _ _ _ _ _ a3] at this
    | call b a =>
      obtain ⟨o, _, _, _, _, u, ho, _, _, _, _, _, _, rfl⟩ := step1_call hsj
      rw [hj] at ho; cases ho
      have := step1_put hi fr oj.dst u a2 a4 hq
      rwa [put_comm' _ _ _ _ _ a3] at this
  | mem f e =>
    obtain ⟨o, ho, hw, hc, rfl, he, rfl, rfl⟩ := step1_mem h1
    rw [hi] at ho; cases ho
    obtain ⟨frj, hsj, rfl⟩ := back _ rfl _ _ _ _ h2
    cases rj with
    | quiet =>
      obtain ⟨o, ho, hwj, rfl, rfl⟩ := step1_quiet hsj
      rw [hj] at ho; cases ho
      refine ⟨_, _, _, mk_quiet hj hwj, ?_, .inl rfl⟩
      have := step1_put hi fr oj.dst undef a2 a4 (mk_mem (call := call) hi hw hc he)
      rwa [put_comm' _ _ _ _ _ a3] at this
    | mem f' e' =>
      obtain ⟨o, ho, hwj, hcj, rfl, hej, rfl, rfl⟩ := step1_mem hsj
      rw [hj] at ho; cases ho
      obtain ⟨d1, d2⟩ := hind
      have hej' : evOp E (Opd fr) (base + j) σ.heap.get oj = some e' := by
        refine evOp_local hej fun b hb => ?_
        rw [upds_get _ _ _ (fun hm => (d1 b hm).1 hb)]
      refine ⟨_, _, _, mk_mem hj hwj hcj hej', ?_, .inl rfl⟩
      have hei : evOp E (Opd fr) (base + i) (upds σ.heap e'.upd).get oi = some e := by
        refine evOp_local he fun b hb => ?_
        rw [upds_get _ _ _ (fun hm => d2 b hm hb)]
      have := step1_put hi fr oj.dst e'.val a2 a4 (mk_mem (call := call) (σ := ⟨upds σ.heap e'.upd, σ.next⟩) hi hw hc hei)
      rw [put_comm' _ _ _ _ _ a3] at this
      rw [this]
      simp only
      rw [upds_comm _ _ _ (fun b hb hb' => (d1 b hb').2 hb)]
    | call b a =>
      obtain ⟨o, f, args, fid, as, u, ho, hwj, hcj, hce, hcall, hb, ha, rfl⟩ := step1_call hsj
      rw [hj] at ho; cases ho
      obtain ⟨d0, d1, d2⟩ := hind
      have hσ : (⟨upds σ.heap e.upd, σ.next⟩ : St) = σ := by rw [d0]; rfl
      rw [hσ] at hcall hb
      subst hb
      subst ha
      refine ⟨_, _, _, mk_call hj hwj hcj hce hcall, ?_, .inl rfl⟩
      have := step1_put hi fr oj.dst u a2 a4 (mk_mem (call := call) (σ := a) hi hw hc d2)
      rw [put_comm' _ _ _ _ _ a3] at this
      rw [this]
      try simp only
      rw [d0]
      rfl
  | call b a =>
    obtain ⟨o, f, args, fid, as, u, ho, hw, hc, hce, hcall, rfl, rfl, rfl⟩ := step1_call h1
    rw [hi] at ho; cases ho
    obtain ⟨frj, hsj, rfl⟩ := back _ rfl _ _ _ _ h2
    cases rj with
    | quiet =>
      obtain ⟨o, ho, hwj, rfl, rfl⟩ := step1_quiet hsj
      rw [hj] at ho; cases ho
      refine ⟨_, _, _, mk_quiet hj hwj, ?_, .inl rfl⟩
      have := step1_put hi fr oj.dst undef a2 a4 (mk_call (E := E) (base := base) hi hw hc hce hcall)
      rwa [put_comm' _ _ _ _ _ a3] at this
    | mem f' e' =>
      obtain ⟨o, ho, hwj, hcj, rfl, hej, rfl, rfl⟩ := step1_mem hsj
      rw [hj] at ho; cases ho
      rcases hind with hal | ⟨d0, d1, d2⟩
      · obtain ⟨⟨blk, hu⟩, hrd, hall⟩ := evOp_alloc hej hal
        obtain ⟨m1, m2, m3⟩ := hmono _ _ _ _ _ (base + j) (some blk) hfj hnj hcall
        have hσ : ∀ s : St, (⟨upds s.heap e'.upd, s.next⟩ : St) = ⟨s.heap.set (base + j) (some blk), s.next⟩ := fun s => by rw [hu]; rfl
        refine ⟨_, _, .call ⟨b.heap.set (base + j) (some blk), b.next⟩ ⟨a.heap.set (base + j) (some blk), a.next⟩, mk_mem hj hwj hcj (hall _), ?_, .inr ⟨some blk, ?_⟩⟩
        · have := step1_put hi fr oj.dst e'.val a2 a4 (mk_call (E := E) (base := base) hi hw hc hce m3)
          rw [put_comm' _ _ _ _ _ a3] at this
          rw [hσ, hσ]
          exact this
        · exact ⟨hfj, m1, rfl, rfl⟩
      refine ⟨_, _, _, mk_mem hj hwj hcj d1, ?_, .inl rfl⟩
      have := step1_put hi fr oj.dst e'.val a2 a4 (mk_call (E := E) (base := base) (σ := b) hi hw hc hce hcall)
      rw [put_comm' _ _ _ _ _ a3] at this
      rw [d0]
      simpa [upds] using this
    | call b' a' => exact hind.elim

theorem runOps_cons {E : Env} {call : CallF} {ops : List Oper} {base i : Nat} {l : List Nat} {fr : List Value} {σ : St} {rs : List Rec} {frf : List Value} {σf : St}
    (h : runOps E call ops base (i :: l) fr σ = some (rs, frf, σf)) : ∃ r fr1 σ1 rs', step1 E call ops base i fr σ = some (r, fr1, σ1) ∧ runOps E call ops base l fr1 σ1 = some (rs', frf, σf) ∧ rs = r :: rs' := by
  simp only [runOps] at h
  split at h
  · rename_i r fr1 σ1 hs
    split at h
    · rename_i rs' fr2 σ2 hr
      cases h
      exact ⟨r, fr1, σ1, rs', hs, hr, rfl⟩
    · cases h
  · cases h

theorem mk_runOps {E : Env} {call : CallF} {ops : List Oper} {base i : Nat} {l : List Nat} {fr fr1 frf : List Value} {σ σ1 σf : St} {r : Rec} {rs : List Rec} (h : step1 E call ops base i fr σ = some (r, fr1, σ1))
    (h2 : runOps E call ops base l fr1 σ1 = some (rs, frf, σf)) : runOps E call ops base (i :: l) fr σ = some (r :: rs, frf, σf) := by
  simp [runOps, h, h2]

theorem step1_recmono {E : Env} {call : CallF} {ops : Array Oper} {base i : Nat} {fr fr' : List Value} {σ σ' : St} {r : Rec} (h : step1 E call ops.toList base i fr σ = some (r, fr', σ')) : RecMono r := by
  cases r with
  | quiet => trivial
  | call b a => trivial
  | mem f e =>
    obtain ⟨o, _, _, _, rfl, _⟩ := step1_mem h
    exact fun g g' hg e he => evOp_mono hg he

/-- What isn't a step's own number stays free. -/
theorem step1_fresh {E : Env} {call : CallF} (hmono : Mono call) {ops : Array Oper} {base i n : Nat} {fr fr' : List Value} {σ σ' : St} {r : Rec} (h : step1 E call ops.toList base i fr σ = some (r, fr', σ')) (hn : σ.heap.get n = none) (hlt : n < σ.next) (hne : n ≠ base + i) :
    σ'.heap.get n = none ∧ σ.next ≤ σ'.next := by
  cases r with
  | quiet => obtain ⟨_, _, _, _, rfl⟩ := step1_quiet h; exact ⟨hn, Nat.le_refl _⟩
  | mem f e =>
    obtain ⟨o, _, _, _, rfl, he, _, rfl⟩ := step1_mem h
    refine ⟨?_, Nat.le_refl _⟩
    have := evOp_keys he
    simp only
    rw [upds_get]
    · exact hn
    · intro hb
      rcases this n hb with h | h
      · exact hne h
      · exact h hn
  | call b a =>
    obtain ⟨_, _, _, _, _, _, _, _, _, _, hc, _⟩ := step1_call h
    obtain ⟨h1, h2, _⟩ := hmono _ _ _ _ _ n none hn hlt hc
    exact ⟨h1, h2⟩

/-- Any two of a row: the first stands ahead by the text's own edges, or they have nothing to do with each other. -/
def Far (ops : Array Oper) : List (Nat × Rec) → Prop
  | [] => True
  | (i, r) :: l => (RecMono r ∧ ∀ x ∈ l, Anc ops i x.1 ∨ (∃ oi oj, ops[i]? = some oi ∧ ops[x.1]? = some oj ∧ oi.apart ops oj = true ∧ IndepP r x.2)) ∧ Far ops l

theorem Far_mono {ops : Array Oper} : ∀ {l : List (Nat × Rec)}, Far ops l → ∀ x ∈ l, RecMono x.2
  | [], _, x, hx => by cases hx
  | (i, r) :: l, h, x, hx => by
    simp only [List.mem_cons] at hx
    rcases hx with rfl | hx
    · exact h.1.1
    · exact Far_mono h.2 x hx

/-- What may come now may come first. -/
theorem bubble {E : Env} {call : CallF} (hmono : Mono call) {ops : Array Oper} {base j : Nat} : ∀ (l1 l2 : List Nat) (fr : List Value) (σ : St) (rs : List Rec) (frf : List Value) (σf : St),
    runOps E call ops.toList base (l1 ++ j :: l2) fr σ = some (rs, frf, σf) → Far ops ((l1 ++ j :: l2).zip rs) → (∀ i ∈ l1, ¬ Anc ops i j) → j ∉ l1 → σ.heap.get (base + j) = none → base + j < σ.next →
    ∃ r frj σj rs', step1 E call ops.toList base j fr σ = some (r, frj, σj) ∧ runOps E call ops.toList base (l1 ++ l2) frj σj = some (rs', frf, σf) ∧ Far ops ((l1 ++ l2).zip rs') ∧
      (∀ x, x ∈ (l1 ++ l2).zip rs' → ∃ y ∈ (l1 ++ j :: l2).zip rs, y.1 = x.1 ∧ (x.2 = y.2 ∨ ∃ b, Grown (base + j) b y.2 x.2)) ∧ (j, r) ∈ (l1 ++ j :: l2).zip rs := by
  intro l1
  induction l1 with
  | nil =>
    intro l2 fr σ rs frf σf h hf _ _ _ _
    obtain ⟨r, fr1, σ1, rs', hs, hr, rfl⟩ := runOps_cons h
    exact ⟨r, fr1, σ1, rs', hs, hr, hf.2, fun x hx => ⟨x, by simp; right; simpa using hx, rfl, .inl rfl⟩, by simp⟩
  | cons i l1 ih =>
    intro l2 fr σ rs frf σf h hf hn hj hfj hnj
    obtain ⟨r, fr1, σ1, rs', hs, hr, rfl⟩ := runOps_cons h
    simp only [List.cons_append, List.zip_cons_cons, Far] at hf
    have hne : base + j ≠ base + i := fun e => hj (by have : j = i := by omega
                                                      simp [this])
    obtain ⟨q1, q2⟩ := step1_fresh hmono hs hfj hnj hne
    obtain ⟨rj, frj, σj, rs2, hsj, hr2, hf2, hsub, hmem⟩ := ih l2 fr1 σ1 rs' frf σf hr hf.2 (fun k hk => hn k (List.mem_cons_of_mem _ hk)) (fun hk => hj (List.mem_cons_of_mem _ hk)) q1 (by omega)
    rcases hf.1.2 (j, rj) hmem with hanc | ⟨oi, oj, hoi, hoj, hap, hind⟩
    · exact absurd hanc (hn i (by simp))
    · obtain ⟨frj', σj', r', hsj', hsi', hgr⟩ := swap hmono hoi hoj hap hs hsj hind hfj hnj
      have hrm := step1_recmono hsi'
      have later : ∀ x ∈ (l1 ++ l2).zip rs2, Anc ops i x.1 ∨ (∃ oi oj, ops[i]? = some oi ∧ ops[x.1]? = some oj ∧ oi.apart ops oj = true ∧ IndepP r' x.2) := by
        intro x hx
        obtain ⟨y, hy, hy1, hy2⟩ := hsub x hx
        rcases hf.1.2 y hy with hanc | ⟨oi, oj, h1, h2, h3, h4⟩
        · exact .inl (hy1 ▸ hanc)
        · refine .inr ⟨oi, oj, h1, hy1 ▸ h2, h3, ?_⟩
          have h5 : IndepP r x.2 := by
            rcases hy2 with e | ⟨b, hb⟩
            · rw [e]; exact h4
            · exact h4.grow_r hf.1.1 hb
          rcases hgr with rfl | ⟨b, hb⟩
          · exact h5
          · exact h5.grow_l (Far_mono hf2 x hx) hb
      refine ⟨rj, frj', σj', r' :: rs2, hsj', mk_runOps hsi' hr2, ?_, ?_, ?_⟩
      · simp only [List.cons_append, List.zip_cons_cons, Far]
        exact ⟨⟨hrm, later⟩, hf2⟩
      · intro x hx
        simp only [List.cons_append, List.zip_cons_cons, List.mem_cons] at hx ⊢
        rcases hx with rfl | hx
        · exact ⟨(i, r), .inl rfl, rfl, hgr⟩
        · obtain ⟨y, hy, hy1⟩ := hsub x hx
          exact ⟨y, .inr hy, hy1⟩
      · simp only [List.cons_append, List.zip_cons_cons, List.mem_cons]
        exact .inr hmem
end Go.Ab
