/- The abstract evaluator's regions and code, in the model. -/
import Derived.Test.YtllffogcdeempaaFwK
set_option linter.all false
open Go.RowKit
namespace Go.Ab

structure FRel (old : Nat) (μ : Mu) (fr : List Value) (a : Act) : Prop where
  vals : LRel old μ fr a.tmps.toList
  defers : a.defers = []

theorem FRel.mono {old : Nat} {μ μ' : Mu} (hl : Le μ μ') {fr : List Value} {a : Act} (h : FRel old μ fr a) : FRel old μ' fr a := ⟨h.vals.mono hl, h.defers⟩

theorem FRel.get {old : Nat} {μ : Mu} {fr : List Value} {a : Act} (h : FRel old μ fr a) (t : Nat) : VRel old μ (fr.getD t undef) (a.tmps.getD t undef) := by
  have hs : fr.length = a.tmps.size := by simpa using h.vals.1
  by_cases ht : t < fr.length
  · have ht' : t < a.tmps.size := by omega
    have e1 : fr.getD t undef = fr[t] := by simp [List.getD, ht]
    have e2 : a.tmps.getD t undef = a.tmps[t] := by simp [Array.getD, ht']
    rw [e1, e2]
    exact h.vals.2 t _ _ (by simp [ht]) (by simp [ht'])
  · have e1 : fr.getD t undef = undef := by simp [List.getD, List.getElem?_eq_none (Nat.le_of_not_lt ht)]
    have ht' : ¬ t < a.tmps.size := by omega
    have e2 : a.tmps.getD t undef = undef := by simp [Array.getD, ht']
    rw [e1, e2]
    exact .undef _ _

theorem FRel.opd {old : Nat} {μ : Mu} {fr : List Value} {a : Act} (h : FRel old μ fr a) {x : Operand} (hx : okOpd x = true) : VRel old μ (Opd fr x) (a.eval x) := by
  cases x with
  | tmp t => simpa [Opd, Act.eval] using h.get t
  | const v => exact .of_scalar hx
  | func f => exact .func _ _ _ _ _ rfl (fun i x y hx _ => by simp at hx) rfl (fun i x y hx _ => by simp at hx)
  | global g => cases hx

theorem LRel.set {old : Nat} {μ : Mu} {l l' : List Value} (h : LRel old μ l l') {v v' : Value} (hv : VRel old μ v v') (d : Nat) : LRel old μ (l.set d v) (l'.set d v') := by
  refine ⟨by simp [h.1], fun i x y hx hy => ?_⟩
  rw [List.getElem?_set] at hx hy
  rw [← h.1] at hy
  split at hx
  · rename_i hd
    rw [if_pos hd] at hy
    split at hx
    · rename_i hlt
      rw [if_pos hlt] at hy
      cases hx; cases hy
      exact hv
    · cases hx
  · rename_i hd
    rw [if_neg hd] at hy
    exact h.2 i x y hx hy

theorem FRel.put {old : Nat} {μ : Mu} {fr : List Value} {a : Act} (h : FRel old μ fr a) {v v' : Value} (hv : VRel old μ v v') (dst : Option Tmp) : FRel old μ (Ab.put fr dst v) (a.put dst v') := by
  cases dst with
  | none => exact h
  | some d => exact ⟨by simpa [Ab.put, Act.put] using h.vals.set hv d, h.defers⟩

theorem FRel.yields {old : Nat} {μ : Mu} {fr : List Value} {a : Act} (h : FRel old μ fr a) (ops : Array Oper) (j : Nat) : yieldA ops.toList fr j = yielded ops a.tmps j := by
  unfold yieldA yielded
  simp only [Array.getElem?_toList]
  cases hd : (ops[j]?).bind (·.dst) with
  | none => rfl
  | some t =>
    simp only [Option.bind_some]
    have hs : fr.length = a.tmps.size := by simpa using h.vals.1
    by_cases ht : t < fr.length
    · have ht' : t < a.tmps.size := hs ▸ ht
      have hv := h.vals.2 t fr[t] a.tmps[t] (by simp [ht]) (by simp [ht'])
      simp only [List.getElem?_eq_getElem ht, Array.getElem?_eq_getElem ht']
      generalize fr[t] = x at hv
      generalize a.tmps[t] = y at hv
      cases hv with
      | flat v h => rfl
      | _ => rfl
    · rw [List.getElem?_eq_none (Nat.le_of_not_lt ht), Array.getElem?_eq_none (by rw [← hs]; exact Nat.le_of_not_lt ht)]

theorem FRel.wanted {old : Nat} {μ : Mu} {fr : List Value} {a : Act} (h : FRel old μ fr a) (ops : Array Oper) (o : Oper) : Region.wanted o (yieldA ops.toList fr) = Region.wanted o (yielded ops a.tmps) := by
  congr 1
  funext j
  exact h.yields ops j

/-- A function without code, that touches nothing. -/
def ExtOK (E : Env) (w0 : World) (f : FuncId) (args : List Value) (σ : St) (v : Value) (σ' : St) : Prop :=
  σ' = σ ∧ (∃ fn, E.P.funcs[f]? = some fn ∧ fn.body = none) ∧
    ∀ (μ : Mu) (w : World) (args' : Array Value), Rel E w0 μ σ w → LRel E.old μ args args'.toList → ∃ v', (callFunc f args').run E.P w = .ok (.value v') w ∧ VRel E.old μ v v'

/-- What a call must come to. -/
def CallSound (E : Env) (call : CallF) : Prop :=
  ∀ (w0 : World) (f : FuncId) (args : List Value) (σ : St) (v : Value) (σ' : St), call f args σ = some (v, σ') →
    ((∃ fn, E.P.funcs[f]? = some fn ∧ fn.body.isSome = true ∧ fn.name ≠ "runtime.NumGoroutine") ∧ σ.next ≤ σ'.next ∧
    ∀ (μ : Mu) (w : World) (args' : Array Value), Rel E w0 μ σ w → LRel E.old μ args args'.toList →
      Calls E.P f args' w fun e w' => ∃ v' μ', e = .returned v' ∧ VRel E.old μ' v v' ∧ Rel E w0 μ' σ' w' ∧ ∀ a, a < σ.next → μ' a = μ a) ∨ ExtOK E w0 f args σ v σ'
structure CallOK (E : Env) (call : CallF) : Prop where
  ok : CallSound E call
  mono : Mono call

section
variable {E : Env} {w0 w : World} {μ : Mu} {σ : St}

theorem ext_le {μ μ' : Mu} {n : Nat} (hd : ∀ a p, μ a = some p → a < n) (h : ∀ a, a < n → μ' a = μ a) : Le μ μ' := fun a p hp => by rw [h a (hd a p hp)]; exact hp

/-- One step in the model. -/
theorem step_sim {call : CallF} (hcall : CallOK E call) {ops : Array Oper} (hok : ∀ o ∈ ops.toList, okOper o = true) {Q : Exit → Act → World → Prop} {base i : Nat} {fr fr' : List Value} {σ' : St} {r : Rec}
    (h : step1 E call ops.toList base i fr σ = some (r, fr', σ')) {a : Act} (hf : FRel E.old μ fr a) (hr : Rel E w0 μ σ w) (ho : E.old ≤ base) (hn : base + i < σ.next) (hm : μ (base + i) = none)
    {K : Act → World → Prop} (hK : ∀ μ' a' w', (∀ a, a < σ.next → a ≠ base + i → μ' a = μ a) → FRel E.old μ' fr' a' → Rel E w0 μ' σ' w' → K a' w') :
    wpOp E.P ops Q i K a w := by
  unfold wpOp
  cases r with
  | quiet =>
    obtain ⟨o, hoi, hw, rfl, rfl⟩ := step1_quiet h
    rw [hf.wanted] at hw
    simp only [hoi, hw]
    exact hK μ _ w (fun _ _ _ => rfl) (hf.put (.undef _ _) _) hr
  | mem f e =>
    obtain ⟨o, hoi, hw, hc, rfl, he, rfl, rfl⟩ := step1_mem h
    rw [hf.wanted] at hw
    simp only [hoi, hw, if_true]
    have hoo := hok o (by simpa using Array.mem_of_getElem? hoi)
    left
    obtain ⟨r, v', w', μ', h1, h2, h3, h4, h5⟩ := op_sound (nid := base + i) hr (by omega) hn hm (o := o) (ρ := Opd fr) (ρ' := a.eval) (fun x hx => hf.opd (List.all_eq_true.1 hoo x (by simpa using hx))) he
    have hle : Le μ μ' := by
      intro x p hp
      by_cases hx : x = base + i
      · subst hx; rw [hm] at hp; cases hp
      · rw [h5 x hx]; exact hp
    unfold Oper.wp
    rw [h1]
    rcases h2 with rfl | ⟨rfl, rfl⟩
    · exact hK μ' _ w' (fun x _ hx => h5 x hx) ((hf.mono hle).put h3 _) h4
    · exact hK μ' _ w' (fun x _ hx => h5 x hx) ((hf.mono hle).put h3 _) h4
  | call b a' =>
    obtain ⟨o, f, args, fid, as, v, hoi, hw, hc, hce, hcl, rfl, rfl, rfl⟩ := step1_call h
    rw [hf.wanted] at hw
    simp only [hoi, hw, if_true]
    have hoo := hok o (by simpa using Array.mem_of_getElem? hoi)
    obtain ⟨ats, aarr, hoc, rfl⟩ : ∃ ats aarr, o.op = .call { callee := .value f, args := aarr, argTypes := ats } ∧ args = aarr.toList := by
      unfold callOf at hc
      split at hc
      · rename_i f' as' ats hoc; cases hc; exact ⟨ats, as', hoc, rfl⟩
      · cases hc
    left
    have hfv : VRel E.old μ (Opd fr f) (a.eval f) := hf.opd (List.all_eq_true.1 hoo f (by simp [hoc, Op.operands, Call.operands]))
    have hav : LRel E.old μ (aarr.toList.map (Opd fr)) (aarr.toList.map a.eval) := LRel.map _ fun x hx => hf.opd (List.all_eq_true.1 hoo x (by simp at hx; simp [hoc, Op.operands, Call.operands, hx]))
    unfold callee? at hce
    split at hce
    · rename_i fid' first captured hfo
      cases hce
      rw [hfo] at hfv
      obtain ⟨f2, c2, hfe, q1, q2⟩ := hfv.inv_func
      have hargs0 : LRel E.old μ (first.toList ++ aarr.toList.map (Opd fr) ++ captured.toList) (f2 ++ aarr.map a.eval ++ c2).toList := by
        simpa using (q1.append hav).append q2
      rcases hcall.ok w0 _ _ _ _ _ hcl with ⟨⟨fn, hfn, hbody, hname⟩, hnx, hcalls⟩ | ⟨rfl, _, hext⟩
      case inr =>
        obtain ⟨v', hcf, hv⟩ := hext μ w (f2 ++ aarr.map a.eval ++ c2) hr hargs0
        have hrun : (execOp a.eval o).run E.P w = .ok (.value v') w := by
          unfold execOp
          rw [hoc]
          simp [resolve, hfe, Deferred.ofValue, invoke]
          simpa using hcf
        unfold Oper.wp
        rw [hrun]
        exact hK μ _ w (fun _ _ _ => rfl) (hf.put hv _) hr
      have hargs : LRel E.old μ (first.toList ++ aarr.toList.map (Opd fr) ++ captured.toList) (f2 ++ aarr.map a.eval ++ c2).toList := by
        simpa using (q1.append hav).append q2
      have hC := hcalls μ w (f2 ++ aarr.map a.eval ++ c2) hr hargs
      have hrun : (execOp a.eval o).run E.P w = .ok (.enter fid (f2 ++ aarr.map a.eval ++ c2)) w := by
        unfold execOp
        rw [hoc]
        obtain ⟨bc, hbc⟩ := Option.isSome_iff_exists.1 hbody
        simp [resolve, hfe, Deferred.ofValue, invoke, callFunc, hfn, hbc, hname]
      unfold Oper.wp
      rw [hrun]
      refine hC.mono ?_
      rintro e w' ⟨v', μ', rfl, hv, hr', hext⟩
      have hle : Le μ μ' := ext_le (fun a p hp => (hr.dom a p hp).1) hext
      exact hK μ' _ w' (fun x hx _ => hext x hx) ((hf.mono hle).put hv _) hr'
    · cases hce

theorem step1_next {call : CallF} (hcall : CallOK E call) {ops : Array Oper} {base i : Nat} {fr fr' : List Value} {σ σ' : St} {r : Rec} (h : step1 E call ops.toList base i fr σ = some (r, fr', σ')) : σ.next ≤ σ'.next := by
  cases r with
  | quiet => obtain ⟨_, _, _, _, rfl⟩ := step1_quiet h; exact Nat.le_refl _
  | mem f e => obtain ⟨_, _, _, _, _, _, _, rfl⟩ := step1_mem h; exact Nat.le_refl _
  | call b a => obtain ⟨_, _, _, _, _, _, _, _, _, _, hc, _⟩ := step1_call h; exact (hcall.ok default _ _ _ _ _ hc).elim (fun h => h.2.1) (fun h => by rw [h.1]; exact Nat.le_refl _)

/-- In the order of the text. -/
theorem seq_sim {call : CallF} (hcall : CallOK E call) {ops : Array Oper} (hok : ∀ o ∈ ops.toList, okOper o = true) {Q : Exit → Act → World → Prop} {base : Nat} (ho : E.old ≤ base) {frf : List Value} {σf : St} :
    ∀ (l : List Nat) (rs : List Rec) (fr : List Value) (σ : St) (μ : Mu) (a : Act) (w : World), l.Nodup → runOps E call ops.toList base l fr σ = some (rs, frf, σf) → FRel E.old μ fr a → Rel E w0 μ σ w →
      (∀ i ∈ l, base + i < σ.next) → (∀ i ∈ l, μ (base + i) = none) →
      (∀ μ' a' w', (∀ x, x < σ.next → (∀ i ∈ l, x ≠ base + i) → μ' x = μ x) → FRel E.old μ' frf a' → Rel E w0 μ' σf w' → Q .normal a' w') → wpOps E.P ops Q l a w := by
  intro l
  induction l with
  | nil =>
    intro rs fr σ μ a w _ h hf hr _ _ hQ
    simp [runOps] at h
    obtain ⟨_, rfl, rfl⟩ := h
    exact hQ μ a w (fun _ _ _ => rfl) hf hr
  | cons i l ih =>
    intro rs fr σ μ a w hnd h hf hr hn hm hQ
    obtain ⟨r, fr1, σ1, rs', hs, hrr, rfl⟩ := runOps_cons h
    rw [wpOps_cons]
    rw [List.nodup_cons] at hnd
    have hnx := step1_next hcall hs
    refine step_sim hcall hok hs hf hr ho (hn i (by simp)) (hm i (by simp)) ?_
    intro μ1 a1 w1 hext hf1 hr1
    refine ih rs' fr1 σ1 μ1 a1 w1 hnd.2 hrr hf1 hr1 (fun k hk => by have := hn k (by simp [hk]); omega) ?_ ?_
    · intro k hk
      have hne : k ≠ i := fun e => hnd.1 (e ▸ hk)
      rw [hext _ (hn k (by simp [hk])) (by omega)]
      exact hm k (by simp [hk])
    · intro μ' a' w' hext' hf' hr'
      refine hQ μ' a' w' ?_ hf' hr'
      intro x hx hxi
      rw [hext' x (by omega) (fun k hk => hxi k (by simp [hk])), hext x hx (hxi i (by simp))]

/-- In whatever order. -/
theorem any_sim {call : CallF} (hcall : CallOK E call) {ops : Array Oper} (hok : ∀ o ∈ ops.toList, okOper o = true) (hedges : ∀ i o, ops[i]? = some o → ∀ e ∈ o.after, Region.binds .any e = true → e.on < i)
    {Q : Exit → Act → World → Prop} {base : Nat} (ho : E.old ≤ base) {frf : List Value} {σf : St} :
    ∀ (n : Nat) (l : List Nat) (rs : List Rec) (listed : Array Bool) (fr : List Value) (σ : St) (μ : Mu) (a : Act) (w : World), l.length = n → l.Nodup → l.Pairwise (· < ·) → listed.size = ops.size →
      (∀ i, i ∈ l ↔ listed[i]? = some false) → (∀ (j : Nat) (o : Oper), ops[j]? = some o → listed[j]? = some true → ∀ e ∈ o.after, Region.binds .any e = true → listed[e.on]? = some true) →
      runOps E call ops.toList base l fr σ = some (rs, frf, σf) → Far ops (l.zip rs) → FRel E.old μ fr a → Rel E w0 μ σ w →
      (∀ i ∈ l, base + i < σ.next) → (∀ i ∈ l, μ (base + i) = none) →
      (∀ μ' a' w', (∀ x, x < σ.next → (∀ i ∈ l, x ≠ base + i) → μ' x = μ x) → FRel E.old μ' frf a' → Rel E w0 μ' σf w' → Q .normal a' w') → wpAny E.P .any ops Q n listed a w := by
  intro n
  induction n with
  | zero =>
    intro l rs listed fr σ μ a w hl _ _ hsz hmem _ h _ hf hr _ _ hQ
    have : l = [] := List.length_eq_zero_iff.1 hl
    subst this
    simp [runOps] at h
    obtain ⟨_, rfl, rfl⟩ := h
    refine ⟨?_, hQ μ a w (fun _ _ _ => rfl) hf hr⟩
    rw [List.eq_nil_iff_forall_not_mem]
    intro i hi
    obtain ⟨h1, o, h2, _⟩ := mem_ready.1 hi
    have hlt : i < ops.size := (Array.getElem?_eq_some_iff.1 h2).1
    have : listed[i]? = some false := by
      rw [Array.getElem?_eq_getElem (by omega)]
      have hg : listed.getD i true = listed[i]'(by omega) := by simp [Array.getD, show i < listed.size by omega]
      rw [hg] at h1
      rw [h1]
    exact absurd ((hmem i).2 this) (by simp)
  | succ n ih =>
    intro l rs listed fr σ μ a w hl hnd hpw hsz hmem hclosed h hfar hf hr hn hm hQ
    have getD_of : ∀ (i : Nat) (b : Bool), listed[i]? = some b → ∀ d, listed.getD i d = b := by
      intro i b hb d
      obtain ⟨hlt, hv⟩ := Array.getElem?_eq_some_iff.1 hb
      simp [Array.getD, hlt, hv]
    have all_or : ∀ i, i < ops.size → listed[i]? = some true ∨ listed[i]? = some false := by
      intro i hi
      rw [Array.getElem?_eq_getElem (by omega)]
      cases listed[i]'(by omega) <;> simp
    constructor
    · -- something may always come
      intro hnil
      obtain ⟨i, l', rfl⟩ : ∃ i l', l = i :: l' := by cases l with | nil => simp at hl | cons i l' => exact ⟨i, l', rfl⟩
      exfalso
      have hif : listed[i]? = some false := (hmem i).1 (by simp)
      have hlt : i < ops.size := by have := (Array.getElem?_eq_some_iff.1 hif).1; omega
      have hoi : ops[i]? = some ops[i] := Array.getElem?_eq_getElem hlt
      have hready : i ∈ Region.ready .any ops listed := by
        rw [mem_ready]
        refine ⟨getD_of i false hif true, ops[i], hoi, fun e he hb => ?_⟩
        have hei := hedges i _ hoi e he hb
        rcases all_or e.on (by omega) with h1 | h1
        · exact getD_of _ _ h1 false
        · have := (hmem e.on).2 h1
          simp only [List.mem_cons] at this
          rcases this with h2 | h2
          · omega
          · have := (List.pairwise_cons.1 hpw).1 e.on h2
            omega
      rw [hnil] at hready
      cases hready
    · intro j hj
      obtain ⟨hj1, oj, hoj, hjall⟩ := mem_ready.1 hj
      have hlt : j < ops.size := (Array.getElem?_eq_some_iff.1 hoj).1
      have hjf : listed[j]? = some false := by
        rcases all_or j hlt with h1 | h1
        · rw [getD_of _ _ h1 true] at hj1; cases hj1
        · exact h1
      have hjl : j ∈ l := (hmem j).2 hjf
      obtain ⟨l1, l2, rfl⟩ := List.append_of_mem hjl
      have hedge1 : ∀ e ∈ oj.after, Region.binds .any e = true → listed[e.on]? = some true := by
        intro e he hb
        have h1 := hjall e he hb
        have h2 := hedges j oj hoj e he hb
        rcases all_or e.on (by omega) with h3 | h3
        · exact h3
        · rw [getD_of _ _ h3 false] at h1; cases h1
      have anc_listed : ∀ i k, Anc ops i k → (∀ o, ops[k]? = some o → ∀ e ∈ o.after, Region.binds .any e = true → listed[e.on]? = some true) → listed[i]? = some true := by
        intro i k hanc
        induction hanc with
        | one k o e ho he hb hi => intro hk; subst hi; exact hk o ho e (by simpa using he) hb
        | step k o e ho he hb _ ih =>
          intro hk
          refine ih fun o' ho' e' he' hb' => ?_
          exact hclosed e.on o' ho' (hk o ho e (by simpa using he) hb) e' he' hb'
      have hnoanc : ∀ i ∈ l1, ¬ Anc ops i j := by
        intro i hi hanc
        have h1 := anc_listed i j hanc (fun o ho e he hb => by rw [hoj] at ho; cases ho; exact hedge1 e he hb)
        have h2 := (hmem i).1 (by simp [hi])
        rw [h1] at h2
        cases h2
      have hjl1 : j ∉ l1 := by
        have := List.perm_middle.nodup_iff.1 hnd
        exact fun hj => (List.nodup_cons.1 this).1 (by simp [hj])
      have hfree : σ.heap.get (base + j) = none := by
        cases hq : σ.heap.get (base + j) with
        | none => rfl
        | some b =>
          obtain ⟨p, hp, _⟩ := hr.blk _ _ hq
          rw [hm j (by simp)] at hp
          cases hp
      obtain ⟨r, frj, σj, rs', hs, hrr, hfar', _, _⟩ := bubble hcall.mono l1 l2 fr σ rs frf σf h hfar hnoanc hjl1 hfree (hn j (by simp))
      have hnx := step1_next hcall hs
      refine step_sim hcall hok hs hf hr ho (hn j (by simp)) (hm j (by simp)) ?_
      intro μ1 a1 w1 hext hf1 hr1
      have hnd' : (l1 ++ l2).Nodup := by
        have hsub : (l1 ++ l2).Sublist (l1 ++ j :: l2) := List.Sublist.append (List.Sublist.refl _) (List.sublist_cons_self _ _)
        exact hsub.nodup hnd
      have hjn : j ∉ l1 ++ l2 := by
        have := List.perm_middle.nodup_iff.1 hnd
        exact (List.nodup_cons.1 this).1
      refine ih (l1 ++ l2) rs' (listed.setIfInBounds j true) frj σj μ1 a1 w1 (by simp at hl ⊢; omega) hnd' ?_ (by simpa using hsz) ?_ ?_ hrr hfar' hf1 hr1 ?_ ?_ ?_
      · have hsub : (l1 ++ l2).Sublist (l1 ++ j :: l2) := List.Sublist.append (List.Sublist.refl _) (List.sublist_cons_self _ _)
        exact hpw.sublist hsub
      · intro i
        by_cases hij : i = j
        · subst hij
          rw [Array.getElem?_setIfInBounds_self_of_lt (by omega)]
          simp [hjn]
        · rw [Array.getElem?_setIfInBounds_ne (Ne.symm hij), ← hmem i]
          simp [hij]
      · intro k o hk hkl e he hb
        have target : listed[e.on]? = some true := by
          by_cases hkj : k = j
          · subst hkj; rw [hoj] at hk; cases hk; exact hedge1 e he hb
          · rw [Array.getElem?_setIfInBounds_ne (Ne.symm hkj)] at hkl
            exact hclosed k o hk hkl e he hb
        by_cases hej : e.on = j
        · rw [hej] at target; rw [hjf] at target; cases target
        · rw [Array.getElem?_setIfInBounds_ne (Ne.symm hej)]; exact target
      · intro k hk
        have := hn k (by simp at hk ⊢; rcases hk with h | h <;> simp [h])
        omega
      · intro k hk
        have hkl : k ∈ l1 ++ j :: l2 := by simp at hk ⊢; rcases hk with h | h <;> simp [h]
        have hne : k ≠ j := fun e => hjn (e ▸ hk)
        rw [hext _ (hn k hkl) (by omega)]
        exact hm k hkl
      · intro μ' a' w' hext' hf' hr'
        refine hQ μ' a' w' ?_ hf' hr'
        intro x hx hxi
        rw [hext' x (by omega) (fun k hk => hxi k (by simp at hk ⊢; rcases hk with h | h <;> simp [h])), hext x hx (hxi j (by simp))]

/-- What is asked of a region's text. -/
def regionOk (P : Program) (ps : List (Nat × Nat)) (ops : Array Oper) (draw : Bool) : Bool :=
  ops.toList.all okOper && (!draw || drawOk P ops ps)

theorem region_sim {call : CallF} (hcall : CallOK E call) {ops : Array Oper} {draw : Bool} {ps : List (Nat × Nat)} (hok : regionOk E.P ps ops draw = true) (hmixed : E.P.follows .mixedOrders = true) {id : Nat} {Q : Exit → Act → World → Prop}
    {fr frf : List Value} {σf : St} (h : evRegion E call ps ops.toList fr σ = some (frf, σf)) {a : Act} (hf : FRel E.old μ fr a) (hr : Rel E w0 μ σ w)
    (hQ : ∀ μ' a' w', (∀ x, x < σ.next → μ' x = μ x) → FRel E.old μ' frf a' → Rel E w0 μ' σf w' → Q .normal a' w') : (Code.region id ops draw).wp E.P Q a w := by
  unfold regionOk at hok
  simp only [Bool.and_eq_true, Bool.or_eq_true, Bool.not_eq_true'] at hok
  obtain ⟨hok1, hok2⟩ := hok
  have hoks : ∀ o ∈ ops.toList, okOper o = true := fun o ho => List.all_eq_true.1 hok1 o ho
  unfold evRegion at h
  split at h
  case h_2 => cases h
  rename_i rs frf' σf' hrun
  split at h
  case isFalse => cases h
  rename_i hpairs
  cases h
  simp only [Array.length_toList] at hrun
  have hr2 : ∀ w', Rel E w0 μ σ w' → Rel E w0 μ ⟨σ.heap, σ.next + ops.size⟩ w' := fun w' hr => ⟨hr.below, hr.old_le, by have := hr.old_next; simp only; omega, hr.base, fun a p hp => by have := hr.dom a p hp; simp only; omega, hr.blk, hr.new, hr.inj⟩
  have hnone : ∀ i, μ (σ.next + i) = none := by
    intro i
    cases hp : μ (σ.next + i) with
    | none => rfl
    | some p => have := (hr.dom _ _ hp).1; omega
  have hnd : (List.range ops.size).Nodup := List.nodup_range
  have hQ' : ∀ μ' a' w', (∀ x, x < σ.next + ops.size → (∀ i ∈ List.range ops.size, x ≠ σ.next + i) → μ' x = μ x) → FRel E.old μ' frf a' → Rel E w0 μ' σf w' → Q .normal a' w' := by
    intro μ' a' w' hext hf' hr'
    exact hQ μ' a' w' (fun x hx => hext x (by omega) (fun i _ => by omega)) hf' hr'
  cases draw with
  | false =>
    exact wp_region (seq_sim hcall hoks (base := σ.next) hr.old_next (List.range ops.size) rs fr _ μ a w hnd hrun hf (hr2 w hr) (fun i hi => by simp at hi; simp only; omega) (fun i _ => hnone i) hQ')
  | true =>
    simp only [Bool.true_eq_false, false_or] at hok2
    have hfar := region_far hok2 hrun hpairs
    have hedges : ∀ i o, ops[i]? = some o → ∀ e ∈ o.after, Region.binds .any e = true → e.on < i := by
      intro i o ho e he hb
      unfold drawOk at hok2
      simp only [Bool.and_eq_true] at hok2
      have h1 := List.all_eq_true.1 hok2.1.1 (o, i) (by
        rw [List.mem_zipIdx_iff_getElem?]
        simpa using ho)
      unfold edgesOk at h1
      have h2 := List.all_eq_true.1 h1 e (by simpa using he)
      simpa [hb] using h2
    refine wp_region_any hmixed ?_
    refine any_sim hcall hoks hedges (base := σ.next) hr.old_next ops.size (List.range ops.size) rs (Array.replicate ops.size false) fr _ μ a _ (by simp) hnd List.pairwise_lt_range (by simp) ?_ ?_ hrun hfar hf (hr2 _ hr.drew) (fun i hi => by simp at hi; simp only; omega) (fun i _ => hnone i) hQ'
    · intro i
      simp [Array.getElem?_replicate]
    · intro j o _ hl
      simp [Array.getElem?_replicate] at hl
end
end Go.Ab
