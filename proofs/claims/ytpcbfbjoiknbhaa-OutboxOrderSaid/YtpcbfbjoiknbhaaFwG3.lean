/- A part of the framework: an abstract evaluator of the model's code and its soundness. -/
import Derived.Test.YtpcbfbjoiknbhaaFwG2
import Derived.Lib.Overlaps
/- Calls, rows: what code does to what it owns. -/
set_option linter.all false
open Go.RowKit
namespace Go.Ab

section
variable {E : Env} {call : CallF} {ops : List Oper} {base i : Nat} {o : Oper} {rest : List Oper} {fr fr' : List Value} {L L' R : List Res} {K : List Rec → List Value → St → Prop} {K0 : List Value → St → Prop} {P : Program}

/-- Behind a call. -/
def BackK (E : Env) (call : CallF) (ops : List Oper) (base j : Nat) (rest : List Oper) (d : Option Tmp) (fr : List Value) (r : Res) (K0 : List Value → St → Prop) (v : Value) (σ : St) : Prop :=
  r = RSV ops base j → WR E call ops base j rest (put fr d v) σ fun _ => K0
/-- Behind a call, the states ahead of it and behind it kept. -/
def BackP (E : Env) (call : CallF) (ops : List Oper) (base j : Nat) (rest : List Oper) (d : Option Tmp) (fr : List Value) (r : Res) (σ0 : St) (K : List Rec → List Value → St → Prop) (v : Value) (σ : St) : Prop :=
  r = RSV ops base j → WR E call ops base j rest (put fr d v) σ fun rs => K (.call σ0 σ :: rs)

theorem ro_callG {f : Operand} {as : List Operand} {g : FuncId} {vs : List Value} (hc : callOf o = some (f, as)) (hw : Region.wanted o (yieldA ops fr) = true) (hf : callee? (Opd fr f) (as.map (Opd fr)) = some (g, vs))
    (hx : ∀ r σ0, Own E σ0 L → O E (r :: L) fun σ => WCall call g vs σ (BackP E call ops base (i + 1) rest o.dst fr r σ0 K)) : ROC E call ops base i o rest fr L K := by
  intro σ ho hl
  have ho' : ops[i]? = some o := by simpa using (hl 0).symm
  have hlt : i < ops.length := (List.getElem?_eq_some_iff.1 ho').1
  refine wr_cons ?_ hl
  unfold WStep
  rw [if_pos hw]
  simp only [hc]
  refine ⟨(g, vs), hf, ?_⟩
  have e1 : ops.length - i = (ops.length - (i + 1)) + 1 := by omega
  have ho2 : Own E σ (RSV ops base (i + 1) :: L) := by
    unfold RSV at ho ⊢
    rw [e1] at ho
    rw [← Nat.add_assoc]
    exact ho.split.tail
  exact (hx _ σ ho.tail σ ho2).mono fun v σ' h => h rfl

theorem ro_callP {f : Operand} {as : List Operand} {g : FuncId} {vs : List Value} (hc : callOf o = some (f, as)) (hw : Region.wanted o (yieldA ops fr) = true) (hf : Opd fr f = .func (.func g) #[] #[]) (ha : as.map (Opd fr) = vs)
    (hx : ∀ r σ0, Own E σ0 L → O E (r :: L) fun σ => WCall call g vs σ (BackP E call ops base (i + 1) rest o.dst fr r σ0 K)) : ROC E call ops base i o rest fr L K :=
  ro_callG hc hw (by rw [hf, ha]; exact callee_of) hx

theorem ro_call {f : Operand} {as : List Operand} {g : FuncId} {vs : List Value} (hc : callOf o = some (f, as)) (hw : Region.wanted o (yieldA ops fr) = true) (hf : Opd fr f = .func (.func g) #[] #[]) (ha : as.map (Opd fr) = vs)
    (hx : ∀ r, O E (r :: L) fun σ => WCall call g vs σ (BackK E call ops base (i + 1) rest o.dst fr r K0)) : ROC E call ops base i o rest fr L fun _ => K0 :=
  ro_callP hc hw hf ha fun r σ0 _ σ ho => hx r σ ho

/-- A call of a function value. -/
theorem ro_callV {f : Operand} {as : List Operand} {g : FuncId} {vs us : List Value} {fv : Value} (hc : callOf o = some (f, as)) (hw : Region.wanted o (yieldA ops fr) = true) (hf : Opd fr f = fv) (ha : as.map (Opd fr) = vs) (hv : callee? fv vs = some (g, us))
    (hx : ∀ r, O E (r :: L) fun σ => WCall call g us σ (BackK E call ops base (i + 1) rest o.dst fr r K0)) : ROC E call ops base i o rest fr L fun _ => K0 :=
  ro_callG hc hw (by rw [hf, ha]; exact hv) fun r σ0 _ σ ho => hx r σ ho

theorem o_back {j : Nat} {d : Option Tmp} {r : Res} {v : Value} (hs : Sel L r R) (hf : put fr d v = fr') (hx : RO E call ops base j rest fr' R fun _ => K0) : O E L (BackK E call ops base j rest d fr r K0 v) := by
  intro σ ho hr
  subst hr hf
  exact hx σ (ho.sel hs)
theorem o_backP {j : Nat} {d : Option Tmp} {r : Res} {v : Value} {σ0 : St} (hs : Sel L r R) (hf : put fr d v = fr') (hx : ∀ σ1, Own E σ1 R → RO E call ops base j rest fr' R fun rs => K (.call σ0 σ1 :: rs)) : O E L (BackP E call ops base j rest d fr r σ0 K v) := by
  intro σ ho hr
  subst hr hf
  exact hx σ (ho.sel hs).tail σ (ho.sel hs)
end

section
variable {E : Env} {k : Nat} {fr fr' : List Value} {L R : List Res} {Q : Value → St → Prop}

/-- A function by its own code. -/
def OFun (g : FuncId) (E : Env) (t : Tbl) (k d : Nat) (args : List Value) (L : List Res) (Q : Value → St → Prop) : Prop := O E L fun σ => WCall (evFunT E t k d) g args σ Q
theorem o_fun (g : FuncId) {t : Tbl} {d : Nat} {args : List Value} (h : OFun g E t k d args L Q) : O E L fun σ => WCall (evFunT E t k d) g args σ Q := h
theorem of_code {t : Tbl} {d : Nat} {f : FuncId} {fn : Func} {c : Code} {args : List Value} {P : Program} (m : Nat) (rs : List ResultVar) (hP : E.P = P) (ht : hasT t f = false) (hfn : P.funcs[f]? = some fn) (hb : fn.body = some c) (hn : fn.ntmps = m) (hr : fn.results.toList = rs)
    (hf : args ++ List.replicate (m - args.length) undef = fr)
    (hx : O E L fun σ => W E (evFunT E t k d) k f c none fr σ fun e fr σ => (e = .normal ∨ e = .ret) ∧ bindV (resR E fr σ rs) fun v => Q v σ) : OFun f E t k (d + 1) args L Q := by
  subst hP hf
  exact fun σ ho => wfunT m rs ht hfn hb hn hr (hx σ ho)
/-- A function of the table. -/
theorem of_tbl {t : Tbl} {d : Nat} {f : FuncId} {s : List Value → Option Value} {args : List Value} {v : Value}
    (hcall : ∀ σ, WCall (evFunT E t k d) f args σ Q = bindV (s args) fun v => Q v σ) (hv : s args = some v) (hx : O E L (Q v)) : OFun f E t k d args L Q := by
  intro σ ho
  show WCall _ _ _ _ _
  rw [hcall]
  exact ⟨v, hv, hx σ ho⟩

def OFin (E : Env) (fr : List Value) (rs : List ResultVar) (L : List Res) (Q : Value → St → Prop) : Prop := O E L fun σ => bindV (resR E fr σ rs) fun v => Q v σ
theorem o_fin_r {rs : List ResultVar} (h : OFin E fr rs L Q) : O E L fun σ => (Ex.ret = .normal ∨ Ex.ret = .ret) ∧ bindV (resR E fr σ rs) fun v => Q v σ := fun σ ho => ⟨.inr rfl, h σ ho⟩
theorem o_fin_n {rs : List ResultVar} (h : OFin E fr rs L Q) : O E L fun σ => (Ex.normal = .normal ∨ Ex.normal = .ret) ∧ bindV (resR E fr σ rs) fun v => Q v σ := fun σ ho => ⟨.inl rfl, h σ ho⟩
/-- Results that are told by what is owned. -/
theorem fin_of {rs : List ResultVar} {v : Value} (hr : ∀ σ, Own E σ L → resR E fr σ rs = some v) (hx : O E L (Q v)) : OFin E fr rs L Q := fun σ ho => ⟨v, hr σ ho, hx σ ho⟩

theorem resE_o1 {P : Program} {σ : St} {a : Nat} {t : TypeId} {b off : Nat} {c : List Value} {el : TypeId} {ex : Bool} {v : Value} (ho : Own E σ L) (hP : E.P = P) (ha : isAggT P t = some false) (hx : fr.getD a undef = .pointer (some ⟨b, off, none⟩)) (hs : Sel L (.blk b c el ex) R) (hv : c[off]? = some v) :
    resE E fr σ (.cell a t) = some v := by
  obtain ⟨h, n⟩ := σ
  exact resE_c1 hP ha hx (ho.get hs).1 (ho.get hs).2 hv
theorem resE_oN {P : Program} {σ : St} {a : Nat} {t : TypeId} {b off m : Nat} {c l : List Value} {el : TypeId} {ex : Bool} (ho : Own E σ L) (hP : E.P = P) (ha : isAggT P t = some true) (hx : fr.getD a undef = .pointer (some ⟨b, off, none⟩)) (hs : Sel L (.blk b c el ex) R) (hm : sizeT P t = some m) (hle : off + m ≤ c.length) (hl : (c.drop off).take m = l) :
    resE E fr σ (.cell a t) = some (.agg l.toArray) := by
  obtain ⟨h, n⟩ := σ
  exact resE_cN hP ha hx (ho.get hs).1 (ho.get hs).2 hm hle hl

/-- A law, from what its code comes to. -/
theorem law_O {P : Program} {pairs : FuncId → Nat → List (Nat × Nat)} (hm : P.follows .mixedOrders = true) (hp : progOkB P pairs = true) {t : Tbl} (ht : TblOK P t) {w : World} {f : FuncId} {args : Array Value} {v : Value} {k d : Nat}
    (hargs : ∀ x ∈ args.toList, oldV w.heap.size x = true ∨ scalar x = true) (hv : flatS v = true)
    (h : O (envAt P pairs w) [] fun σ => WCall (evFunT (envAt P pairs w) t k d) f args.toList σ fun u _ => u = v) (hcode : hasCode P f = true := by kernel_rfl) :
    Calls P f args w fun e w' => e = .returned v ∧ Below w.heap.size w w' :=
  law_G hm hp ht hcode hargs hv (h ⟨.leaf, w.heap.size⟩ (.nil (Nat.le_refl _)))

/-- A slice that came in, as a row. -/
theorem o_old {s : Value} {n : Nat} {c : List Value} {e : TypeId} {sz : Nat} {G : St → Prop} (hc : c.length = n * sz) (h : (∃ a m, s = .slice a 0 m ∧ n = 0) ∨ ∃ b o m, s = .slice (some ⟨b, o, none⟩) n m ∧ b < E.old ∧ rdOld E b o (n * sz) = some c) (hx : O E (.row 2 s n c e sz :: L) G) : O E L G := by
  intro σ ho
  refine hx σ ⟨ho.base, ?_, ?_, ?_⟩
  · rw [idsL_cons]; simpa [Res.ids] using ho.nodup
  · rw [idsL_cons]; simpa [Res.ids] using ho.lt
  · intro r hr
    rcases List.mem_cons.1 hr with rfl | hr
    · exact ⟨hc, h⟩
    · exact ho.ok r hr

/-- nil as a row of one's own. -/
theorem o_nilrow {e : TypeId} {sz : Nat} {G : St → Prop} (hx : O E (.row 0 (.slice none 0 0) 0 [] e sz :: L) G) : O E L G := by
  intro σ ho
  refine hx σ ⟨ho.base, ?_, ?_, ?_⟩
  · rw [idsL_cons]; simpa [Res.ids, rowBlk] using ho.nodup
  · rw [idsL_cons]; simpa [Res.ids, rowBlk] using ho.lt
  · intro r hr
    rcases List.mem_cons.1 hr with rfl | hr
    · exact ⟨by simp, .inl ⟨rfl, rfl⟩⟩
    · exact ho.ok r hr
end

/-! Rows that are read. -/
section
variable {E : Env} {call : CallF} {ops : List Oper} {base i : Nat} {o : Oper} {rest : List Oper} {fr fr' : List Value} {L L' R : List Res} {K : List Rec → List Value → St → Prop} {P : Program}

theorem RowOk.shape {g : Nat → Option Blk} {kd : Nat} {s : Value} {n : Nat} {c : List Value} {e : TypeId} {sz : Nat} (h : RowOk E g kd s n c e sz) : ∃ a m, s = .slice a n m ∧ (0 < n → ∃ b o, a = some ⟨b, o, none⟩) := by
  obtain ⟨_, h⟩ := h
  match kd, h with
  | 0, h =>
    rcases h with ⟨rfl, rfl⟩ | ⟨b, p, m, j, x, rfl, _⟩
    · exact ⟨_, _, rfl, fun h => absurd h (by omega)⟩
    · exact ⟨_, _, rfl, fun _ => ⟨_, _, rfl⟩⟩
  | 1, h =>
    rcases h with ⟨a, m, rfl, rfl⟩ | ⟨_, b, p, m, j, x, rfl, _⟩
    · exact ⟨_, _, rfl, fun h => absurd h (by omega)⟩
    · exact ⟨_, _, rfl, fun _ => ⟨_, _, rfl⟩⟩
  | k + 2, h =>
    rcases h with ⟨a, m, rfl, rfl⟩ | ⟨b, o, m, rfl, _⟩
    · exact ⟨_, _, rfl, fun h => absurd h (by omega)⟩
    · exact ⟨_, _, rfl, fun _ => ⟨_, _, rfl⟩⟩

/-- Cells of a row are read. -/
theorem rdOld_part {E : Env} (b : Nat) : ∀ (o m : Nat) (c : List Value), rdOld E b o m = some c → ∀ q k, q + k ≤ m → rdOld E b (o + q) k = some ((c.drop q).take k) := by
  intro o m
  induction m generalizing o with
  | zero => intro c h q k hk; obtain ⟨rfl, rfl⟩ : q = 0 ∧ k = 0 := by omega
            simp [rdOld]
  | succ m ih =>
    intro c h q k hk
    simp only [rdOld] at h
    split at h
    case h_2 => cases h
    rename_i v hv
    split at h
    case isFalse => cases h
    rename_i hold
    split at h
    case h_2 => cases h
    rename_i l hl
    cases h
    cases q with
    | zero =>
      cases k with
      | zero => simp [rdOld]
      | succ k =>
        have := ih (o + 1) l hl 0 k (by omega)
        simp only [Nat.add_zero] at this
        simp only [Nat.add_zero, rdOld, hv, hold, if_true, this, List.drop_zero, List.take_succ_cons]
    | succ q =>
      have := ih (o + 1) l hl q k (by omega)
      rw [List.drop_succ_cons, ← this]
      congr 1
      omega

theorem RowOk.read {g : Nat → Option Blk} {kd : Nat} {s : Value} {n : Nat} {c : List Value} {e : TypeId} {sz b off q k : Nat} (h : RowOk E g kd s n c e sz) (hown : kd < 2 → rowBlk s = some b → 0 < n → ¬ b < E.old) (hb : rowAt s = some (b, off)) (hq : q + k ≤ c.length) (h0 : 0 < n) : rd E g ⟨b, off + q, none⟩ k = some ((c.drop q).take k) := by
  obtain ⟨hc, h⟩ := h
  have own : RowOwn g s n c e sz → ¬ b < E.old → rd E g ⟨b, off + q, none⟩ k = some ((c.drop q).take k) := by
    rintro ⟨b', p, m, j, x, rfl, hj, hg⟩ ho
    simp only [rowAt, Option.some.injEq, Prod.mk.injEq] at hb
    obtain ⟨rfl, rfl⟩ := hb
    simp only [rd, Option.isSome_none, Bool.false_eq_true, if_false, ho, hg]
    rw [if_pos (by simp; omega), List.drop_append, List.drop_eq_nil_of_le (by omega), List.nil_append, show p.length + q - p.length = q by omega, List.drop_append_of_le_length (by omega), List.take_append_of_le_length (by simp; omega)]
  match kd, h with
  | 0, h =>
    rcases h with ⟨rfl, rfl⟩ | h
    · omega
    · refine own h (hown (by omega) ?_ h0)
      obtain ⟨b', p, m, j, x, rfl, _⟩ := h
      simp only [rowAt, Option.some.injEq, Prod.mk.injEq] at hb
      simp [rowBlk, hb.1]
  | 1, h =>
    rcases h with ⟨a, m, rfl, rfl⟩ | ⟨_, h⟩
    · omega
    · refine own h (hown (by omega) ?_ h0)
      obtain ⟨b', p, m, j, x, rfl, _⟩ := h
      simp only [rowAt, Option.some.injEq, Prod.mk.injEq] at hb
      simp [rowBlk, hb.1]
  | kk + 2, h =>
    rcases h with ⟨a, m, rfl, rfl⟩ | ⟨b', o', m, rfl, hlt, hr⟩
    · omega
    · simp only [rowAt, Option.some.injEq, Prod.mk.injEq] at hb
      obtain ⟨rfl, rfl⟩ := hb
      simp only [rd, Option.isSome_none, Bool.false_eq_true, if_false, hlt, if_true]
      exact rdOld_part _ _ _ _ hr _ _ (by omega)

theorem Own.row {σ : St} {kd : Nat} {s : Value} {n : Nat} {c : List Value} {e : TypeId} {sz : Nat} (h : Own E σ L) (hs : Sel L (.row kd s n c e sz) R) : RowOk E σ.heap.get kd s n c e sz := (h.sel hs).ok (.row kd s n c e sz) (by simp)
theorem Own.row_old {σ : St} {kd : Nat} {s : Value} {n : Nat} {c : List Value} {e : TypeId} {sz b : Nat} (h : Own E σ L) (hs : Sel L (.row kd s n c e sz) R) : kd < 2 → rowBlk s = some b → 0 < n → ¬ b < E.old := by
  intro hk hb h0
  have h1 := ((h.sel hs).lt b (by rw [idsL_cons]; refine List.mem_append.2 (.inl ?_); obtain rfl | rfl : kd = 0 ∨ kd = 1 := by omega
                                  · simp [Res.ids, hb]
                                  · simp [Res.ids, hb]; omega)).1
  omega
theorem Own.rowRd {σ : St} {kd : Nat} {s : Value} {n : Nat} {c : List Value} {e : TypeId} {sz b off q k : Nat} (h : Own E σ L) (hs : Sel L (.row kd s n c e sz) R) (hb : rowAt s = some (b, off)) (hq : q + k ≤ c.length) (h0 : 0 < n) : rd E σ.heap.get ⟨b, off + q, none⟩ k = some ((c.drop q).take k) :=
  (h.row hs).read (h.row_old hs) hb hq h0

theorem ro_lenR {x : Operand} {ts : Array TypeId} {kd : Nat} {s : Value} {n : Nat} {c : List Value} {e : TypeId} {sz : Nat} {t e' : TypeId} (hw : Region.wanted o (yieldA ops fr) = true) (hop : o.op = .call { callee := .builtin .len, args := #[x], argTypes := ts }) (hP : E.P = P) (hx : Opd fr x = s) (hs : Sel L (.row kd s n c e sz) R)
    (hts : ts = #[t]) (ht : P.underlying t = some (.slice e')) (hk : RO E call ops base (i + 1) rest (put fr o.dst (.int .i64 n)) L fun rs => K (.mem (fun g => evOp E (Opd fr) (base + i) g o) ⟨.int .i64 n, [], []⟩ :: rs)) : ROC E call ops base i o rest fr L K :=
  ro_mem (by unfold callOf; rw [hop]) hw fun σ r ho => by
    obtain ⟨a, m, hsh, _⟩ := (ho.tail.tail.row hs).shape
    refine ⟨_, L, ev_len hop hP hx ?_, ho.tail, hk⟩
    subst hts hsh
    exact slice_len ht _ _ _

theorem ro_iaR {t : TypeId} {x ix : Operand} {kd : Nat} {s : Value} {n : Nat} {c : List Value} {e e' : TypeId} {sz : Nat} {ki : IntKind} {iv : Int} (hw : Region.wanted o (yieldA ops fr) = true) (hop : o.op = .indexAddr t x ix) (hP : E.P = P) (hx : Opd fr x = s) (hi : Opd fr ix = .int ki iv) (hs : Sel L (.row kd s n c e sz) R)
    (h0 : 0 ≤ iv) (h1 : iv < n) (ht : P.underlying t = some (.slice e')) (hz : sizeT P e' = some sz)
    (hk : ∀ b off, rowAt s = some (b, off) → RO E call ops base (i + 1) rest (put fr o.dst (.pointer (some ⟨b, off + iv.toNat * sz, none⟩))) L fun rs => K (.mem (fun g => evOp E (Opd fr) (base + i) g o) ⟨.pointer (some ⟨b, off + iv.toNat * sz, none⟩), [], []⟩ :: rs)) : ROC E call ops base i o rest fr L K :=
  ro_mem (by unfold callOf; rw [hop]) hw fun σ r ho => by
    obtain ⟨a, m, rfl, ha⟩ := (ho.tail.tail.row hs).shape
    obtain ⟨b, off, rfl⟩ := ha (by omega)
    exact ⟨_, L, ev_ia hop hP hx hi (slice_ia ht hz _ _ _ _ _ _ h0 h1), ho.tail, hk b off rfl⟩

theorem ro_ldR1 {t : TypeId} {x : Operand} {b off p q : Nat} {kd : Nat} {s : Value} {n : Nat} {c : List Value} {e : TypeId} {sz : Nat} {v : Value} (hw : Region.wanted o (yieldA ops fr) = true) (hop : o.op = .load t x) (hP : E.P = P) (ha : isAggT P t = some false) (hx : Opd fr x = .pointer (some ⟨b, p, none⟩)) (hb : rowAt s = some (b, off)) (hp : p = off + q) (hs : Sel L (.row kd s n c e sz) R) (hv : c[q]? = some v)
    (hk : RO E call ops base (i + 1) rest (put fr o.dst v) L fun rs => K (.mem (fun g => evOp E (Opd fr) (base + i) g o) ⟨v, [], [b]⟩ :: rs)) : ROC E call ops base i o rest fr L K :=
  ro_mem (by unfold callOf; rw [hop]) hw fun σ r ho => by
    subst hp hP
    have hlt : q < c.length := (List.getElem?_eq_some_iff.1 hv).1
    have h0 : 0 < n := by
      have := (ho.tail.tail.row hs).1
      rcases Nat.eq_zero_or_pos n with rfl | h
      · omega
      · exact h
    have hrd := ho.tail.tail.rowRd hs hb (q := q) (k := 1) (by omega) h0
    refine ⟨⟨v, [], [b]⟩, L, ?_, ho.tail, hk⟩
    have hv2 : c[q] = v := (List.getElem?_eq_some_iff.1 hv).2
    rw [List.drop_eq_getElem_cons hlt, hv2] at hrd
    unfold evOp
    simp only [hop, hx, evLoad, ha, hrd, List.take_succ_cons, List.take_zero]

theorem ro_ldRN {t : TypeId} {x : Operand} {b off p q m : Nat} {kd : Nat} {s : Value} {n : Nat} {c l : List Value} {e : TypeId} {sz : Nat} (hw : Region.wanted o (yieldA ops fr) = true) (hop : o.op = .load t x) (hP : E.P = P) (ha : isAggT P t = some true) (hx : Opd fr x = .pointer (some ⟨b, p, none⟩)) (hb : rowAt s = some (b, off)) (hp : p = off + q) (hs : Sel L (.row kd s n c e sz) R) (hm : sizeT P t = some m) (h0 : 0 < n) (hle : q + m ≤ c.length) (hl : (c.drop q).take m = l)
    (hk : RO E call ops base (i + 1) rest (put fr o.dst (.agg l.toArray)) L fun rs => K (.mem (fun g => evOp E (Opd fr) (base + i) g o) ⟨.agg l.toArray, [], [b]⟩ :: rs)) : ROC E call ops base i o rest fr L K :=
  ro_mem (by unfold callOf; rw [hop]) hw fun σ r ho => by
    subst hp hP hl
    have hrd := ho.tail.tail.rowRd hs hb (q := q) (k := m) hle h0
    refine ⟨⟨.agg _, [], [b]⟩, L, ?_, ho.tail, hk⟩
    unfold evOp
    simp only [hop, hx, evLoad, ha, hm, hrd]
end

/-! Rows that are written. -/
section
variable {E : Env} {call : CallF} {ops : List Oper} {base i : Nat} {o : Oper} {rest : List Oper} {fr fr' : List Value} {L L' R : List Res} {K : List Rec → List Value → St → Prop} {P : Program}

theorem wrList_app {c j vs : List Value} {q : Nat} (h : q + vs.length ≤ c.length) : wrList (c ++ j) q vs = wrList c q vs ++ j := by
  unfold wrList
  rw [List.take_append_of_le_length (by omega), List.drop_append_of_le_length (by omega)]
  simp
theorem wrList_pre {p c vs : List Value} {q : Nat} : wrList (p ++ c) (p.length + q) vs = p ++ wrList c q vs := by
  unfold wrList
  rw [List.take_append, List.take_of_length_le (by omega), List.drop_append, List.drop_eq_nil_of_le (by omega), show p.length + q - p.length = q by omega, show p.length + q + vs.length - p.length = q + vs.length by omega]
  simp
theorem wrList_len {c vs : List Value} {q : Nat} (h : q + vs.length ≤ c.length) : (wrList c q vs).length = c.length := by
  unfold wrList; simp; omega

theorem ro_stR {t : TypeId} {x y : Operand} {b off p q m : Nat} {s : Value} {n : Nat} {c c' l : List Value} {e : TypeId} {sz : Nat} {v : Value} (hw : Region.wanted o (yieldA ops fr) = true) (hop : o.op = .store t x y) (hP : E.P = P) (hx : Opd fr x = .pointer (some ⟨b, p, none⟩)) (hy : Opd fr y = v) (hb : rowAt s = some (b, off)) (hp : p = off + q) (hs : Sel L (.row 0 s n c e sz) R)
    (hm : sizeT P t = some m) (hl : v.cells.toList = l) (hlen : l.length = m) (hone : l.all oneCell = true) (hle : q + m ≤ c.length) (hwr : wrList c q l = c')
    (hk : ∀ e', RO E call ops base (i + 1) rest (put fr o.dst (.tuple #[])) (.row 0 s n c' e sz :: R) fun rs => K (.mem (fun g => evOp E (Opd fr) (base + i) g o) e' :: rs)) : ROC E call ops base i o rest fr L K :=
  ro_mem (by unfold callOf; rw [hop]) hw fun σ r ho => by
    subst hp hwr hlen
    have hr := ho.tail.tail.row hs
    have hro := ho.tail.tail.row_old hs (b := b) (by omega)
    obtain ⟨hc, hr⟩ := hr
    rcases hr with ⟨rfl, rfl⟩ | ⟨b', p, m', j, ex, rfl, hj, hg⟩
    · cases hb
    simp only [rowAt, Option.some.injEq, Prod.mk.injEq] at hb
    obtain ⟨rfl, rfl⟩ := hb
    have h1 : Own E σ (.row 0 (.slice (some ⟨b', p.length, none⟩) n (n + m')) n c e sz :: r :: R) := (ho.tail.perm (hs.perm.cons r)).perm (List.Perm.swap _ _ _)
    have hnb : ¬ b' < E.old := by
      have := (h1.lt b' (by simp [idsL, Res.ids, rowBlk])).1
      omega
    refine ⟨_, _, ev_store hop hP hx hy hnb hg hm hl rfl hone (by simp; omega) rfl, ?_, hk _⟩
    have h2 := Own.upd (A := [_]) (A' := [.row 0 (.slice (some ⟨b', p.length, none⟩) n (n + m')) n (wrList c q l) e sz]) (h' := σ.heap.set b' (some (.cells (wrList (p ++ (c ++ j)) (p.length + q) l) e ex))) h1 (by simp [idsL, Res.ids, rowBlk]) (by simp [idsL, Res.ids, rowBlk])
      (by
        simp only [List.mem_cons, List.not_mem_nil, or_false, forall_eq, Res.ok]
        exact ⟨by rw [wrList_len hle]; exact hc, .inr ⟨b', p, m', j, ex, rfl, hj, by rw [T.get_set_self, wrList_pre, wrList_app hle]⟩⟩)
      (fun x hx => by simp [idsL, Res.ids, rowBlk] at hx; exact T.get_set_ne _ _ _ _ hx)
    exact h2.perm (List.Perm.swap _ _ _)

/-- What a slice says of itself, when it is appended. -/
structure Src (E : Env) (R : List Res) (sz m : Nat) (y : Value) (new : List Value) : Prop where
  rd : ∀ σ, Own E σ R → lenV y = some m ∧ strOk y sz = true ∧ rdRow E σ.heap.get sz m y = some new
  one : new.all oneCell = true
  ln : new.length = m * sz

theorem src_blk {b off m cap sz : Nat} {c new : List Value} {el : TypeId} {ex : Bool} {S : List Res} (hs : Sel R (.blk b c el ex) S) (hle : off + m * sz ≤ c.length) (hn : (c.drop off).take (m * sz) = new) (ho : new.all oneCell = true) : Src E R sz m (.slice (some ⟨b, off, none⟩) m cap) new := by
  refine ⟨fun σ own => ⟨rfl, rfl, ?_⟩, ho, by subst hn; simp; omega⟩
  obtain ⟨h1, h2⟩ := own.get hs
  by_cases hm : m = 0
  · subst hm; subst hn; simp [rdRow]
  simp only [rdRow, hm, Nat.le_refl, if_true, rd, Option.isSome_none, Bool.false_eq_true, if_false, h1, h2]
  rw [if_pos hle, hn]

theorem src_row {kd m sz : Nat} {s : Value} {c : List Value} {el : TypeId} {S : List Res} (hs : Sel R (.row kd s m c el sz) S) (ho : c.all oneCell = true) (hc : c.length = m * sz) : Src E R sz m s c := by
  refine ⟨fun σ own => ?_, ho, hc⟩
  obtain ⟨a, k, rfl, ha⟩ := (own.row hs).shape
  by_cases hm : m = 0
  · subst hm
    have : c = [] := List.length_eq_zero_iff.1 (by omega)
    subst this
    cases a <;> exact ⟨rfl, rfl, by simp [rdRow]⟩
  obtain ⟨b, o, rfl⟩ := ha (by omega)
  refine ⟨rfl, rfl, ?_⟩
  have := own.rowRd hs (b := b) (off := o) (q := 0) (k := m * sz) rfl (by omega) (by omega)
  simp only [rdRow, hm, if_false, Nat.le_refl, if_true]
  rw [Nat.add_zero] at this
  rw [this, List.drop_zero, ← hc, List.take_length]

theorem src_str {s : ByteArray} {m : Nat} {new : List Value} (hm : s.size = m) (hn : (s.data.map fun b => Value.int .u8 b.toNat).toList = new) : Src E R 1 m (.string s) new := by
  subst hm
  refine ⟨fun σ own => ⟨rfl, rfl, ?_⟩, ?_, ?_⟩
  · simp only [rdRow, Nat.le_refl, if_true]
    simp [← hn]
  · subst hn
    rw [List.all_eq_true]
    intro a h
    simp only [Array.toList_map, List.mem_map] at h
    obtain ⟨_, _, rfl⟩ := h
    rfl
  · subst hn
    simp only [Array.toList_map, List.length_map, Nat.mul_one]
    rfl

/-- append to a row of one's own. -/
theorem row_append {σ : St} {r : Res} {s y : Value} {n m : Nat} {c new : List Value} {el : TypeId} {sz bytes b : Nat} {z : Array Value} {t0 t1 : TypeId} {d : TypeDesc} (ho : Own E σ (.rsv b 1 :: r :: .row 0 s n c el sz :: R)) (hP : E.P = P)
    (hel : elemT P t0 = some el) (hu : P.underlying t1 = some d) (hd : isSlStr d = true) (hsz : sizeT P el = some sz) (hby : bytesT P el = some bytes) (hz : zeroCells? P el = some z) (hzs : z.size = sz) (h0 : sz ≠ 0)
    (hy : Src E R sz m y new) (hfit : (n + m) * bytes ≤ 140737488355328) (h63 : n + m ≤ 9223372036854775807) :
    ∃ e s', evAppend E σ.heap.get b #[t0, t1] s y = some e ∧ (∃ a cap, e.val = s' ∧ s' = .slice a (n + m) cap) ∧ Own E ⟨upds σ.heap e.upd, σ.next⟩ (r :: .row 0 s' (n + m) (c ++ new) el sz :: R) := by
  subst hP
  obtain ⟨i, hi⟩ : ∃ i, E.P.info? el = some i := by
    unfold sizeT at hsz
    cases hi : E.P.info? el with
    | none => simp [hi] at hsz
    | some i => exact ⟨i, rfl⟩
  have hisz : i.size = sz := by simpa [sizeT, hi] using hsz
  have hib : i.bytes = bytes := by simpa [bytesT, hi] using hby
  subst hisz; subst hib
  obtain ⟨hylen, hystr, hnew⟩ := hy.rd σ ho.tail.tail.tail
  have hc0 : ¬ (i.size = 0 ∨ z.size ≠ i.size ∨ strOk y i.size = false) := by simp [h0, hzs, hystr]
  have hrow := (ho.tail.tail.ok (.row 0 s n c el i.size) (by simp))
  obtain ⟨hc, hrow⟩ := hrow
  have hnodup := ho.nodup
  have hP : (.rsv b 1 :: r :: .row 0 s n c el i.size :: R : List Res).Perm (.rsv b 1 :: .row 0 s n c el i.size :: r :: R) := (List.Perm.swap _ _ _).cons _
  have ho2 := ho.perm hP
  unfold evAppend
  simp only [List.getElem?_toArray, List.getElem?_cons_zero, List.getElem?_cons_succ, Option.bind_some, hel, hu, hd, hi, hz, hylen, hc0, Bool.not_true, Bool.false_eq_true, if_false]
  rcases hrow with ⟨rfl, rfl⟩ | ⟨b', p, k, j, x, rfl, hj, hg⟩
  · have hcn : c = [] := List.length_eq_zero_iff.1 (by omega)
    subst hcn
    simp only [hnew]
    by_cases hm : m = 0
    · subst hm
      refine ⟨_, _, by simp only [Nat.add_zero, Nat.le_refl, if_true]; rfl, ⟨_, _, rfl, rfl⟩, ?_⟩
      have hnn : new = [] := List.length_eq_zero_iff.1 (by have := hy.ln; omega)
      subst hnn
      simp only [upds]
      exact ho.tail
    · rw [if_neg (by omega), if_pos ⟨hfit, h63⟩]
      refine ⟨_, _, by simp only [Nat.zero_add, and_self, if_true]; rfl, ⟨_, _, rfl, by rw [Nat.zero_add]⟩, ?_⟩
      simp only [upds, List.nil_append, Nat.zero_add]
      have := Own.upd (A := [.rsv b 1, .row 0 (.slice none 0 0) 0 [] el i.size]) (A' := [.row 0 (.slice (some ⟨b, 0, none⟩) m m) m new el i.size]) (h' := σ.heap.set b (some (.cells new el false))) ho2 (by simp [idsL, Res.ids, rowBlk]) (by simp [idsL, Res.ids, rowBlk])
        (by
          simp only [List.mem_cons, List.not_mem_nil, or_false, forall_eq, Res.ok]
          exact ⟨hy.ln, .inr ⟨b, [], 0, [], false, rfl, by simp, by rw [T.get_set_self]; simp⟩⟩)
        (fun x hx => by simp [idsL, Res.ids, rowBlk] at hx; exact T.get_set_ne _ _ _ _ hx)
      exact this.perm (List.Perm.swap _ _ _)
  · simp only [hnew]
    have hnb : ¬ b' < E.old := by
      have := (ho.lt b' (by simp [idsL, Res.ids, rowBlk])).1
      omega
    by_cases hm : m = 0
    · subst hm
      have hnn : new = [] := List.length_eq_zero_iff.1 (by have := hy.ln; omega)
      subst hnn
      rw [if_pos (by omega)]
      refine ⟨_, _, rfl, ⟨_, _, rfl, rfl⟩, ?_⟩
      simp only [upds, List.append_nil, Nat.add_zero]
      refine Ent.own (.cons .head (.cons .head .refl)) ho.tail
    by_cases hfit2 : n + m ≤ n + k
    · rw [if_pos hfit2, if_neg hm]
      have hml : m * i.size ≤ k * i.size := Nat.mul_le_mul_right _ (by omega)
      have hln := hy.ln
      have hwr : wr E σ.heap.get ⟨b', p.length + n * i.size, none⟩ new = some (b', some (.cells (wrList (p ++ (c ++ j)) (p.length + n * i.size) new) el x)) := by
        have hh : ¬ (((⟨b', p.length + n * i.size, none⟩ : Addr).spot.isSome || decide (b' < E.old)) || !new.all oneCell) = true := by simp [hnb]; simpa using hy.one
        unfold wr
        rw [if_neg hh]
        simp only [hg]
        rw [if_pos (by simp; omega)]
      refine ⟨⟨.slice (some ⟨b', p.length, none⟩) (n + m) (n + k), [(b', some (.cells (wrList (p ++ (c ++ j)) (p.length + n * i.size) new) el x))], _⟩, _, by simp only [Option.isSome_none, Bool.false_eq_true, if_false, hwr]; rfl, ⟨_, _, rfl, rfl⟩, ?_⟩
      simp only [upds]
      have := Own.upd (A := [.row 0 (.slice (some ⟨b', p.length, none⟩) n (n + k)) n c el i.size]) (A' := [.row 0 (.slice (some ⟨b', p.length, none⟩) (n + m) (n + k)) (n + m) (c ++ new) el i.size]) (h' := σ.heap.set b' (some (.cells (wrList (p ++ (c ++ j)) (p.length + n * i.size) new) el x))) ho2.tail (by simp [idsL, Res.ids, rowBlk]) (by simp [idsL, Res.ids, rowBlk])
        (by
          simp only [List.mem_cons, List.not_mem_nil, or_false, forall_eq, Res.ok]
          refine ⟨by simp [hc, hln, Nat.add_mul], .inr ⟨b', p, k - m, j.drop new.length, x, by congr 1; omega, ?_, ?_⟩⟩
          · simp [hj, hln, Nat.sub_mul]
          · rw [T.get_set_self, wrList_pre]
            unfold wrList
            rw [← hc, List.take_left', List.drop_append, List.drop_eq_nil_of_le (by omega)]
            · simp
            · rfl)
        (fun x hx => by simp [idsL, Res.ids, rowBlk] at hx; exact T.get_set_ne _ _ _ _ hx)
      exact this.perm (List.Perm.swap _ _ _)
    · rw [if_neg hfit2, if_pos ⟨hfit, h63⟩]
      have hrd : rdRow E σ.heap.get i.size n (.slice (some ⟨b', p.length, none⟩) n (n + k)) = some c := by
        by_cases hn0 : n = 0
        · subst hn0
          have : c = [] := List.length_eq_zero_iff.1 (by omega)
          simp [rdRow, this]
        simp only [rdRow, hn0, Nat.le_refl, if_true, rd, Option.isSome_none, Bool.false_eq_true, if_false, hnb, hg]
        rw [if_pos (by simp; omega), List.drop_append, List.drop_eq_nil_of_le (by omega), List.nil_append, Nat.sub_self, List.drop_zero, ← hc]
        simp
      have fin : ∀ X : T, (X.get b = some (.cells (c ++ new) el false)) → (∀ q, q ≠ b → q ≠ b' → X.get q = σ.heap.get q) → Own E ⟨X, σ.next⟩ (r :: .row 0 (.slice (some ⟨b, 0, none⟩) (n + m) (n + m)) (n + m) (c ++ new) el i.size :: R) := by
        intro X h1 h2
        have := Own.upd (A := [.rsv b 1, .row 0 (.slice (some ⟨b', p.length, none⟩) n (n + k)) n c el i.size]) (A' := [.row 0 (.slice (some ⟨b, 0, none⟩) (n + m) (n + m)) (n + m) (c ++ new) el i.size]) (h' := X) ho2 (by simp [idsL, Res.ids, rowBlk]) (by simp [idsL, Res.ids, rowBlk])
          (by
            simp only [List.mem_cons, List.not_mem_nil, or_false, forall_eq, Res.ok]
            exact ⟨by simp [hc, hy.ln, Nat.add_mul], .inr ⟨b, [], 0, [], false, rfl, by simp, by rw [h1]; simp⟩⟩)
          (fun x hx => by simp [idsL, Res.ids, rowBlk] at hx; exact h2 x hx.1 hx.2)
        exact this.perm (List.Perm.swap _ _ _)
      have hbb : b ≠ b' := by
        rintro rfl
        rw [idsL_cons, idsL_cons, idsL_cons] at hnodup
        simp [Res.ids, rowBlk] at hnodup
      have hop : opens E σ.heap.get ⟨b', p.length, none⟩ (n + k) el i.size = some (if x then false else true) := by
        unfold opens
        simp only [hnb, if_false, hg]
        cases x
        · simp [hc, hj, Nat.add_mul]
        · rfl
      simp only [hrd, hop, hy.one, Bool.true_eq_false, if_false]
      cases x
      · refine ⟨_, _, rfl, ⟨_, _, rfl, rfl⟩, ?_⟩
        simp only [upds]
        refine fin _ (T.get_set_self _ _ _) fun q h1 h2 => ?_
        rw [T.get_set_ne _ _ _ _ h1, T.get_set_ne _ _ _ _ h2]
      · refine ⟨_, _, rfl, ⟨_, _, rfl, rfl⟩, ?_⟩
        simp only [upds]
        exact fin _ (T.get_set_self _ _ _) fun q h1 h2 => T.get_set_ne _ _ _ _ h1

theorem ro_app {x y : Operand} {ts : Array TypeId} {s ys : Value} {n m : Nat} {c new : List Value} {el : TypeId} {sz bytes : Nat} {z : Array Value} {t0 t1 : TypeId} {d : TypeDesc} (hw : Region.wanted o (yieldA ops fr) = true) (hop : o.op = .call { callee := .builtin .append, args := #[x, y], argTypes := ts }) (hts : ts = #[t0, t1]) (hP : E.P = P)
    (hx : Opd fr x = s) (hy : Opd fr y = ys) (hs : Sel L (.row 0 s n c el sz) R) (hel : elemT P t0 = some el) (hu : P.underlying t1 = some d) (hd : isSlStr d = true) (hsz : sizeT P el = some sz) (hby : bytesT P el = some bytes) (hz : zeroCells? P el = some z) (hzs : z.size = sz) (h0 : sz ≠ 0)
    (hsrc : Src E R sz m ys new) (hfit : (n + m) * bytes ≤ 140737488355328) (h63 : n + m ≤ 9223372036854775807)
    (hk : ∀ a cap e', RO E call ops base (i + 1) rest (put fr o.dst (.slice a (n + m) cap)) (.row 0 (.slice a (n + m) cap) (n + m) (c ++ new) el sz :: R) fun rs => K (.mem (fun g => evOp E (Opd fr) (base + i) g o) e' :: rs)) : ROC E call ops base i o rest fr L K :=
  ro_mem (by unfold callOf; rw [hop]) hw fun σ r ho => by
    have h1 : Own E σ (.rsv (base + i) 1 :: r :: .row 0 s n c el sz :: R) := ho.perm ((hs.perm.cons r).cons _)
    obtain ⟨e, s', he, ⟨a, cap, hv, rfl⟩, hown⟩ := row_append h1 hP hel hu hd hsz hby hz hzs h0 hsrc hfit h63
    subst hts
    refine ⟨e, _, ?_, hown, by rw [hv]; exact hk a cap e⟩
    unfold evOp
    simp only [hop, List.map_cons, List.map_nil, hx, hy, evBuiltin]
    exact he
end
end Go.Ab

/- More rules on what is owned: nil tests of rows, rows opened, pairs of operations. -/
set_option linter.all false
open Go.RowKit
namespace Go.Ab

theorem ba_beq (x y : ByteArray) : (x == y) = decide (x = y) := by
  cases x with | mk a => cases y with | mk b =>
  show ByteArray.beq _ _ = _
  unfold ByteArray.beq
  by_cases h : a = b <;> simp [h]
section
variable {E : Env} {call : CallF} {k : Nat} {fid : FuncId} {ops : List Oper} {base i : Nat} {o : Oper} {rest : List Oper} {fr fr' : List Value} {L L' R : List Res} {K : List Rec → List Value → St → Prop} {P : Program}

/-- A row is nil, or it isn't. -/
theorem ro_nilR {op : BinOp} {t ty : TypeId} {x y : Operand} {s : Value} {n : Nat} {c : List Value} {e : TypeId} {sz : Nat} (hw : Region.wanted o (yieldA ops fr) = true) (hop : o.op = .binOp op t x y ty) (hP : E.P = P) (h1 : isPtr P t = false) (h2 : isSl P t = true) (ho : op = .eql) (hx : Opd fr x = s) (hy : Opd fr y = .slice none 0 0) (hs : Sel L (.row 0 s n c e sz) R)
    (ht : s = .slice none 0 0 → n = 0 → RO E call ops base (i + 1) rest (put fr o.dst (.bool true)) L fun rs => K (.mem (fun g => evOp E (Opd fr) (base + i) g o) ⟨.bool true, [], []⟩ :: rs))
    (hf : s ≠ .slice none 0 0 → RO E call ops base (i + 1) rest (put fr o.dst (.bool false)) L fun rs => K (.mem (fun g => evOp E (Opd fr) (base + i) g o) ⟨.bool false, [], []⟩ :: rs)) : ROC E call ops base i o rest fr L K :=
  ro_mem (by unfold callOf; rw [hop]) hw fun σ r ho' => by
    subst hP ho
    have hr := ho'.tail.tail.row hs
    rcases hr.2 with ⟨rfl, rfl⟩ | ⟨b, p, m, j, xx, rfl, _⟩
    · exact ⟨_, L, ev_binL hop rfl hx hy (by simp only [slice_nil h1 h2, evNilS]; rfl), ho'.tail, ht rfl rfl⟩
    · exact ⟨_, L, ev_binL hop rfl hx hy (by simp only [slice_nil h1 h2, evNilS]; rfl), ho'.tail, hf (by simp)⟩

/-- An empty slice of one's own is a row. -/
theorem o_emptyrow {b : Nat} {e : TypeId} {x : Bool} {G : St → Prop} (sz : Nat) (hs : Sel L (.blk b [] e x) R) (hx : O E (.row 0 (.slice (some ⟨b, 0, none⟩) 0 0) 0 [] e sz :: R) G) : O E L G := by
  intro σ ho
  have h1 := ho.sel hs
  have h2 := h1.ok (.blk b [] e x) (by simp)
  simp only [Res.ok] at h2
  refine hx σ ?_
  have := Own.upd (A := [.blk b [] e x]) (A' := [.row 0 (.slice (some ⟨b, 0, none⟩) 0 0) 0 [] e sz]) (h' := σ.heap) h1 (by simp [idsL, Res.ids, rowBlk]) (by simp [idsL, Res.ids, rowBlk])
    (by
      simp only [List.mem_cons, List.not_mem_nil, or_false, forall_eq, Res.ok]
      exact ⟨by simp, .inr ⟨b, [], 0, [], x, rfl, by simp, by simpa using h2⟩⟩) (fun _ _ => rfl)
  exact this

/-- A block that a slice fills from end to end is a row. -/
theorem o_fullrow {b n m sz : Nat} {c d : List Value} {e : TypeId} {x : Bool} {G : St → Prop} (hs : Sel L (.blk b (c ++ d) e x) R) (hc : c.length = n * sz) (hd : d.length = m * sz) (hx : O E (.row 0 (.slice (some ⟨b, 0, none⟩) n (n + m)) n c e sz :: R) G) : O E L G := by
  intro σ ho
  have h1 := ho.sel hs
  have h2 := h1.ok (.blk b (c ++ d) e x) (by simp)
  simp only [Res.ok] at h2
  refine hx σ ?_
  have := Own.upd (A := [.blk b (c ++ d) e x]) (A' := [.row 0 (.slice (some ⟨b, 0, none⟩) n (n + m)) n c e sz]) (h' := σ.heap) h1 (by simp [idsL, Res.ids, rowBlk]) (by simp [idsL, Res.ids, rowBlk])
    (by
      simp only [List.mem_cons, List.not_mem_nil, or_false, forall_eq, Res.ok]
      exact ⟨hc, .inr ⟨b, [], m, d, x, rfl, hd, h2⟩⟩) (fun _ _ => rfl)
  exact this
theorem ro_emptyrow {b : Nat} {e : TypeId} {x : Bool} {rest : List Oper} (sz : Nat) (hs : Sel L (.blk b [] e x) R) (hx : RO E call ops base i rest fr (.row 0 (.slice (some ⟨b, 0, none⟩) 0 0) 0 [] e sz :: R) K) : RO E call ops base i rest fr L K :=
  o_emptyrow sz hs.tail (O.ent (.cons (.tail .head) (.cons .head .refl)) hx)

/-- A row opened: nil, or a block. -/
theorem o_openrow {s : Value} {n : Nat} {c : List Value} {e : TypeId} {sz : Nat} {G : St → Prop} (hs : Sel L (.row 0 s n c e sz) R)
    (h0 : s = .slice none 0 0 → n = 0 → c = [] → O E R G)
    (h1 : ∀ b p m j x, s = .slice (some ⟨b, p.length, none⟩) n (n + m) → c.length = n * sz → j.length = m * sz → O E (.blk b (p ++ (c ++ j)) e x :: R) G) : O E L G := by
  intro σ ho
  have ho1 := ho.sel hs
  obtain ⟨hc, hr⟩ := ho.row hs
  rcases hr with ⟨rfl, rfl⟩ | ⟨b, p, m, j, x, rfl, hj, hg⟩
  · exact h0 rfl rfl (List.length_eq_zero_iff.1 (by omega)) σ ho1.tail
  · refine h1 b p m j x rfl hc hj σ ?_
    have := Own.upd (A := [.row 0 (.slice (some ⟨b, p.length, none⟩) n (n + m)) n c e sz]) (A' := [.blk b (p ++ (c ++ j)) e x]) (h' := σ.heap) ho1 (by simp [idsL, Res.ids, rowBlk]) (by simp [idsL, Res.ids, rowBlk])
      (by simp only [List.mem_cons, List.not_mem_nil, or_false, forall_eq, Res.ok]; exact hg) (fun _ _ => rfl)
    exact this
/-- A part of a block is a row. -/
theorem o_partrow {b n m sz : Nat} {p c d : List Value} {e : TypeId} {x : Bool} {G : St → Prop} (hs : Sel L (.blk b (p ++ (c ++ d)) e x) R) (hc : c.length = n * sz) (hd : d.length = m * sz) (hx : O E (.row 0 (.slice (some ⟨b, p.length, none⟩) n (n + m)) n c e sz :: R) G) : O E L G := by
  intro σ ho
  have h1 := ho.sel hs
  have h2 := h1.ok (.blk b (p ++ (c ++ d)) e x) (by simp)
  simp only [Res.ok] at h2
  refine hx σ ?_
  have := Own.upd (A := [.blk b (p ++ (c ++ d)) e x]) (A' := [.row 0 (.slice (some ⟨b, p.length, none⟩) n (n + m)) n c e sz]) (h' := σ.heap) h1 (by simp [idsL, Res.ids, rowBlk]) (by simp [idsL, Res.ids, rowBlk])
    (by
      simp only [List.mem_cons, List.not_mem_nil, or_false, forall_eq, Res.ok]
      exact ⟨hc, .inr ⟨b, p, m, d, x, rfl, hd, h2⟩⟩) (fun _ _ => rfl)
  exact this

/-- A row is a slice. -/
theorem o_shape {kd : Nat} {s : Value} {n : Nat} {c : List Value} {e : TypeId} {sz : Nat} {G : St → Prop} (hs : Sel L (.row kd s n c e sz) R) (hx : ∀ a m, s = .slice a n m → O E L G) : O E L G := fun σ ho => by
  obtain ⟨a, m, h, _⟩ := (ho.row hs).shape
  exact hx a m h σ ho
/-- A row has as many cells as it should; it is nil only if it is empty. -/
theorem o_rowlen {kd : Nat} {s : Value} {n : Nat} {c : List Value} {e : TypeId} {sz : Nat} {G : St → Prop} (hs : Sel L (.row kd s n c e sz) R) (hx : c.length = n * sz → O E L G) : O E L G := fun σ ho => hx (ho.row hs).1 σ ho

/-- All that append asks of its types. -/
structure AppT (P : Program) (t0 t1 el : TypeId) (sz bytes : Nat) : Prop where
  elT : elemT P t0 = some el
  un : ∃ d, P.underlying t1 = some d ∧ isSlStr d = true
  szT : sizeT P el = some sz
  by_ : bytesT P el = some bytes
  ze : ∃ z, zeroCells? P el = some z ∧ z.size = sz
  ne : sz ≠ 0
theorem ro_app2 {x y : Operand} {ts : Array TypeId} {s ys : Value} {n m : Nat} {c new : List Value} {el : TypeId} {sz bytes : Nat} {t0 t1 : TypeId} (hw : Region.wanted o (yieldA ops fr) = true) (hop : o.op = .call { callee := .builtin .append, args := #[x, y], argTypes := ts }) (hts : ts = #[t0, t1]) (hP : E.P = P)
    (hx : Opd fr x = s) (hy : Opd fr y = ys) (hs : Sel L (.row 0 s n c el sz) R) (ht : AppT P t0 t1 el sz bytes)
    (hsrc : Src E R sz m ys new) (hfit : (n + m) * bytes ≤ 140737488355328) (h63 : n + m ≤ 9223372036854775807)
    (hk : ∀ a cap e', RO E call ops base (i + 1) rest (put fr o.dst (.slice a (n + m) cap)) (.row 0 (.slice a (n + m) cap) (n + m) (c ++ new) el sz :: R) fun rs => K (.mem (fun g => evOp E (Opd fr) (base + i) g o) e' :: rs)) : ROC E call ops base i o rest fr L K := by
  obtain ⟨d, hd1, hd2⟩ := ht.un
  obtain ⟨z, hz1, hz2⟩ := ht.ze
  exact ro_app hw hop hts hP hx hy hs ht.elT hd1 hd2 ht.szT ht.by_ hz1 hz2 ht.ne hsrc hfit h63 hk

/-- append to a slice that a block of one's own is, from end to end. -/
theorem ro_appF {x y : Operand} {ts : Array TypeId} {b : Nat} {ex : Bool} {ys : Value} {n m : Nat} {c new : List Value} {el : TypeId} {sz bytes : Nat} {t0 t1 : TypeId} (hw : Region.wanted o (yieldA ops fr) = true) (hop : o.op = .call { callee := .builtin .append, args := #[x, y], argTypes := ts }) (hts : ts = #[t0, t1]) (hP : E.P = P)
    (hx : Opd fr x = .slice (some ⟨b, 0, none⟩) n n) (hy : Opd fr y = ys) (hs : Sel L (.blk b c el ex) R) (ht : AppT P t0 t1 el sz bytes) (hc : c.length = n * sz)
    (hsrc : Src E R sz m ys new) (hfit : (n + m) * bytes ≤ 140737488355328) (h63 : n + m ≤ 9223372036854775807)
    (hk : ∀ a cap e', RO E call ops base (i + 1) rest (put fr o.dst (.slice a (n + m) cap)) (.row 0 (.slice a (n + m) cap) (n + m) (c ++ new) el sz :: R) fun rs => K (.mem (fun g => evOp E (Opd fr) (base + i) g o) e' :: rs)) : ROC E call ops base i o rest fr L K := by
  have h1 : ROC E call ops base i o rest fr (.row 0 (.slice (some ⟨b, 0, none⟩) n (n + 0)) n c el sz :: R) K := ro_app2 hw hop hts hP hx hy .head ht hsrc hfit h63 hk
  have h2 : Sel (RSV ops base i :: L) (.blk b (c ++ []) el ex) (RSV ops base i :: R) := by rw [List.append_nil]; exact hs.tail
  exact o_fullrow (d := []) (m := 0) h2 hc (by simp) (O.ent (.cons (.tail .head) (.cons .head .refl)) h1)

/-- What came in, as a row. -/
theorem rdOld_cat {E : Env} {b : Nat} : ∀ (m k o : Nat) (c d : List Value), rdOld E b o m = some c → rdOld E b (o + m) k = some d → rdOld E b o (m + k) = some (c ++ d) := by
  intro m
  induction m with
  | zero => intro k o c d h1 h2; simp only [rdOld, Option.some.injEq] at h1; subst h1; simpa using h2
  | succ m ih =>
    intro k o c d h1 h2
    simp only [rdOld] at h1
    split at h1
    case h_2 => cases h1
    rename_i v hv
    split at h1
    case isFalse => cases h1
    rename_i hold
    split at h1
    case h_2 => cases h1
    rename_i l hl
    cases h1
    have := ih k (o + 1) l d hl (by rw [← h2]; congr 1; omega)
    rw [show m + 1 + k = (m + k) + 1 by omega]
    simp only [rdOld, hv, hold, if_true, this, List.cons_append]
theorem rdOld_rows {E : Env} {b o k : Nat} {C : Nat → List Value} : ∀ (n : Nat), (∀ j, j < n → rdOld E b (o + j * k) k = some (C j)) → rdOld E b o (n * k) = some ((List.range n).flatMap C) := by
  intro n
  induction n with
  | zero => intro _; simp [rdOld]
  | succ n ih =>
    intro h
    rw [Nat.succ_mul, List.range_succ, List.flatMap_append]
    exact rdOld_cat _ _ _ _ _ (ih fun j hj => h j (by omega)) (by simpa using h n (by omega))
theorem rdOld_len {E : Env} {b : Nat} : ∀ (m o : Nat) (c : List Value), rdOld E b o m = some c → c.length = m := by
  intro m
  induction m with
  | zero => intro o c h; simp only [rdOld, Option.some.injEq] at h; subst h; rfl
  | succ m ih =>
    intro o c h
    simp only [rdOld] at h
    split at h
    case h_2 => cases h
    split at h
    case isFalse => cases h
    split at h
    case h_2 => cases h
    rename_i l hl
    cases h
    simp [ih _ _ hl]
theorem o_in {a : Option Addr} {n cap b o k : Nat} {C : Nat → List Value} {G : St → Prop} (e : TypeId) (ha : 0 < n → a = some ⟨b, o, none⟩ ∧ b < E.old) (hrd : ∀ j, j < n → rdOld E b (o + j * k) k = some (C j)) (hx : O E (.row 2 (.slice a n cap) n ((List.range n).flatMap C) e k :: L) G) : O E L G := by
  rcases Nat.eq_zero_or_pos n with rfl | h0
  · exact o_old (by simp) (.inl ⟨_, _, rfl, rfl⟩) hx
  · obtain ⟨rfl, hb⟩ := ha h0
    have := rdOld_rows n hrd
    exact o_old (rdOld_len _ _ _ this) (.inr ⟨b, o, cap, rfl, hb, this⟩) hx

/-! Pairs. -/
theorem disj_of {a b : List Nat} (h : ∀ x ∈ a, ∀ y ∈ b, x ≠ y) : disj a b = true := by
  unfold disj
  simp only [List.all_eq_true, Bool.not_eq_true', List.contains_eq_mem, decide_eq_false_iff_not]
  exact fun x hx hb => h x hx x hb rfl

/-- Ahead of a region: the blocks there are lie below those to come, and are unlike. -/
theorem o_regionQ {pr : FuncId → Nat → List (Nat × Nat)} {id : Nat} {ops : List Oper} {d : Bool} {Q : Ex → List Value → St → Prop} (ps : List (Nat × Nat)) (hpr : E.pairs = pr) (hp : pr fid id = ps) (hx : ∀ base, (∀ x ∈ idsL L, x < base) → (idsL L).Nodup → RO E call ops base 0 ops fr L fun rs fr σ => pairsOk base rs ps = true ∧ Q .normal fr σ) : O E L fun σ => W E call k fid (.region id ops.toArray d) none fr σ Q := by
  intro σ ho
  subst hpr
  refine w_region_pairs ps hp (hx σ.next (fun x hx => (ho.lt x hx).2) ho.nodup _ ?_)
  have := ho.begin (m := ops.length)
  simpa [RSV] using this
theorem ro_allocQ {v : Nat → Value} {c : List Value} {el : TypeId} {ex : Bool} (hc : callOf o = none) (hw : Region.wanted o (yieldA ops fr) = true) (he : ∀ g nid, evOp E (Opd fr) nid g o = some ⟨v nid, [(nid, some (.cells c el ex))], []⟩)
    (hx : ∀ b, b = base + i → RO E call ops base (i + 1) rest (put fr o.dst (v b)) (.blk b c el ex :: L) fun rs => K (.mem (fun g => evOp E (Opd fr) (base + i) g o) ⟨v b, [(b, some (.cells c el ex))], []⟩ :: rs)) : ROC E call ops base i o rest fr L K :=
  ro_mem hc hw fun σ r ho => ⟨_, _, he _ _, ho.alloc, hx _ rfl⟩

/-- append writes the row it is given, or the block that is new; it reads that row, and what is appended. -/
theorem evAppend_eff {g : Nat → Option Blk} {nid : Nat} {ts : Array TypeId} {s y : Value} {e : Eff} (h : evAppend E g nid ts s y = some e) : (∀ u ∈ e.upd.map (·.1), u = nid ∨ rowBlk s = some u) ∧ ∀ u ∈ e.rds, rowBlk s = some u ∨ u ∈ blkOf y := by
  unfold evAppend at h
  split at h
  case h_2 => cases h
  split at h
  · unfold evAppendZ at h
    split at h
    case h_2 => cases h
    split at h
    case h_2 => cases h
    split at h
    · cases h
    split at h
    case h_2 => cases h
    cases h
    exact ⟨by simp, by simp [rowBlk]⟩
  split at h
  case h_2 => cases h
  split at h
  · cases h
  split at h
  case h_2 => cases h
  split at h
  · split at h
    · cases h; exact ⟨by simp, fun u hu => .inr hu⟩
    · split at h
      case h_2 => cases h
      split at h
      · cases h
      split at h
      case h_2 => cases h
      rename_i w hw
      cases h
      rename_i aa _ _
      have : w.1 = aa.block := by
        unfold wr at hw
        split at hw
        · cases hw
        split at hw
        case h_2 => cases hw
        split at hw
        · cases hw; rfl
        · cases hw
      simp [rowBlk, this]
      exact fun a h => .inr h
  · split at h
    case isFalse => cases h
    split at h
    · split at h
      · cases h; exact ⟨by simp, fun u hu => .inr hu⟩
      · cases h
    · split at h
      · split at h
        · cases h
        · cases h; simp [rowBlk]
          exact fun a h => .inr h
      · cases h; simp [rowBlk]
        exact fun a h => .inr h
      · cases h

theorem ro_appQ {x y : Operand} {ts : Array TypeId} {s ys : Value} {n m : Nat} {c new : List Value} {el : TypeId} {sz bytes : Nat} {t0 t1 : TypeId} (hw : Region.wanted o (yieldA ops fr) = true) (hop : o.op = .call { callee := .builtin .append, args := #[x, y], argTypes := ts }) (hts : ts = #[t0, t1]) (hP : E.P = P)
    (hx : Opd fr x = s) (hy : Opd fr y = ys) (hs : Sel L (.row 0 s n c el sz) R) (ht : AppT P t0 t1 el sz bytes)
    (hsrc : Src E R sz m ys new) (hfit : (n + m) * bytes ≤ 140737488355328) (h63 : n + m ≤ 9223372036854775807)
    (hk : ∀ a cap e', (∀ u ∈ e'.upd.map (·.1), u = base + i ∨ rowBlk s = some u) → (∀ u ∈ e'.rds, rowBlk s = some u ∨ u ∈ blkOf ys) → RO E call ops base (i + 1) rest (put fr o.dst (.slice a (n + m) cap)) (.row 0 (.slice a (n + m) cap) (n + m) (c ++ new) el sz :: R) fun rs => K (.mem (fun g => evOp E (Opd fr) (base + i) g o) e' :: rs)) : ROC E call ops base i o rest fr L K :=
  ro_mem (by unfold callOf; rw [hop]) hw fun σ r ho => by
    have h1 : Own E σ (.rsv (base + i) 1 :: r :: .row 0 s n c el sz :: R) := ho.perm ((hs.perm.cons r).cons _)
    obtain ⟨d, hd1, hd2⟩ := ht.un
    obtain ⟨z, hz1, hz2⟩ := ht.ze
    obtain ⟨e, s', he, ⟨a, cap, hv, rfl⟩, hown⟩ := row_append h1 hP ht.elT hd1 hd2 ht.szT ht.by_ hz1 hz2 ht.ne hsrc hfit h63
    subst hts
    obtain ⟨q1, q2⟩ := evAppend_eff he
    refine ⟨e, _, ?_, hown, by rw [hv]; exact hk a cap e q1 q2⟩
    unfold evOp
    simp only [hop, List.map_cons, List.map_nil, hx, hy, evBuiltin]
    exact he
theorem ev_load1O {nid : Nat} {σ : St} {t : TypeId} {x : Operand} {b off : Nat} {c : List Value} {el : TypeId} {ex : Bool} {v : Value} (ho : Own E σ L) (hop : o.op = .load t x) (hP : E.P = P) (ha : isAggT P t = some false) (hx : Opd fr x = .pointer (some ⟨b, off, none⟩)) (hs : Sel L (.blk b c el ex) R) (hv : c[off]? = some v) : evOp E (Opd fr) nid σ.heap.get o = some ⟨v, [], [b]⟩ :=
  ev_load1 hop hP ha hx (ho.get hs).1 (ho.get hs).2 hv
theorem ev_loadNO {nid : Nat} {σ : St} {t : TypeId} {x : Operand} {b off m : Nat} {c l : List Value} {el : TypeId} {ex : Bool} (ho : Own E σ L) (hop : o.op = .load t x) (hP : E.P = P) (ha : isAggT P t = some true) (hx : Opd fr x = .pointer (some ⟨b, off, none⟩)) (hs : Sel L (.blk b c el ex) R) (hm : sizeT P t = some m) (hle : off + m ≤ c.length) (hl : (c.drop off).take m = l) : evOp E (Opd fr) nid σ.heap.get o = some ⟨.agg l.toArray, [], [b]⟩ :=
  ev_loadN hop hP ha hx (ho.get hs).1 (ho.get hs).2 hm hle hl
theorem o_done {p : Prop} (h : p) : O E L fun _ => p := fun _ _ => h
def OBack (E : Env) (L : List Res) (call : CallF) (ops : List Oper) (base j : Nat) (rest : List Oper) (d : Option Tmp) (fr : List Value) (r : Res) (K0 : List Value → St → Prop) (v : Value) : Prop := O E L (BackK E call ops base j rest d fr r K0 v)
theorem g_back {j : Nat} {d : Option Tmp} {r : Res} {v : Value} {K0 : List Value → St → Prop} (h : OBack E L call ops base j rest d fr r K0 v) : O E L (BackK E call ops base j rest d fr r K0 v) := h
theorem gx_back {j : Nat} {d : Option Tmp} {r : Res} {v : Value} {K0 : List Value → St → Prop} (hs : Sel L r R) (hf : put fr d v = fr') (hx : RO E call ops base j rest fr' R fun _ => K0) : OBack E L call ops base j rest d fr r K0 v := o_back hs hf hx
def OBackP (E : Env) (L : List Res) (call : CallF) (ops : List Oper) (base j : Nat) (rest : List Oper) (d : Option Tmp) (fr : List Value) (r : Res) (σ0 : St) (K : List Rec → List Value → St → Prop) (v : Value) : Prop := O E L (BackP E call ops base j rest d fr r σ0 K v)
theorem g_backP {j : Nat} {d : Option Tmp} {r : Res} {v : Value} {σ0 : St} (h : OBackP E L call ops base j rest d fr r σ0 K v) : O E L (BackP E call ops base j rest d fr r σ0 K v) := h
theorem gx_backP {j : Nat} {d : Option Tmp} {r : Res} {v : Value} {σ0 : St} (hs : Sel L r R) (hf : put fr d v = fr') (hx : ∀ σ1, Own E σ1 R → RO E call ops base j rest fr' R fun rs => K (.call σ0 σ1 :: rs)) : OBackP E L call ops base j rest d fr r σ0 K v := o_backP hs hf hx
def OReg (E : Env) (L : List Res) (call : CallF) (k : Nat) (fid : FuncId) (id : Nat) (ops : List Oper) (d : Bool) (fr : List Value) (Q : Ex → List Value → St → Prop) : Prop := O E L fun σ => W E call k fid (.region id ops.toArray d) none fr σ Q
theorem g_region {id : Nat} {ops : List Oper} {d : Bool} {Q : Ex → List Value → St → Prop} (h : OReg E L call k fid id ops d fr Q) : O E L fun σ => W E call k fid (.region id ops.toArray d) none fr σ Q := h
theorem gx_region {pr : FuncId → Nat → List (Nat × Nat)} {id : Nat} {ops : List Oper} {d : Bool} {Q : Ex → List Value → St → Prop} (hpr : E.pairs = pr) (hp : pr fid id = []) (hx : ∀ base, RO E call ops base 0 ops fr L fun _ fr σ => Q .normal fr σ) : OReg E L call k fid id ops d fr Q := o_region hpr hp hx
theorem gx_regionQ {pr : FuncId → Nat → List (Nat × Nat)} {id : Nat} {ops : List Oper} {d : Bool} {Q : Ex → List Value → St → Prop} (ps : List (Nat × Nat)) (hpr : E.pairs = pr) (hp : pr fid id = ps) (hx : ∀ base, (∀ x ∈ idsL L, x < base) → (idsL L).Nodup → RO E call ops base 0 ops fr L fun rs fr σ => pairsOk base rs ps = true ∧ Q .normal fr σ) : OReg E L call k fid id ops d fr Q := o_regionQ ps hpr hp hx
theorem of_O {g : FuncId} {t : Tbl} {k d : Nat} {args : List Value} {Q : Value → St → Prop} (h : O E L fun σ => WCall (evFunT E t k d) g args σ Q) : OFun g E t k d args L Q := h
/-- A join: whatever a piece of code has done, so much holds behind it. -/
theorem o_cut {c : Code} {Q : Ex → List Value → St → Prop} {K : List Value → St → Prop} (J : List Value → List Res → Prop) (h1 : O E L fun σ => W E call k fid c none fr σ (onward (fun fr σ => ∃ L', J fr L' ∧ Own E σ L') Q)) (h2 : ∀ fr L', J fr L' → O E L' (K fr)) : O E L fun σ => W E call k fid c none fr σ (onward K Q) := by
  intro σ ho
  refine (h1 σ ho).mono fun e fr σ he => ?_
  cases e with
  | normal => obtain ⟨L', hj, ho⟩ := he; exact h2 fr L' hj σ ho
  | _ => exact he
theorem o_join {J : List Res → Prop} (hj : J L') (he : Ent L L') : O E L fun σ => ∃ L', J L' ∧ Own E σ L' := fun σ ho => ⟨L', hj, he.own ho⟩
theorem o_loopE {c : Code} {Q : Ex → List Value → St → Prop} (J : Nat → List Value → List Res → Prop) (n : Nat) (hm : n < k) (h0 : J 0 fr L') (he : Ent L L')
    (step : ∀ i fr L, i ≤ n → J i fr L → O E L fun σ => W E call k fid c none fr σ (onward (fun fr σ => i < n ∧ ∃ L', J (i + 1) fr L' ∧ Own E σ L') Q)) : O E L fun σ => W E call k fid (.loop c) none fr σ Q := O.ent he (o_loop J n hm h0 step)
theorem shr_0 : (2 : Int) ^ min 0 IntKind.i64.bits = 1 := rfl
theorem shr_16 : (2 : Int) ^ min 16 IntKind.i64.bits = 65536 := rfl
theorem shr_24 : (2 : Int) ^ min 24 IntKind.i64.bits = 16777216 := rfl
theorem shr_8 : (2 : Int) ^ min 8 IntKind.i64.bits = 256 := rfl
theorem o_loopU {c : Code} {Q : Ex → List Value → St → Prop} (h : O E L fun σ => WLoop E call k fid c k fr σ Q) : O E L fun σ => W E call k fid (.loop c) none fr σ Q := fun σ ho => w_loop (h σ ho)
theorem wr_all {c l : List Value} (h : l.length = c.length) : wrList c 0 l = l := by unfold wrList; simp [h]
/-! Whether an operation is wanted. -/
theorem bq_t (b : Bool) : (b == true) = b := by cases b <;> rfl
theorem bq_f (b : Bool) : (b == false) = !b := by cases b <;> rfl
theorem want_is {j t : Nat} {b v : Bool} (hg : o.guard = some (j, b)) (hd : (ops[j]?).bind (·.dst) = some t) (hv : fr[t]? = some (.bool v)) : Region.wanted o (yieldA ops fr) = (v == b) := by
  unfold Region.wanted
  rw [hg]
  simp only [yieldA, hd, Option.bind_some, hv]
  cases v <;> cases b <;> rfl
/-- An operation that is wanted. -/
def ROCW (E : Env) (call : CallF) (ops : List Oper) (base i : Nat) (o : Oper) (rest : List Oper) (fr : List Value) (L : List Res) (K : List Rec → List Value → St → Prop) : Prop := Region.wanted o (yieldA ops fr) = true → ROC E call ops base i o rest fr L K
theorem ro_w (h : Region.wanted o (yieldA ops fr) = true → ROC E call ops base i o rest fr L K) : ROCW E call ops base i o rest fr L K := h
theorem ro_free (hg : o.guard = none) (h : ROCW E call ops base i o rest fr L K) : ROC E call ops base i o rest fr L K := h (by unfold Region.wanted; rw [hg])
section
variable {j t : Nat} {b v : Bool}
theorem ro_gT (hg : o.guard = some (j, b)) (hd : (ops[j]?).bind (·.dst) = some t) (hv : fr[t]? = some (.bool v)) (he : (v == b) = true) (h : ROCW E call ops base i o rest fr L K) : ROC E call ops base i o rest fr L K := h ((want_is hg hd hv).trans he)
theorem ro_gF (hg : o.guard = some (j, b)) (hd : (ops[j]?).bind (·.dst) = some t) (hv : fr[t]? = some (.bool v)) (he : (v == b) = false) (h : RO E call ops base (i + 1) rest (put fr o.dst undef) L fun rs => K (.quiet :: rs)) : ROC E call ops base i o rest fr L K := ro_off ((want_is hg hd hv).trans he) h
theorem ro_gB {x : Bool} (hg : o.guard = some (j, b)) (hd : (ops[j]?).bind (·.dst) = some t) (hv : fr[t]? = some (.bool v)) (he : (v == b) = x) (h1 : x = true → ROCW E call ops base i o rest fr L K) (h2 : x = false → RO E call ops base (i + 1) rest (put fr o.dst undef) L fun rs => K (.quiet :: rs)) : ROC E call ops base i o rest fr L K := by
  cases x
  · exact ro_gF hg hd hv he (h2 rfl)
  · exact ro_gT hg hd hv he (h1 rfl)
theorem ro_gP {p : Prop} [Decidable p] (hg : o.guard = some (j, b)) (hd : (ops[j]?).bind (·.dst) = some t) (hv : fr[t]? = some (.bool v)) (he : (v == b) = decide p) (h1 : p → ROCW E call ops base i o rest fr L K) (h2 : ¬ p → RO E call ops base (i + 1) rest (put fr o.dst undef) L fun rs => K (.quiet :: rs)) : ROC E call ops base i o rest fr L K :=
  ro_gB hg hd hv he (fun h => h1 (of_decide_eq_true h)) (fun h => h2 (of_decide_eq_false h))
theorem ro_gN {p : Prop} [Decidable p] (hg : o.guard = some (j, b)) (hd : (ops[j]?).bind (·.dst) = some t) (hv : fr[t]? = some (.bool v)) (he : (v == b) = !decide p) (h1 : ¬ p → ROCW E call ops base i o rest fr L K) (h2 : p → RO E call ops base (i + 1) rest (put fr o.dst undef) L fun rs => K (.quiet :: rs)) : ROC E call ops base i o rest fr L K :=
  ro_gB hg hd hv he (fun h => h1 (by simpa using h)) (fun h => h2 (by simpa using h))
end
/-- Bytes of one's own made a string. -/
theorem ro_convBS {s d e : TypeId} {x : Operand} {b off n m : Nat} {c : List Value} {el : TypeId} {ex : Bool} {bs : ByteArray} (hw : Region.wanted o (yieldA ops fr) = true) (hop : o.op = .convert s d x) (hP : E.P = P) (hu : P.underlying s = some (.slice e)) (hd : P.underlying d = some .string) (he : P.underlying e = some (.int .u8)) (hx : Opd fr x = .slice (some ⟨b, off, none⟩) n m) (hs : Sel L (.blk b c el ex) R) (hle : off + n ≤ c.length) (hl : bytesOf? ((c.drop off).take n) = some bs)
    (hk : RO E call ops base (i + 1) rest (put fr o.dst (.string bs)) L fun rs => K (.mem (fun g => evOp E (Opd fr) (base + i) g o) ⟨.string bs, [], [b]⟩ :: rs)) : ROC E call ops base i o rest fr L K :=
  ro_mem (by unfold callOf; rw [hop]) hw fun σ r ho => by
    have hg := ho.tail.tail.get hs
    exact ⟨_, L, ev_convBS hop hP hu hd he hx hg.1 hg.2 hle hl, ho.tail, hk⟩
end
end Go.Ab

/- Rows of records: cells one record behind the other. -/
set_option linter.all false
namespace Go.Ab
def flat {α : Type} (f : α → List Value) (l : List α) : List Value := l.flatMap f
section
variable {α : Type} {f : α → List Value} {k : Nat} {l : List α} {x : α}
theorem flat_nil : flat f [] = [] := rfl
theorem flat_snoc : flat f (l ++ [x]) = flat f l ++ f x := by simp [flat]
theorem flat_app {m : List α} : flat f (l ++ m) = flat f l ++ flat f m := by simp [flat]
theorem flat_cons : flat f (x :: l) = f x ++ flat f l := by simp [flat]
theorem flat_size (h : ∀ x, (f x).length = k) : (flat f l).length = l.length * k := by
  induction l with
  | nil => simp [flat]
  | cons a l ih => simp only [flat, List.flatMap_cons, List.length_append, List.length_cons] at *; rw [ih, h, Nat.succ_mul, Nat.add_comm]
theorem flat_all (h : ∀ x, (f x).all oneCell = true) : (flat f l).all oneCell = true := by
  simp only [flat, List.all_eq_true, List.mem_flatMap] at *
  rintro v ⟨x, _, hv⟩
  exact h x v hv
theorem flat_drop (h : ∀ x, (f x).length = k) : ∀ (l : List α) (i : Nat), (flat f l).drop (i * k) = flat f (l.drop i)
  | [], i => by simp [flat]
  | a :: l, 0 => by simp
  | a :: l, i + 1 => by
    rw [List.drop_succ_cons, ← flat_drop h l i, flat_cons, Nat.succ_mul, Nat.add_comm, ← List.drop_drop, List.drop_left' (h a)]
theorem flat_take (h : ∀ x, (f x).length = k) : ∀ (l : List α) (i : Nat), (flat f l).take (i * k) = flat f (l.take i)
  | [], i => by simp [flat]
  | a :: l, 0 => by simp [flat]
  | a :: l, i + 1 => by
    rw [List.take_succ_cons, flat_cons, flat_cons, Nat.succ_mul, Nat.add_comm, ← h a, List.take_length_add_append, h a, flat_take h l i]
theorem flat_part (h : ∀ x, (f x).length = k) {i : Nat} (hi : l[i]? = some x) : ((flat f l).drop (i * k)).take k = f x := by
  rw [flat_drop h]
  obtain ⟨h1, h2⟩ := List.getElem?_eq_some_iff.1 hi
  rw [List.drop_eq_getElem_cons h1, h2, flat_cons, List.take_left' (h x)]
theorem flat_cell (h : ∀ x, (f x).length = k) {i q : Nat} (hi : l[i]? = some x) (hq : q < k) : (flat f l)[i * k + q]? = (f x)[q]? := by
  rw [← List.getElem?_drop, flat_drop h]
  obtain ⟨h1, h2⟩ := List.getElem?_eq_some_iff.1 hi
  rw [List.drop_eq_getElem_cons h1, h2, flat_cons, List.getElem?_append_left (by rw [h]; exact hq)]
theorem len_snoc : (l ++ [x]).length = l.length + 1 := by simp
theorem flat_range {g : Nat → α} {n : Nat} : (List.range n).flatMap (fun j => f (g j)) = flat f ((List.range n).map g) := by simp [flat, List.flatMap_map]
theorem range_get {g : Nat → α} {n i : Nat} (h : i < n) : ((List.range n).map g)[i]? = some (g i) := by simp [h]
theorem range_len {g : Nat → α} {n : Nat} : ((List.range n).map g).length = n := by simp
theorem take_next {i : Nat} (hi : l[i]? = some x) : l.take (i + 1) = l.take i ++ [x] := by
  rw [List.take_succ, hi]; rfl
end
/-- A row of numbers. -/
def intC (n : Int) : List Value := [.int .i64 n]
theorem intC_len (n : Int) : (intC n).length = 1 := rfl
theorem intC_one (n : Int) : (intC n).all oneCell = true := rfl
/-- A row of bytes. -/
def byteC (n : Int) : List Value := [.int .u8 n]
theorem byteC_len (n : Int) : (byteC n).length = 1 := rfl
/-- A row of pairs of numbers. -/
def pairC (p : Int × Int) : List Value := [.int .i64 p.1, .int .i64 p.2]
theorem pairC_len (p : Int × Int) : (pairC p).length = 2 := rfl
theorem pairC_one (p : Int × Int) : (pairC p).all oneCell = true := rfl
/-- An entry. -/
structure Entry where
  id : Int
  body : Int
  size : Int
  exch : ByteArray
  key : ByteArray
  prio : Int
  ttl : Int
  till : Int
  again : Bool
  hops : Int
def entC (e : Entry) : List Value := [.int .i64 e.id, .int .i64 e.body, .int .i64 e.size, .string e.exch, .string e.key, .int .i64 e.prio, .int .i64 e.ttl, .int .i64 e.till, .bool e.again, .int .i64 e.hops]
theorem entC_len (e : Entry) : (entC e).length = 10 := rfl
theorem entC_one (e : Entry) : (entC e).all oneCell = true := rfl
end Go.Ab

/- Numbers and texts as bytes: plain facts. -/
set_option linter.all false
set_option maxRecDepth 10000
open Go.RowKit
namespace Go.Ab
theorem wrap64_id {n : Int} (h0 : -9223372036854775808 ≤ n) (h1 : n ≤ 9223372036854775807) : IntKind.i64.wrap n = n := by
  by_cases hh : n % 2 ^ 64 ≥ 2 ^ 63 <;> simp [IntKind.wrap, IntKind.bits, IntKind.signed, hh] <;> omega
/-- The number that the first so many bytes tell. -/
def takeN (s : ByteArray) : Nat → Int
  | 0 => 0
  | i + 1 => takeN s i * 256 + ((s[i]!).toNat : Int)
theorem takeN_bd (s : ByteArray) : ∀ i, 0 ≤ takeN s i ∧ takeN s i < 256 ^ i
  | 0 => by simp [takeN]
  | i + 1 => by
    have h := takeN_bd s i
    have hb := (s[i]!).toNat_lt
    simp only [takeN]
    refine ⟨by omega, ?_⟩
    rw [Int.pow_succ]
    omega
theorem or_step (a b : Int) (h0 : 0 ≤ a) (h1 : a < 281474976710656) (b0 : 0 ≤ b) (b1 : b < 256) :
    IntKind.i64.wrap ((BitVec.ofInt IntKind.i64.bits (a * 256) ||| BitVec.ofInt IntKind.i64.bits b).toNat) = a * 256 + b := by
  obtain ⟨n, rfl⟩ : ∃ n : Nat, a = (n : Int) := ⟨a.toNat, by omega⟩
  obtain ⟨m, rfl⟩ : ∃ m : Nat, b = (m : Int) := ⟨b.toNat, by omega⟩
  have e2 : (BitVec.ofInt IntKind.i64.bits ((n : Int) * 256) ||| BitVec.ofInt IntKind.i64.bits (m : Int)).toNat = 256 * n + m := by
    rw [BitVec.toNat_or]
    have x1 : (BitVec.ofInt IntKind.i64.bits ((n : Int) * 256)).toNat = 2 ^ 8 * n := by
      simp only [BitVec.toNat_ofInt, IntKind.bits]
      omega
    have x2 : (BitVec.ofInt IntKind.i64.bits (m : Int)).toNat = m := by
      simp only [BitVec.toNat_ofInt, IntKind.bits]
      omega
    rw [x1, x2, ← Nat.two_pow_add_eq_or_of_lt (by omega)]
  rw [e2, wrap64_id (by omega) (by omega)]
  omega
theorem or_step0 (b : Int) (b0 : 0 ≤ b) (b1 : b < 256) :
    IntKind.i64.wrap ((BitVec.ofInt IntKind.i64.bits 0 ||| BitVec.ofInt IntKind.i64.bits b).toNat) = b := by
  have := or_step 0 b (by omega) (by omega) b0 b1
  simpa using this
/-- The lowest bytes of a number. -/
def dv (n : Int) : Nat → Int
  | 0 => n
  | j + 1 => n.fdiv (256 ^ (j + 1))
def nb (n : Int) : UInt8 := UInt8.ofNat (IntKind.u8.wrap n).toNat
def numL (n : Int) : Nat → List UInt8
  | 0 => []
  | k + 1 => nb (dv n k) :: numL n k
def numB (n : Int) (k : Nat) : ByteArray := ⟨(numL n k).toArray⟩
theorem numL_length (n : Int) : ∀ k, (numL n k).length = k
  | 0 => rfl
  | k + 1 => by simp [numL, numL_length n k]
theorem numB_size (n : Int) (k : Nat) : (numB n k).size = k := by simp [numB, ByteArray.size, numL_length]
theorem fdd (n a b : Int) (ha : 0 ≤ a) (hb : 0 ≤ b) : (n.fdiv a).fdiv b = n.fdiv (a * b) := by
  rw [Int.fdiv_eq_ediv_of_nonneg _ ha, Int.fdiv_eq_ediv_of_nonneg _ hb, Int.fdiv_eq_ediv_of_nonneg _ (Int.mul_nonneg ha hb)]
  first | exact Int.ediv_ediv_of_nonneg ha | exact Int.ediv_ediv ha
theorem fd1 (n : Int) : n.fdiv 1 = n := by simp
theorem ba_app (a b : Array UInt8) : (⟨a⟩ : ByteArray) ++ ⟨b⟩ = ⟨a ++ b⟩ := by simp [ByteArray.ext_iff]
theorem numB_1 (n : Int) : numB n 1 = ⟨#[nb n]⟩ := rfl
theorem numB_2 (n : Int) : numB n 2 = ⟨#[nb (n.fdiv 256), nb n]⟩ := rfl
theorem numB_4 (n : Int) : numB n 4 = ⟨#[nb (n.fdiv 16777216), nb (n.fdiv 65536), nb (n.fdiv 256), nb n]⟩ := rfl
theorem dv_nat (m j : Nat) : dv (m : Int) j = ((m / 256 ^ j : Nat) : Int) := by
  cases j with
  | zero => simp [dv]
  | succ j =>
    simp only [dv]
    rw [Int.fdiv_eq_ediv_of_nonneg _ (by exact_mod_cast Nat.zero_le _)]
    norm_cast
theorem nb_nat (x : Nat) : (nb (x : Int)).toNat = x % 256 := by
  have e : IntKind.u8.wrap (x : Int) = ((x % 256 : Nat) : Int) := by
    simp [IntKind.wrap, IntKind.bits, IntKind.signed]
  unfold nb
  rw [e]
  simp
  omega
theorem numL_get (m : Nat) : ∀ (k i : Nat), i < k → (numL (m : Int) k)[i]? = some (nb (dv (m : Int) (k - 1 - i)))
  | 0, i, h => by omega
  | k + 1, 0, _ => by simp [numL]
  | k + 1, i + 1, h => by
    simp only [numL, List.getElem?_cons_succ]
    rw [numL_get m k i (by omega)]
    have : k + 1 - 1 - (i + 1) = k - 1 - i := by omega
    rw [this]
theorem numB_at (m k i : Nat) (h : i < k) (more : ByteArray) : (((numB (m : Int) k ++ more)[i]!).toNat : Int) = ((m / 256 ^ (k - 1 - i) % 256 : Nat) : Int) := by
  have hs : i < (numB (m : Int) k).size := by rw [numB_size]; exact h
  have hs2 : i < (numB (m : Int) k ++ more).size := by rw [ByteArray.size_append]; omega
  rw [getElem!_pos (numB (m : Int) k ++ more) i hs2, ByteArray.getElem_append_left hs]
  have e : (numB (m : Int) k)[i] = nb (dv (m : Int) (k - 1 - i)) := by
    have h1 := numL_get m k i h
    have h2 : i < (numL (m : Int) k).length := by rw [numL_length]; exact h
    rw [List.getElem?_eq_getElem h2] at h1
    exact Option.some.inj h1
  rw [e, dv_nat, nb_nat]
/-- What was put is taken. -/
theorem takeN_num (m k : Nat) (hm : m < 256 ^ k) (more : ByteArray) : ∀ i, i ≤ k → takeN (numB (m : Int) k ++ more) i = ((m / 256 ^ (k - i) : Nat) : Int)
  | 0, _ => by
    simp only [takeN, Nat.sub_zero]
    rw [Nat.div_eq_of_lt hm]; rfl
  | i + 1, h => by
    simp only [takeN]
    rw [takeN_num m k hm more i (by omega), numB_at m k i (by omega)]
    have e1 : k - i = (k - 1 - i) + 1 := by omega
    have e2 : k - (i + 1) = k - 1 - i := by omega
    rw [e1, e2, Nat.pow_succ, ← Nat.div_div_eq_div_mul]
    generalize m / 256 ^ (k - 1 - i) = q
    omega
theorem takeN_numB (m k : Nat) (hm : m < 256 ^ k) (more : ByteArray) : takeN (numB (m : Int) k ++ more) k = (m : Int) := by
  rw [takeN_num m k hm more k (Nat.le_refl _)]; simp
theorem numB_rest (m : Int) (k : Nat) (more : ByteArray) (z : Nat) (hz : z = k + more.size) : (numB m k ++ more).extract k z = more := by
  subst hz
  exact ByteArray.extract_append_eq_right (by rw [numB_size]) (by rw [numB_size])
theorem ext_ext (s : ByteArray) (a b : Nat) : (s.extract a s.size).extract b (s.extract a s.size).size = s.extract (a + b) s.size := by
  rw [ByteArray.extract_extract, ByteArray.size_extract]
  congr 1
  omega
theorem ext_in (s : ByteArray) (a b c : Nat) (h : a + c ≤ s.size) : (s.extract a s.size).extract b c = s.extract (a + b) (a + c) := by
  rw [ByteArray.extract_extract]
  congr 1
  omega
theorem ext_all (s : ByteArray) : s.extract 0 s.size = s := ByteArray.extract_zero_size
theorem empty_append (x : ByteArray) : (⟨#[]⟩ : ByteArray) ++ x = x := by
  apply ByteArray.ext
  simp [ByteArray.data_append]
theorem append_empty' (x : ByteArray) : x ++ (⟨#[]⟩ : ByteArray) = x := by
  apply ByteArray.ext
  simp [ByteArray.data_append]
theorem ba_nil {s : ByteArray} (h : s.size = 0) : s = ⟨#[]⟩ := by
  apply ByteArray.ext
  exact Array.size_eq_zero_iff.1 h
theorem ba_at {s : ByteArray} {a b i : Nat} (h : a + i < b) (hb : b ≤ s.size) : ((s.extract a b)[i]!) = (s[a + i]!) := by
  have h1 : i < (s.extract a b).size := by rw [ByteArray.size_extract]; omega
  rw [getElem!_pos (s.extract a b) i h1, getElem!_pos s (a + i) (by omega), ByteArray.getElem_extract]
theorem takeN_congr {s t : ByteArray} : ∀ {k : Nat}, (∀ i, i < k → s[i]! = t[i]!) → takeN s k = takeN t k
  | 0, _ => rfl
  | k + 1, h => by
    simp only [takeN]
    rw [takeN_congr (k := k) fun i hi => h i (by omega), h k (by omega)]
/-- Bytes of a string, as a row. -/
def bytesR (s : ByteArray) : List Value := (s.data.map fun b => Value.int .u8 b.toNat).toList
theorem bytesR_len (s : ByteArray) : (bytesR s).length = s.size := by
  unfold bytesR; rw [Array.length_toList, Array.size_map]; rfl
theorem bytesR_at {s : ByteArray} {i : Nat} (h : i < s.size) : (bytesR s)[i]? = some (.int .u8 (s[i]!).toNat) := by
  rw [getElem!_pos s i h]
  have h2 : i < s.data.size := h
  simp [bytesR]
  exact ⟨s[i], by rw [Array.getElem?_eq_getElem h2]; rfl, rfl⟩
theorem bytesR_all (s : ByteArray) : (bytesR s).all isByte = true := by
  unfold bytesR
  rw [Array.toList_map, List.all_map]
  exact List.all_eq_true.2 fun _ _ => rfl
theorem byteV_nat (b : UInt8) : byteV (.int .u8 b.toNat) = b := by simp [byteV]
theorem bytesR_back (s : ByteArray) : bytesOf? (bytesR s) = some s := by
  unfold bytesOf?
  rw [if_pos (bytesR_all s)]
  congr 1
  apply ByteArray.ext
  simp only [bytesR, Array.toList_map, List.map_map]
  have : (byteV ∘ fun b : UInt8 => Value.int .u8 b.toNat) = id := by funext b; exact byteV_nat b
  rw [this]; simp
theorem bytesOf_some {l : List Value} (h : l.all isByte = true) : ∃ s, bytesOf? l = some s ∧ s.size = l.length := by
  refine ⟨⟨(l.map byteV).toArray⟩, by unfold bytesOf?; rw [if_pos h], by simp [ByteArray.size]⟩
theorem all_take {l : List Value} {n : Nat} (h : l.all isByte = true) : (l.take n).all isByte = true := by
  simp only [List.all_eq_true] at *
  exact fun x hx => h x (List.mem_of_mem_take hx)
theorem all_drop {l : List Value} {n : Nat} (h : l.all isByte = true) : (l.drop n).all isByte = true := by
  simp only [List.all_eq_true] at *
  exact fun x hx => h x (List.mem_of_mem_drop hx)
theorem all_wr {l m : List Value} {n : Nat} (h : l.all isByte = true) (hm : m.all isByte = true) : (wrList l n m).all isByte = true := by
  unfold wrList
  rw [List.all_append, List.all_append, all_take h, hm, all_drop h]; rfl
theorem wr_len {c l : List Value} {off : Nat} (h : off + l.length ≤ c.length) : (wrList c off l).length = c.length := by
  unfold wrList
  simp only [List.length_append, List.length_take, List.length_drop]
  omega
theorem toList_loop (bs : ByteArray) : ∀ (k i : Nat) (r : List UInt8), bs.size - i = k → ByteArray.toList.loop bs i r = r.reverse ++ bs.data.toList.drop i := by
  intro k
  induction k with
  | zero =>
    intro i r h
    unfold ByteArray.toList.loop
    rw [if_neg (by omega), List.drop_eq_nil_of_le (by have : bs.data.toList.length = bs.size := rfl; omega), List.append_nil]
  | succ k ih =>
    intro i r h
    unfold ByteArray.toList.loop
    have hi : i < bs.data.toList.length := by have : bs.data.toList.length = bs.size := rfl; omega
    rw [if_pos (by omega), ih (i + 1) _ (by omega), List.drop_eq_getElem_cons hi]
    have : bs.get! i = bs.data.toList[i] := by
      have h2 : i < bs.data.size := hi
      simp only [ByteArray.get!]
      rw [getElem!_pos bs.data i h2]; rfl
    rw [this]; simp
theorem toList_data (bs : ByteArray) : bs.toList = bs.data.toList := by
  unfold ByteArray.toList
  rw [toList_loop bs _ 0 [] rfl]; simp
theorem toList_beq (x y : ByteArray) : (x.toList == y.toList) = decide (x = y) := by
  rw [toList_data, toList_data]
  by_cases h : x = y
  · subst h; simp
  · have : ¬ x.data = y.data := fun e => h (ByteArray.ext e)
    simp [h, this]
theorem ba_ne {b : ByteArray} (h : 0 < b.size) : ¬ b = ⟨#[]⟩ := by intro e; subst e; exact absurd h (by decide)
theorem o_bool {E : Env} {L : List Res} {Q : Value → St → Prop} {x y : Bool} (h : x = y) (K : O E L (Q (.bool x))) : O E L (Q (.bool y)) := by subst h; exact K
end Go.Ab

/- Slices of blocks and rows; copying, clearing, appending within a block. -/
set_option linter.all false
open Go.RowKit
namespace Go.Ab
section
variable {E : Env} {call : CallF} {ops : List Oper} {base i : Nat} {o : Oper} {rest : List Oper} {fr fr' : List Value} {L L' R : List Res} {K : List Rec → List Value → St → Prop} {P : Program}
theorem bd_none {d y : Nat} : bound? none d y = some d := rfl
theorem bd_int {k : IntKind} {v : Int} {d y r : Nat} (h0 : 0 ≤ v) (h1 : v ≤ y) (hr : v.toNat = r) : bound? (some (.int k v)) d y = some r := by
  simp only [bound?]; rw [if_pos ⟨h0, h1⟩, hr]
/-- A slice of a block of one's own. -/
theorem ro_slB {t e' : TypeId} {x : Operand} {lo hi : Option Operand} {b off n len cap h l : Nat} {c : List Value} {e : TypeId} {ex : Bool} {vl vh : Option Value} (hw : Region.wanted o (yieldA ops fr) = true) (hop : o.op = .slice t x lo hi none) (hP : E.P = P) (hu : P.underlying t = some (.slice e')) (hz : sizeT P e' = some n)
    (hx : Opd fr x = .slice (some ⟨b, off, none⟩) len cap) (hlo : lo.map (Opd fr) = vl) (hhi : hi.map (Opd fr) = vh) (hs : Sel L (.blk b c e ex) R) (hex : ex = true ∨ sizeT P e = some n) (hle : len ≤ cap) (bh : bound? vh len cap = some h) (bl : bound? vl 0 h = some l)
    (hk : RO E call ops base (i + 1) rest (put fr o.dst (.slice (some ⟨b, off + l * n, none⟩) (h - l) (cap - l))) L fun rs => K (.mem (fun g => evOp E (Opd fr) (base + i) g o) ⟨.slice (some ⟨b, off + l * n, none⟩) (h - l) (cap - l), [], [b]⟩ :: rs)) : ROC E call ops base i o rest fr L K :=
  ro_mem (by unfold callOf; rw [hop]) hw fun σ r ho => by
    subst hP
    have hg := ho.tail.tail.get hs
    refine ⟨⟨.slice (some ⟨b, off + l * n, none⟩) (h - l) (cap - l), [], [b]⟩, L, ?_, ho.tail, hk⟩
    unfold evOp
    simp only [hop, hx, hlo, hhi, Option.map_none]
    unfold evSlice
    have hsz : szOk E σ.heap.get ⟨b, off, none⟩ n = true := by
      simp only [szOk, hg.1, if_false, hg.2]
      rcases hex with h | h <;> simp [h]
    simp only [hu, hz, hsz, hle, and_self, if_true, bh, bl]
/-- .. with three indexes. -/
theorem ro_slB3 {t e' : TypeId} {x : Operand} {lo : Option Operand} {hi mx : Operand} {b off n len cap h l m : Nat} {c : List Value} {e : TypeId} {ex : Bool} {vl : Option Value} {vh vm : Value} (hw : Region.wanted o (yieldA ops fr) = true) (hop : o.op = .slice t x lo (some hi) (some mx)) (hP : E.P = P) (hu : P.underlying t = some (.slice e')) (hz : sizeT P e' = some n)
    (hx : Opd fr x = .slice (some ⟨b, off, none⟩) len cap) (hlo : lo.map (Opd fr) = vl) (hhi : Opd fr hi = vh) (hmx : Opd fr mx = vm) (hs : Sel L (.blk b c e ex) R) (hex : ex = true ∨ sizeT P e = some n) (hle : len ≤ cap) (bm : bound? (some vm) 0 cap = some m) (bh : bound? (some vh) 0 m = some h) (bl : bound? vl 0 h = some l)
    (hk : RO E call ops base (i + 1) rest (put fr o.dst (.slice (some ⟨b, off + l * n, none⟩) (h - l) (m - l))) L fun rs => K (.mem (fun g => evOp E (Opd fr) (base + i) g o) ⟨.slice (some ⟨b, off + l * n, none⟩) (h - l) (m - l), [], [b]⟩ :: rs)) : ROC E call ops base i o rest fr L K :=
  ro_mem (by unfold callOf; rw [hop]) hw fun σ r ho => by
    subst hP
    have hg := ho.tail.tail.get hs
    refine ⟨⟨.slice (some ⟨b, off + l * n, none⟩) (h - l) (m - l), [], [b]⟩, L, ?_, ho.tail, hk⟩
    unfold evOp
    simp only [hop, hx, hlo, hhi, hmx, Option.map_some]
    unfold evSlice
    have hsz : szOk E σ.heap.get ⟨b, off, none⟩ n = true := by
      simp only [szOk, hg.1, if_false, hg.2]
      rcases hex with h | h <;> simp [h]
    simp only [hu, hz, hsz, hle, and_self, if_true, bm, bh, bl]
/-- A slice of a row of one's own, in its place. -/
theorem ro_slR {t e' : TypeId} {x : Operand} {lo hi : Option Operand} {n h l : Nat} {s : Value} {c : List Value} {e : TypeId} {sz : Nat} {vl vh : Option Value} (hw : Region.wanted o (yieldA ops fr) = true) (hop : o.op = .slice t x lo hi none) (hP : E.P = P) (hu : P.underlying t = some (.slice e')) (hz : sizeT P e' = some sz)
    (hx : Opd fr x = s) (hlo : lo.map (Opd fr) = vl) (hhi : hi.map (Opd fr) = vh) (hs : Sel L (.row 0 s n c e sz) R) (hex : sizeT P e = some sz) (bh : bound? vh n n = some h) (bl : bound? vl 0 h = some l)
    (hk : ∀ a cap e', RO E call ops base (i + 1) rest (put fr o.dst (.slice a (h - l) cap)) (.row 0 (.slice a (h - l) cap) (h - l) ((c.drop (l * sz)).take ((h - l) * sz)) e sz :: R) fun rs => K (.mem (fun g => evOp E (Opd fr) (base + i) g o) e' :: rs)) : ROC E call ops base i o rest fr L K :=
  ro_mem (by unfold callOf; rw [hop]) hw fun σ r ho => by
    subst hP
    have hbd : ∀ (x : Option Value) d y r, bound? x d y = some r → d ≤ y → r ≤ y := by
      intro x d y r hb hd
      unfold bound? at hb
      split at hb
      · cases hb; exact hd
      · split at hb
        · cases hb; omega
        · cases hb
      · cases hb
    have hhn := hbd _ _ _ _ bh (Nat.le_refl _)
    have hlh := hbd _ _ _ _ bl (Nat.zero_le _)
    have hmono : ∀ y, n ≤ y → bound? vh n y = some h := by
      intro y hy
      unfold bound? at bh ⊢
      cases vh with
      | none => exact bh
      | some v =>
        cases v <;> simp only at bh ⊢ <;> first | (cases bh; done) | skip
        split at bh
        · rename_i hc; rw [if_pos ⟨hc.1, by omega⟩]; exact bh
        · cases bh
    have hr := ho.tail.tail.row hs
    have h1 : Own E σ (.row 0 s n c e sz :: r :: R) := (ho.tail.perm (hs.perm.cons r)).perm (List.Perm.swap _ _ _)
    obtain ⟨hc, hr⟩ := hr
    have hlen : ((c.drop (l * sz)).take ((h - l) * sz)).length = (h - l) * sz := by
      have : h * sz ≤ n * sz := Nat.mul_le_mul_right _ hhn
      have : l * sz ≤ h * sz := Nat.mul_le_mul_right _ hlh
      rw [List.length_take, List.length_drop, Nat.sub_mul]; omega
    rcases hr with ⟨rfl, rfl⟩ | ⟨b, p, m, j, x', rfl, hj, hg⟩
    · obtain rfl : h = 0 := by omega
      obtain rfl : l = 0 := by omega
      have hcn : c = [] := List.length_eq_zero_iff.1 (by omega)
      subst hcn
      refine ⟨⟨.slice none 0 0, [], []⟩, .row 0 (.slice none 0 0) 0 [] e sz :: R, ?_, h1.perm (List.Perm.swap _ _ _), ?_⟩
      · unfold evOp
        simp only [hop, hx, hlo, hhi, Option.map_none]
        unfold evSlice
        simp only [hu, hz, bh, bl]
      · have := hk none 0 ⟨.slice none 0 0, [], []⟩
        simpa using this
    · have hnb : ¬ b < E.old := by
        have := (h1.lt b (by simp [idsL, Res.ids, rowBlk])).1
        omega
      have hsz : szOk E σ.heap.get ⟨b, p.length, none⟩ sz = true := by
        simp only [szOk, hnb, if_false, hg, hex, decide_true, Bool.or_true]
      refine ⟨⟨.slice (some ⟨b, p.length + l * sz, none⟩) (h - l) (n + m - l), [], [b]⟩, .row 0 (.slice (some ⟨b, p.length + l * sz, none⟩) (h - l) (n + m - l)) (h - l) ((c.drop (l * sz)).take ((h - l) * sz)) e sz :: R, ?_, ?_, hk _ _ _⟩
      · unfold evOp
        simp only [hop, hx, hlo, hhi, Option.map_none]
        unfold evSlice
        simp only [hu, hz, hsz, Nat.le_add_right, and_self, if_true, hmono _ (Nat.le_add_right n m), bl]
      · have hl1 : l * sz ≤ h * sz := Nat.mul_le_mul_right _ hlh
        have hl2 : h * sz ≤ n * sz := Nat.mul_le_mul_right _ hhn
        have h2 := Own.upd (A := [_]) (A' := [.row 0 (.slice (some ⟨b, p.length + l * sz, none⟩) (h - l) (n + m - l)) (h - l) ((c.drop (l * sz)).take ((h - l) * sz)) e sz]) (h' := σ.heap) h1 (by simp [idsL, Res.ids, rowBlk]) (by simp [idsL, Res.ids, rowBlk])
          (by
            simp only [List.mem_cons, List.not_mem_nil, or_false, forall_eq, Res.ok]
            refine ⟨hlen, .inr ⟨b, p ++ c.take (l * sz), n - h + m, (c.drop (h * sz)) ++ j, x', ?_, ?_, ?_⟩⟩
            · rw [List.length_append, List.length_take, hc, Nat.min_eq_left (by omega)]
              congr 1; omega
            · rw [List.length_append, List.length_drop, hc, hj, Nat.add_mul, Nat.sub_mul]
            · rw [hg]
              congr 2
              have e1 : h * sz = l * sz + (h - l) * sz := by rw [Nat.sub_mul]; omega
              rw [e1, ← List.drop_drop]
              simp only [List.append_assoc, ← List.append_assoc (List.take _ (List.drop _ c)), List.take_append_drop]
              rw [← List.append_assoc (List.take _ c), List.take_append_drop])
          (fun x hx => rfl)
        exact h2.perm (List.Perm.swap _ _ _)
/-- copy into a block from elsewhere. -/
theorem ro_copyB {x y : Operand} {ts : Array TypeId} {t0 t1 el : TypeId} {b off dn dc m sz : Nat} {ys : Value} {c new : List Value} {e : TypeId} {ex : Bool} (hw : Region.wanted o (yieldA ops fr) = true) (hop : o.op = .call { callee := .builtin .copy, args := #[x, y], argTypes := ts }) (hts : ts = #[t0, t1]) (hP : E.P = P) (hel : elemT P t0 = some el) (hsz : sizeT P el = some sz)
    (hx : Opd fr x = .slice (some ⟨b, off, none⟩) dn dc) (hy : Opd fr y = ys) (hs : Sel L (.blk b c e ex) R) (hsrc : Src E R sz m ys new) (hm : m ≤ dn) (hle : off + m * sz ≤ c.length)
    (hk : ∀ e', RO E call ops base (i + 1) rest (put fr o.dst (.int .i64 m)) (.blk b (wrList c off new) e ex :: R) fun rs => K (.mem (fun g => evOp E (Opd fr) (base + i) g o) e' :: rs)) : ROC E call ops base i o rest fr L K :=
  ro_mem (by unfold callOf; rw [hop]) hw fun σ r ho => by
    subst hP
    have h1 : Own E σ (.blk b c e ex :: r :: R) := (ho.tail.perm (hs.perm.cons r)).perm (List.Perm.swap _ _ _)
    have hg := h1.get .head
    obtain ⟨hylen, hystr, hnew⟩ := hsrc.rd σ h1.tail.tail
    have hmin : Nat.min m dn = m := Nat.min_eq_left hm
    have hev : ∀ f, evOp E (Opd fr) (base + i) σ.heap.get o = f → evCopy E σ.heap.get #[t0, t1] (.slice (some ⟨b, off, none⟩) dn dc) ys = f := by
      intro f hf
      rw [← hf]
      unfold evOp
      simp only [hop, hts, List.map_cons, List.map_nil, hx, hy, evBuiltin]
    by_cases h0 : m = 0
    · subst h0
      have hnn : new = [] := List.length_eq_zero_iff.1 (by have := hsrc.ln; omega)
      subst hnn
      have hwn : wrList c off [] = c := by unfold wrList; simp
      rw [hwn] at hk
      refine ⟨⟨.int .i64 0, [], blkOf ys⟩, _, ?_, h1.perm (List.Perm.swap _ _ _), hk _⟩
      rw [← hev _ rfl]
      unfold evCopy
      simp only [List.getElem?_toArray, List.getElem?_cons_zero, Option.bind_some, hel, hsz, hylen, hmin, hnew, if_true]
    · have hwr : wr E σ.heap.get ⟨b, off, none⟩ new = some (b, some (.cells (wrList c off new) e ex)) := by
        have hh : ¬ (((⟨b, off, none⟩ : Addr).spot.isSome || decide (b < E.old)) || !new.all oneCell) = true := by simp [hg.1]; simpa using hsrc.one
        unfold wr
        rw [if_neg hh]
        simp only [hg.2]
        rw [if_pos (by rw [hsrc.ln]; exact hle)]
      refine ⟨⟨.int .i64 m, [(b, some (.cells (wrList c off new) e ex))], b :: blkOf ys⟩, _, ?_, (h1.write (c' := wrList c off new)).perm (List.Perm.swap _ _ _), hk _⟩
      rw [← hev _ rfl]
      unfold evCopy
      simp only [List.getElem?_toArray, List.getElem?_cons_zero, Option.bind_some, hel, hsz, hylen, hmin, hnew, h0, if_false, hwr]
theorem ro_gU {j t : Nat} {b : Bool} (hg : o.guard = some (j, b)) (hd : (ops[j]?).bind (·.dst) = some t) (hv : fr[t]? = some undef) (h : RO E call ops base (i + 1) rest (put fr o.dst undef) L fun rs => K (.quiet :: rs)) : ROC E call ops base i o rest fr L K :=
  ro_off (by
    unfold Region.wanted
    rw [hg]
    simp only [yieldA, hd, Option.bind_some, hv]
    rfl) h
end
/-- A whole block as a row. -/
theorem o_whole {E : Env} {L R : List Res} {b n sz : Nat} {c : List Value} {e : TypeId} {x : Bool} {G : St → Prop} (hs : Sel L (.blk b c e x) R) (hc : c.length = n * sz) (hx : O E (.row 0 (.slice (some ⟨b, 0, none⟩) n n) n c e sz :: R) G) : O E L G := by
  have h1 : Sel L (.blk b (c ++ []) e x) R := by rw [List.append_nil]; exact hs
  exact o_fullrow (m := 0) h1 hc (by simp) hx
end Go.Ab

/- Texts as bytes: plain facts. -/
set_option linter.all false
set_option maxRecDepth 10000
open Go.RowKit
namespace Go.Ab
/-- A text with its length ahead. -/
def tx (s : ByteArray) : ByteArray := numB (s.size : Int) 1 ++ s
theorem tx_size (s : ByteArray) : (tx s).size = 1 + s.size := by simp [tx, ByteArray.size_append, numB_size]
theorem tx_first (s x : ByteArray) (h : s.size ≤ 255) : (((tx s ++ x)[0]!).toNat) = s.size := by
  have h1 := numB_at s.size 1 0 (by omega) (s ++ x)
  rw [tx, ByteArray.append_assoc]
  simp at h1
  omega
theorem tx_rest (s x : ByteArray) (z : Nat) (hz : z = 1 + s.size + x.size) : (tx s ++ x).extract (1 + s.size) z = x := by
  subst hz
  exact ByteArray.extract_append_eq_right (by rw [tx_size]) (by rw [tx_size])
theorem tx_text (s x : ByteArray) : (tx s ++ x).extract 1 (1 + s.size) = s := by
  have h1 : (tx s ++ x).extract 1 (tx s ++ x).size = s ++ x := by
    rw [tx, ByteArray.append_assoc]
    exact numB_rest _ 1 _ _ (by simp [ByteArray.size_append, numB_size])
  have h2 := ext_in (tx s ++ x) 1 0 s.size (by rw [ByteArray.size_append, tx_size]; omega)
  rw [h1] at h2
  rw [Nat.add_zero] at h2
  rw [← h2]
  apply ByteArray.ext
  simp [ByteArray.data_extract, ByteArray.data_append]
/-- Texts one behind the other. -/
def tl : List ByteArray → ByteArray
  | [] => ⟨#[]⟩
  | x :: l => tx x ++ tl l
theorem tl_append (l : List ByteArray) (x : ByteArray) : tl (l ++ [x]) = tl l ++ tx x := by
  induction l with
  | nil => simp only [List.nil_append, tl, append_empty', empty_append]
  | cons y l ih => simp only [List.cons_append, tl, ih, ByteArray.append_assoc]
theorem tl_size (l : List ByteArray) (h : ∀ x ∈ l, x.size ≤ 255) : (tl l).size ≤ 256 * l.length := by
  induction l with
  | nil => simp [tl, ByteArray.size]
  | cons x l ih =>
    have h1 := h x (by simp)
    have h2 := ih fun y hy => h y (by simp [hy])
    rw [tl, ByteArray.size_append, tx_size, List.length_cons]
    omega
theorem ext_zero (s : ByteArray) (a : Nat) : s.extract a a = ⟨#[]⟩ := ba_nil (by rw [ByteArray.size_extract]; omega)
theorem e0_size : (⟨#[]⟩ : ByteArray).size = 0 := rfl
/-- A record put in a row. -/
theorem flat_set {α : Type} {f : α → List Value} {k : Nat} (h : ∀ x, (f x).length = k) {l : List α} {i : Nat} {x : α} (hi : i < l.length) : wrList (flat f l) (i * k) (f x) = flat f (l.set i x) := by
  have e : l = l.take i ++ (l[i] :: l.drop (i + 1)) := by rw [List.getElem_cons_drop, List.take_append_drop]
  have hl : (flat f (l.take i)).length = i * k := by rw [flat_size h, List.length_take, Nat.min_eq_left (by omega)]
  have e2 : l.set i x = l.take i ++ (x :: l.drop (i + 1)) := by
    rw [List.set_eq_take_append_cons_drop, if_pos hi]
  rw [e2]
  conv => lhs; rw [e]
  rw [flat_app, flat_cons, flat_app, flat_cons]
  unfold wrList
  rw [List.take_left' hl, h x, List.drop_append, List.drop_eq_nil_of_le (by omega), hl, List.nil_append, show i * k + k - i * k = k by omega, List.drop_left' (h _)]
/-- A row of strings. -/
def strC (s : ByteArray) : List Value := [.string s]
theorem strC_len (s : ByteArray) : (strC s).length = 1 := rfl
theorem strC_one (s : ByteArray) : (strC s).all oneCell = true := rfl
theorem ba_toList {x y : ByteArray} (h : x = y) : (x == y) = true := by subst h; rw [ba_beq]; simp
end Go.Ab

/- Appending and copying within a block that is known to its end. -/
set_option linter.all false
open Go.RowKit
namespace Go.Ab
section
variable {E : Env} {call : CallF} {ops : List Oper} {base i : Nat} {o : Oper} {rest : List Oper} {fr fr' : List Value} {L L' R : List Res} {K : List Rec → List Value → St → Prop} {P : Program}
/-- append where there is room. -/
theorem ro_appB {x y : Operand} {ts : Array TypeId} {t0 t1 el : TypeId} {sz bytes b off n cap m : Nat} {ys : Value} {c new : List Value} {e : TypeId} {ex : Bool} (hw : Region.wanted o (yieldA ops fr) = true) (hop : o.op = .call { callee := .builtin .append, args := #[x, y], argTypes := ts }) (hts : ts = #[t0, t1]) (hP : E.P = P) (ht : AppT P t0 t1 el sz bytes)
    (hx : Opd fr x = .slice (some ⟨b, off, none⟩) n cap) (hy : Opd fr y = ys) (hs : Sel L (.blk b c e ex) R) (hsrc : Src E R sz m ys new) (hm : 0 < m) (hroom : n + m ≤ cap) (hle : off + cap * sz ≤ c.length)
    (hk : ∀ e', RO E call ops base (i + 1) rest (put fr o.dst (.slice (some ⟨b, off, none⟩) (n + m) cap)) (.blk b (wrList c (off + n * sz) new) e ex :: R) fun rs => K (.mem (fun g => evOp E (Opd fr) (base + i) g o) e' :: rs)) : ROC E call ops base i o rest fr L K :=
  ro_mem (by unfold callOf; rw [hop]) hw fun σ r ho => by
    subst hP
    have h1 : Own E σ (.blk b c e ex :: r :: R) := (ho.tail.perm (hs.perm.cons r)).perm (List.Perm.swap _ _ _)
    have hg := h1.get .head
    obtain ⟨hylen, hystr, hnew⟩ := hsrc.rd σ h1.tail.tail
    obtain ⟨d, hd1, hd2⟩ := ht.un
    obtain ⟨z, hz1, hz2⟩ := ht.ze
    obtain ⟨ti, hi⟩ : ∃ i, E.P.info? el = some i := by
      have := ht.szT
      unfold sizeT at this
      cases hi : E.P.info? el with
      | none => simp [hi] at this
      | some i => exact ⟨i, rfl⟩
    have hisz : ti.size = sz := by simpa [sizeT, hi] using ht.szT
    subst hisz
    have hmul : (n + m) * ti.size ≤ cap * ti.size := Nat.mul_le_mul_right _ hroom
    rw [Nat.add_mul] at hmul
    have hwr : wr E σ.heap.get ⟨b, off + n * ti.size, none⟩ new = some (b, some (.cells (wrList c (off + n * ti.size) new) e ex)) := by
      have hh : ¬ (((⟨b, off + n * ti.size, none⟩ : Addr).spot.isSome || decide (b < E.old)) || !new.all oneCell) = true := by simp [hg.1]; simpa using hsrc.one
      unfold wr
      rw [if_neg hh]
      simp only [hg.2]
      rw [if_pos (by rw [hsrc.ln]; omega)]
    have hc0 : ¬ (ti.size = 0 ∨ z.size ≠ ti.size ∨ strOk ys ti.size = false) := by
      have := ht.ne
      simp [this, hz2, hystr]
    refine ⟨⟨.slice (some ⟨b, off, none⟩) (n + m) cap, [(b, some (.cells (wrList c (off + n * ti.size) new) e ex))], b :: blkOf ys⟩, _, ?_, (h1.write (c' := wrList c (off + n * ti.size) new)).perm (List.Perm.swap _ _ _), hk _⟩
    unfold evOp
    simp only [hop, hts, List.map_cons, List.map_nil, hx, hy, evBuiltin]
    unfold evAppend
    simp only [List.getElem?_toArray, List.getElem?_cons_zero, List.getElem?_cons_succ, Option.bind_some, ht.elT, hd1, hd2, hi, hz1, hylen, hc0, hnew, Bool.not_true, Bool.false_eq_true, if_false, if_pos hroom, if_neg (show ¬ m = 0 by omega), Option.isSome_none, hwr]
/-- append where there is none, to a block that is known to its end. -/
theorem ro_appG {x y : Operand} {ts : Array TypeId} {t0 t1 el : TypeId} {sz bytes b off n cap m : Nat} {ys : Value} {c old new : List Value} {e : TypeId} (hw : Region.wanted o (yieldA ops fr) = true) (hop : o.op = .call { callee := .builtin .append, args := #[x, y], argTypes := ts }) (hts : ts = #[t0, t1]) (hP : E.P = P) (ht : AppT P t0 t1 el sz bytes)
    (hx : Opd fr x = .slice (some ⟨b, off, none⟩) n cap) (hy : Opd fr y = ys) (hs : Sel L (.blk b c e true) R) (hsrc : Src E R sz m ys new) (hroom : cap < n + m) (hn : 0 < n) (hle : off + n * sz ≤ c.length) (hold : (c.drop off).take (n * sz) = old) (hfit : (n + m) * bytes ≤ 140737488355328) (h63 : n + m ≤ 9223372036854775807)
    (hk : ∀ b' e', RO E call ops base (i + 1) rest (put fr o.dst (.slice (some ⟨b', 0, none⟩) (n + m) (n + m))) (.blk b' (old ++ new) el false :: .blk b c e true :: R) fun rs => K (.mem (fun g => evOp E (Opd fr) (base + i) g o) e' :: rs)) : ROC E call ops base i o rest fr L K :=
  ro_mem (by unfold callOf; rw [hop]) hw fun σ r ho => by
    subst hP hold
    have h0 : Own E σ (.blk b c e true :: .rsv (base + i) 1 :: r :: R) := (ho.perm ((hs.perm.cons r).cons _)).perm (((List.Perm.swap _ _ _).cons _).trans (List.Perm.swap _ _ _))
    have hg := h0.get .head
    obtain ⟨hylen, hystr, hnew⟩ := hsrc.rd σ h0.tail.tail.tail
    obtain ⟨d, hd1, hd2⟩ := ht.un
    obtain ⟨z, hz1, hz2⟩ := ht.ze
    obtain ⟨ti, hi⟩ : ∃ i, E.P.info? el = some i := by
      have := ht.szT
      unfold sizeT at this
      cases hi : E.P.info? el with
      | none => simp [hi] at this
      | some i => exact ⟨i, rfl⟩
    have hisz : ti.size = sz := by simpa [sizeT, hi] using ht.szT
    subst hisz
    have hby : ti.bytes = bytes := by have := ht.by_; simpa [bytesT, hi] using this
    subst hby
    have hrd : rdRow E σ.heap.get ti.size n (.slice (some ⟨b, off, none⟩) n cap) = some ((c.drop off).take (n * ti.size)) := by
      simp only [rdRow, (show n ≠ 0 by omega), if_false, Nat.le_refl, if_true, rd, Option.isSome_none, Bool.false_eq_true, hg.1, hg.2]
      rw [if_pos hle]
    have hop2 : opens E σ.heap.get ⟨b, off, none⟩ cap el ti.size = some false := by
      simp only [opens, hg.1, if_false, hg.2, if_true]
    have hc0 : ¬ (ti.size = 0 ∨ z.size ≠ ti.size ∨ strOk ys ti.size = false) := by
      have := ht.ne
      simp [this, hz2, hystr]
    refine ⟨⟨.slice (some ⟨base + i, 0, none⟩) (n + m) (n + m), [(base + i, some (.cells ((c.drop off).take (n * ti.size) ++ new) el false))], b :: blkOf ys⟩, .blk (base + i) ((c.drop off).take (n * ti.size) ++ new) el false :: .blk b c e true :: R, ?_, ?_, hk _ _⟩
    · unfold evOp
      simp only [hop, hts, List.map_cons, List.map_nil, hx, hy, evBuiltin]
      unfold evAppend
      simp only [List.getElem?_toArray, List.getElem?_cons_zero, List.getElem?_cons_succ, Option.bind_some, ht.elT, hd1, hd2, hi, hz1, hylen, hc0, hnew, Bool.not_true, Bool.false_eq_true, if_false, if_neg (show ¬ n + m ≤ cap by omega), if_pos (And.intro hfit h63), hrd, hop2]
    · have h2 : Own E σ (.rsv (base + i) 1 :: r :: .blk b c e true :: R) := h0.perm ((List.Perm.swap _ _ _).trans ((List.Perm.swap _ _ _).cons _))
      exact (h2.alloc (c := (c.drop off).take (n * ti.size) ++ new) (el := el) (ex := false)).perm (.refl _)
/-- append of zeros where there is no room. -/
theorem ro_appZ {x y : Operand} {ts : Array TypeId} {t0 t1 el : TypeId} {ki kn : IntKind} {q : Int} {sz bytes b off n cap m : Nat} {z : Array Value} {c old : List Value} {e : TypeId} (hw : Region.wanted o (yieldA ops fr) = true) (hop : o.op = .call { callee := .builtin .append, args := #[x, y], argTypes := ts }) (hts : ts = #[t0, t1]) (hP : E.P = P) (hel : elemT P t0 = some el) (hu : P.underlying t1 = some (.int kn)) (hsz : sizeT P el = some sz) (hby : bytesT P el = some bytes) (hz : zeroCells? P el = some z) (hzs : z.size = sz) (h0 : sz ≠ 0)
    (hx : Opd fr x = .slice (some ⟨b, off, none⟩) n cap) (hy : Opd fr y = .int ki q) (hq : q = (m : Int)) (hs : Sel L (.blk b c e true) R) (hm : 0 < m) (hroom : cap < n + m) (hle : off + n * sz ≤ c.length) (hold : (c.drop off).take (n * sz) = old) (hfit : (n + m) * bytes ≤ 140737488355328) (h63 : n + m ≤ 9223372036854775807)
    (hk : ∀ b' e', RO E call ops base (i + 1) rest (put fr o.dst (.slice (some ⟨b', 0, none⟩) (n + m) (n + m))) (.blk b' (old ++ zeroRow z (m * sz)) el false :: .blk b c e true :: R) fun rs => K (.mem (fun g => evOp E (Opd fr) (base + i) g o) e' :: rs)) : ROC E call ops base i o rest fr L K :=
  ro_mem (by unfold callOf; rw [hop]) hw fun σ r ho => by
    subst hP hold hq
    have h1 : Own E σ (.blk b c e true :: .rsv (base + i) 1 :: r :: R) := (ho.perm ((hs.perm.cons r).cons _)).perm (((List.Perm.swap _ _ _).cons _).trans (List.Perm.swap _ _ _))
    have hg := h1.get .head
    obtain ⟨ti, hi⟩ : ∃ i, E.P.info? el = some i := by
      unfold sizeT at hsz
      cases hi : E.P.info? el with
      | none => simp [hi] at hsz
      | some i => exact ⟨i, rfl⟩
    have hisz : ti.size = sz := by simpa [sizeT, hi] using hsz
    subst hisz
    have hby2 : ti.bytes = bytes := by simpa [bytesT, hi] using hby
    subst hby2
    have hrd : rdRow E σ.heap.get ti.size n (.slice (some ⟨b, off, none⟩) n cap) = some ((c.drop off).take (n * ti.size)) := by
      by_cases hn : n = 0
      · subst hn; simp [rdRow]
      simp only [rdRow, hn, if_false, Nat.le_refl, if_true, rd, Option.isSome_none, Bool.false_eq_true, hg.1, hg.2]
      rw [if_pos hle]
    have hop2 : opens E σ.heap.get ⟨b, off, none⟩ cap el ti.size = some false := by
      simp only [opens, hg.1, if_false, hg.2, if_true]
    refine ⟨⟨.slice (some ⟨base + i, 0, none⟩) (n + m) (n + m), [(base + i, some (.cells ((c.drop off).take (n * ti.size) ++ zeroRow z (m * ti.size)) el false))], [b]⟩, .blk (base + i) ((c.drop off).take (n * ti.size) ++ zeroRow z (m * ti.size)) el false :: .blk b c e true :: R, ?_, ?_, hk _ _⟩
    · unfold evOp
      simp only [hop, hts, List.map_cons, List.map_nil, hx, hy, evBuiltin]
      unfold evAppend
      simp only [List.getElem?_toArray, List.getElem?_cons_zero, List.getElem?_cons_succ, Option.bind_some, hel, hu, isSlStr, Bool.not_false, if_true]
      unfold evAppendZ
      simp only [hi, hz, Int.toNat_natCast, hrd, hop2]
      rw [if_neg (by
        simp only [not_or]
        exact ⟨h0, by simp [hzs], by omega, by omega, by omega, by omega⟩)]
    · have h2 : Own E σ (.rsv (base + i) 1 :: r :: .blk b c e true :: R) := h1.perm ((List.Perm.swap _ _ _).trans ((List.Perm.swap _ _ _).cons _))
      exact (h2.alloc (c := (c.drop off).take (n * ti.size) ++ zeroRow z (m * ti.size)) (el := el) (ex := false)).perm (.refl _)
/-- copy within one block. -/
theorem ro_copyS {x y : Operand} {ts : Array TypeId} {t0 t1 el : TypeId} {b off dn dc soff sn sc m sz : Nat} {c new : List Value} {e : TypeId} {ex : Bool} (hw : Region.wanted o (yieldA ops fr) = true) (hop : o.op = .call { callee := .builtin .copy, args := #[x, y], argTypes := ts }) (hts : ts = #[t0, t1]) (hP : E.P = P) (hel : elemT P t0 = some el) (hsz : sizeT P el = some sz)
    (hx : Opd fr x = .slice (some ⟨b, off, none⟩) dn dc) (hy : Opd fr y = .slice (some ⟨b, soff, none⟩) sn sc) (hs : Sel L (.blk b c e ex) R) (hm : min sn dn = m) (h0 : 0 < m) (hle : off + m * sz ≤ c.length) (hsl : soff + m * sz ≤ c.length) (hnew : (c.drop soff).take (m * sz) = new) (hone : new.all oneCell = true)
    (hk : ∀ e', RO E call ops base (i + 1) rest (put fr o.dst (.int .i64 m)) (.blk b (wrList c off new) e ex :: R) fun rs => K (.mem (fun g => evOp E (Opd fr) (base + i) g o) e' :: rs)) : ROC E call ops base i o rest fr L K :=
  ro_mem (by unfold callOf; rw [hop]) hw fun σ r ho => by
    subst hP
    have h1 : Own E σ (.blk b c e ex :: r :: R) := (ho.tail.perm (hs.perm.cons r)).perm (List.Perm.swap _ _ _)
    have hg := h1.get .head
    have hlen : new.length = m * sz := by rw [← hnew, List.length_take, List.length_drop]; omega
    have hmin : Nat.min sn dn = m := hm
    have hms : m ≤ sn := by rw [← hm]; exact Nat.min_le_left _ _
    have hrd : rdRow E σ.heap.get sz m (.slice (some ⟨b, soff, none⟩) sn sc) = some new := by
      simp only [rdRow, (show m ≠ 0 by omega), if_false, hms, if_true, rd, Option.isSome_none, Bool.false_eq_true, hg.1, hg.2]
      rw [if_pos hsl, hnew]
    have hwr : wr E σ.heap.get ⟨b, off, none⟩ new = some (b, some (.cells (wrList c off new) e ex)) := by
      have hh : ¬ (((⟨b, off, none⟩ : Addr).spot.isSome || decide (b < E.old)) || !new.all oneCell) = true := by simp [hg.1]; simpa using hone
      unfold wr
      rw [if_neg hh]
      simp only [hg.2]
      rw [if_pos (by rw [hlen]; exact hle)]
    refine ⟨⟨.int .i64 m, [(b, some (.cells (wrList c off new) e ex))], [b, b]⟩, _, ?_, (h1.write (c' := wrList c off new)).perm (List.Perm.swap _ _ _), hk _⟩
    unfold evOp
    simp only [hop, hts, List.map_cons, List.map_nil, hx, hy, evBuiltin]
    unfold evCopy
    simp only [List.getElem?_toArray, List.getElem?_cons_zero, Option.bind_some, hel, hsz, lenV, hmin, hrd, (show m ≠ 0 by omega), if_false, hwr, blkOf]
/-- cap of a block that is known to its end. -/
theorem ro_cap {x : Operand} {ts : Array TypeId} {t0 el : TypeId} {b off n cap sz : Nat} {c : List Value} {e : TypeId} (hw : Region.wanted o (yieldA ops fr) = true) (hop : o.op = .call { callee := .builtin .cap, args := #[x], argTypes := ts }) (hts : ts = #[t0]) (hP : E.P = P) (hel : elemT P t0 = some el) (hsz : sizeT P el = some sz)
    (hx : Opd fr x = .slice (some ⟨b, off, none⟩) n cap) (hs : Sel L (.blk b c e true) R)
    (hk : RO E call ops base (i + 1) rest (put fr o.dst (.int .i64 cap)) L fun rs => K (.mem (fun g => evOp E (Opd fr) (base + i) g o) ⟨.int .i64 cap, [], [b]⟩ :: rs)) : ROC E call ops base i o rest fr L K :=
  ro_mem (by unfold callOf; rw [hop]) hw fun σ r ho => by
    subst hP
    have hg := ho.tail.tail.get hs
    refine ⟨⟨.int .i64 cap, [], [b]⟩, L, ?_, ho.tail, hk⟩
    unfold evOp
    simp only [hop, hts, List.map_cons, List.map_nil, hx, evBuiltin]
    unfold evCap
    simp only [List.getElem?_toArray, List.getElem?_cons_zero, Option.bind_some, hel, hsz, opens, hg.1, if_false, hg.2, if_true]
end
end Go.Ab

/- Entries of the table that are shown of the model itself: slices.overlaps, slices.Insert. -/
set_option linter.all false
open Go.RowKit
namespace Go.Ab

theorem ARel.restrict {old : Nat} {μ μf : Mu} {a c1 : Addr} (hk : a.block < old ∨ ∃ p, μ a.block = some p) (h1 : ARel old μf a c1) (hle : Le μ μf) : ARel old μ a c1 := by
  obtain ⟨q1, q2, q3⟩ := h1
  refine ⟨q1, q2, ?_⟩
  rcases q3 with q | ⟨ho, p, hp, r⟩
  · exact .inl q
  · rcases hk with h | ⟨p0, h0⟩
    · omega
    · have := hle _ _ h0
      rw [hp] at this; cases this
      exact .inr ⟨ho, p, h0, r⟩
theorem SRel.known {old : Nat} {μ : Mu} {a c : Addr} {len cap ccap : Nat} (h : SRel old μ a c len cap ccap) : a.block < old ∨ ∃ p, μ a.block = some p := by
  rcases h with ⟨_, _, _, _, h⟩ | ⟨h, _⟩
  · exact h
  · exact h.known
theorem SRel.restrict {old : Nat} {μ μf : Mu} {a c1 : Addr} {len cap ccap : Nat} (hk : a.block < old ∨ ∃ p, μ a.block = some p) (h1 : SRel old μf a c1 len cap ccap) (hle : Le μ μf) : SRel old μ a c1 len cap ccap := by
  rcases h1 with ⟨q1, q2, q3, q4, _⟩ | ⟨ha, h⟩
  · exact .inl ⟨q1, q2, q3, q4, hk⟩
  · refine .inr ⟨ha.restrict hk hle, h.imp id ?_⟩
    rintro ⟨ho, hc, p, hp, r⟩
    rcases hk with h | ⟨p0, h0⟩
    · omega
    · have := hle _ _ h0
      rw [hp] at this; cases this
      exact ⟨ho, hc, p, h0, r⟩
theorem VRel.restrict {old : Nat} {μ μf : Mu} {v v0 : Value} (h0 : VRel old μ v v0) (hle : Le μ μf) : ∀ {v1 : Value}, VRel old μf v v1 → VRel old μ v v1 := by
  induction h0 with
  | flat v h => intro v1 h1; rw [h1.flat_eq h]; exact .flat v h
  | pointer a c h =>
    intro v1 h1
    obtain ⟨c1, rfl, h2⟩ := h1.inv_pointer
    exact .pointer _ _ (ARel.restrict h.known h2 hle)
  | slice a c len cap ccap h =>
    intro v1 h1
    obtain ⟨c1, k1, rfl, h2⟩ := h1.inv_slice
    exact .slice _ _ _ _ _ (SRel.restrict h.known h2 hle)
  | agg xs ys hs hrel ih =>
    intro v1 h1
    cases h1 with
    | flat _ hf => simp [flatS] at hf
    | agg _ zs hs2 h2 =>
      refine .agg xs zs hs2 fun i x z hx hz => ?_
      have hi : i < ys.size := by have := (Array.getElem?_eq_some_iff.1 hx).1; omega
      exact ih i x ys[i] hx (by simp [hi]) (h2 i x z hx hz)
  | tuple xs ys hs hrel ih =>
    intro v1 h1
    cases h1 with
    | flat _ hf => simp [flatS] at hf
    | tuple _ zs hs2 h2 =>
      refine .tuple xs zs hs2 fun i x z hx hz => ?_
      have hi : i < ys.size := by have := (Array.getElem?_eq_some_iff.1 hx).1; omega
      exact ih i x ys[i] hx (by simp [hi]) (h2 i x z hx hz)
  | func fn f1 f2 c1 c2 hs hrel hs' hrel' ih ih' =>
    intro v1 h1
    cases h1 with
    | flat _ hf => simp [flatS] at hf
    | func _ _ g2 _ d2 hs2 h2 hs2' h2' =>
      refine .func fn f1 g2 c1 d2 hs2 (fun i x z hx hz => ?_) hs2' fun i x z hx hz => ?_
      · have hi : i < f2.size := by have := (Array.getElem?_eq_some_iff.1 hx).1; omega
        exact ih i x f2[i] hx (by simp [hi]) (h2 i x z hx hz)
      · have hi : i < c2.size := by have := (Array.getElem?_eq_some_iff.1 hx).1; omega
        exact ih' i x c2[i] hx (by simp [hi]) (h2' i x z hx hz)
  | map r q h =>
    intro v1 h1
    obtain ⟨ho, p, hp, hq⟩ := h
    obtain ⟨_, p', hp', rfl⟩ := h1.inv_map
    have := hle _ _ hp
    rw [hp'] at this; cases this
    exact .map _ _ ⟨ho, _, hp, rfl⟩
theorem ML.restrict {old : Nat} {μ μf : Mu} {kd : IntKind} (hle : Le μ μf) {es : List (Int × Value × Nat)} {L L1 : List MapEntry} (h0 : ML old μ kd es L) (h1 : ML old μf kd es L1) : ML old μ kd es L1 := by
  induction h0 generalizing L1 with
  | nil => cases h1; exact .nil
  | cons a v v' n hv h ih =>
    cases h1 with
    | cons _ _ v1 _ hv1 h1 => exact .cons a v v1 n (hv.restrict hle hv1) (ih h1)
theorem BRel.restrict {E : Env} {μ μf : Mu} {p : Pl} {w wf : World} {b : Blk} (h0 : BRel E μ p w b) (hle : Le μ μf) (h1 : BRel E μf p wf b) : BRel E μ p wf b := by
  cases b with
  | cells l e x =>
    obtain ⟨_, _, _, C0, fz0, _, _, _, _, _, g0, _⟩ := h0
    obtain ⟨q1, q2, q3, C, fz, q4, q5, q6, q7, q8, q9, q10⟩ := h1
    refine ⟨q1, q2, q3, C, fz, q4, q5, q6, q7, q8, fun i v hv => ?_, q10⟩
    obtain ⟨v0, _, r0⟩ := g0 i v hv
    obtain ⟨v1, s1, r1⟩ := q9 i v hv
    exact ⟨v1, s1, r0.restrict hle r1⟩
  | mp kd es clock =>
    obtain ⟨L0, _, m0⟩ := h0
    obtain ⟨L1, q1, m1⟩ := h1
    exact ⟨L1, q1, m0.restrict hle m1⟩
  | froz l e =>
    obtain ⟨_, _, _, C0, fz0, _, _, _, _, g0, _⟩ := h0
    obtain ⟨q1, q2, q3, C, fz, q4, q5, q6, q7, q8, q9⟩ := h1
    refine ⟨q1, q2, q3, C, fz, q4, q5, q6, q7, fun i v hv => ?_, q9⟩
    obtain ⟨v0, _, r0⟩ := g0 i v hv
    obtain ⟨v1, s1, r1⟩ := q8 i v hv
    exact ⟨v1, s1, r0.restrict hle r1⟩
/-- The state told anew: one block struck, one under a new number; what came in between is forgotten. -/
theorem Rel.reab {E : Env} {w0 w wf : World} {μ μf : Mu} {σ σf : St} (hr : Rel E w0 μ σ w) (hf : Rel E w0 μf σf wf) (hle : ∀ k, k < σ.next → μf k = μ k) (A B : Nat) {bB : Blk} (hB : σf.heap.get B = some bB) (hB2 : ∀ k bk, k ≠ A → σ.heap.get k = some bk → B ≠ k)
    (hoth : ∀ k bk, k ≠ A → σ.heap.get k = some bk → σf.heap.get k = some bk) {q pB : Pl} (hpB : μf B = some pB) (hq : q.c = pB.c) {bN : Blk} (hN : BRel E μ q wf bN) :
    Rel E w0 (fun k => if k = σ.next then some q else if k < σ.next then μ k else none) ⟨(σ.heap.set A none).set σ.next (some bN), σ.next + 1⟩ wf := by
  have hL : Le μ μf := fun a p hp => by rw [hle a (hr.dom a p hp).1]; exact hp
  have hL2 : Le μ (fun k => if k = σ.next then some q else if k < σ.next then μ k else none) := fun a p hp => by
    have := (hr.dom a p hp).1
    simp only [show a ≠ σ.next by omega, this, if_false, if_true]; exact hp
  have hget : ∀ k, (((σ.heap.set A none).set σ.next (some bN)).get k) = if k = σ.next then some bN else if k = A then none else σ.heap.get k := fun k => by rw [T.get_set, T.get_set]
  have hlt : ∀ k bk, σ.heap.get k = some bk → k < σ.next := fun k bk h => by
    obtain ⟨p, hp, _⟩ := hr.blk k bk h
    exact (hr.dom k p hp).1
  refine ⟨hf.below, hr.old_le, by have := hr.old_next; simp only; omega, hr.base, ?_, ?_, ?_, ?_⟩
  · intro a p hp
    simp only at hp ⊢
    split at hp
    · rename_i h; subst h; exact ⟨by omega, hr.old_next⟩
    · split at hp
      · have := hr.dom a p hp; exact ⟨by omega, this.2⟩
      · cases hp
  · intro k bk hk
    replace hk : (((σ.heap.set A none).set σ.next (some bN)).get k) = some bk := hk
    rw [hget] at hk
    split at hk
    · rename_i h
      cases hk
      exact ⟨q, by simp [h], hN.mono hL2⟩
    · rename_i h
      split at hk
      · cases hk
      · rename_i hA
        obtain ⟨p, hp, hb⟩ := hr.blk k bk hk
        have hkl := (hr.dom k p hp).1
        obtain ⟨p', hp', hb'⟩ := hf.blk k bk (hoth k bk hA hk)
        rw [hle k hkl, hp] at hp'; cases hp'
        exact ⟨p, by simp [h, hkl, hp], (hb.restrict hL hb').mono hL2⟩
  · intro k p hp
    replace hp : (if k = σ.next then some q else if k < σ.next then μ k else none) = some p := hp
    split at hp
    · cases hp; rw [hq]; exact hf.new B pB hpB
    · split at hp
      · rename_i hkl
        exact hf.new k p (by rw [hle k hkl]; exact hp)
      · cases hp
  · intro k k' bk bk' p p' hk hk' hp hp' hc
    replace hk : (((σ.heap.set A none).set σ.next (some bN)).get k) = some bk := hk
    replace hk' : (((σ.heap.set A none).set σ.next (some bN)).get k') = some bk' := hk'
    replace hp : (if k = σ.next then some q else if k < σ.next then μ k else none) = some p := hp
    replace hp' : (if k' = σ.next then some q else if k' < σ.next then μ k' else none) = some p' := hp'
    rw [hget] at hk hk'
    by_cases h1 : k = σ.next <;> by_cases h2 : k' = σ.next
    · omega
    · simp [h1] at hp; simp [h2] at hk' hp'
      obtain ⟨hkl, hp'⟩ := hp'
      have := hf.inj B k' _ _ pB p' hB (hoth k' bk' hk'.1 hk'.2) hpB (by rw [hle k' hkl]; exact hp') (by rw [← hq, hp]; exact hc)
      exact absurd this (hB2 k' bk' hk'.1 hk'.2)
    · simp [h1] at hk hp; simp [h2] at hp'
      obtain ⟨hkl, hp⟩ := hp
      have := hf.inj k B _ _ p pB (hoth k bk hk.1 hk.2) hB (by rw [hle k hkl]; exact hp) hpB (by rw [hc, ← hp', hq])
      exact absurd this.symm (hB2 k bk hk.1 hk.2)
    · simp [h1] at hk hp; simp [h2] at hk' hp'
      exact hr.inj k k' bk bk' p p' hk.2 hk'.2 hp.2 hp'.2 hc

def isU8 (P : Program) (e : TypeId) : Bool := match P.underlying e with | some (.int .u8) => true | _ => false
theorem isU8_f {P : Program} {e : TypeId} (h : isU8 P e = false) : P.underlying e ≠ some (.int .u8) := by
  intro h2; unfold isU8 at h; rw [h2] at h; cases h
/-- slices.overlaps at two blocks of one's own. -/
def sOv (P : Program) (args : List Value) (σ : St) : Option (Value × St) :=
  match args with
  | [.slice (some a) la _, .slice (some b) lb _] =>
    if a.block = b.block ∨ la = 0 ∨ lb = 0 then none else
    match σ.heap.get a.block, σ.heap.get b.block with
    | some (.cells _ e _), some (.cells cb _ _) => if cb.length = 0 ∨ isU8 P e = true then none else some (.bool false, σ)
    | _, _ => none
  | _ => none
theorem sOv_mono (P : Program) : FnMono (sOv P) := by
  intro args σ v σ' n x hn hlt h
  have hget : ∀ {k : Nat} {b : Blk}, σ.heap.get k = some b → (σ.heap.set n x).get k = some b := fun hk => set_ext hn _ _ hk
  unfold sOv at h ⊢
  split at h
  case h_2 => cases h
  split at h
  · cases h
  rename_i hc
  simp only [if_neg hc]
  split at h
  case h_2 => cases h
  rename_i h1 h2
  simp only [hget h1, hget h2]
  split at h
  · cases h
  rename_i hc
  cases h
  exact ⟨hn, Nat.le_refl _, by rw [if_neg hc]⟩
theorem ov_ok {E : Env} {f : FuncId} {fn : Func} {tS tR el : TypeId} {size : Nat} (hf : E.P.funcs[f]? = some fn) (hname : (fn.name == "runtime.NumGoroutine") = false) (hb : fn.body.isNone = true) (hn : Extern.findNext fn = none) (he : Extern.find fn = some (Extern.SlicesOverlaps.overlaps #[tS, tS] #[tR]))
    (ht : E.P.underlying tS = some (.slice el)) (hz : sizeT E.P el = some size) (hs0 : size ≠ 0) : FnOK E f (sOv E.P) := by
  refine ⟨?_, sOv_mono _⟩
  intro w0 args σ v σ' h
  unfold sOv at h
  split at h
  case h_2 => cases h
  rename_i a la ca b lb cb
  split at h
  · cases h
  rename_i hne
  simp only [not_or] at hne
  obtain ⟨hne, hla, hlb⟩ := hne
  split at h
  case h_2 => cases h
  rename_i l1 e1 x1 l2 e2 x2 h1 h2
  split at h
  · cases h
  rename_i hc
  cases h
  simp only [not_or, Bool.not_eq_true] at hc
  refine .inr ⟨rfl, ⟨fn, hf, by simpa using hb⟩, fun μ w args' hr hl => ?_⟩
  obtain ⟨x, y, hxy, hx, hy⟩ := hl.two
  have hargs : args' = #[x, y] := arr2 hxy
  obtain ⟨c1, k1, rfl, s1⟩ := hx.inv_slice
  obtain ⟨c2, k2, rfl, s2⟩ := hy.inv_slice
  refine ⟨.bool false, ?_, .flat _ rfl⟩
  rw [hargs, run_callFunc_extern hf hname hb hn he]
  have hz' : ∀ w, (sizeOf el).run E.P w = .ok size w := fun w => by
    unfold sizeT at hz
    cases hi : E.P.info? el with
    | none => simp [hi] at hz
    | some i => simp [hi] at hz; simp [sizeOf, typeInfo, hi, hz]
  have key : (Extern.SlicesOverlaps.overlaps #[tS, tS] #[tR] #[.slice (some c1) la k1, .slice (some c2) lb k2]).run E.P w = .ok (.bool false) w := by
    obtain ⟨p1, hp1, _, _, _, C1, fz1, g1, _, _, _, _, _, g7⟩ := hr.blk _ _ h1
    obtain ⟨p2, hp2, q1, _, _, C2, fz2, g2, _, g3, _⟩ := hr.blk _ _ h2
    have hC2 : C2.size ≠ 0 := by have := hc.1; omega
    have a1 := (hr.dom _ _ hp1).2
    have a2 := (hr.dom _ _ hp2).2
    rcases s1 with ⟨z, _⟩ | ⟨⟨_, _, r1⟩, _⟩
    · omega
    rcases s2 with ⟨z, _⟩ | ⟨⟨_, _, r2⟩, _⟩
    · omega
    rcases r1 with ⟨z, _⟩ | ⟨_, p1', hp1', r1, _⟩
    · omega
    rcases r2 with ⟨z, _⟩ | ⟨_, p2', hp2', r2, _⟩
    · omega
    rw [hp1] at hp1'; cases hp1'
    rw [hp2] at hp2'; cases hp2'
    have hcc : c1.block ≠ c2.block := by
      rw [r1, r2]
      intro e
      exact hne (hr.inj _ _ _ _ _ _ h1 h2 hp1 hp2 e)
    have hfz := g7.2 (isU8_f hc.2)
    exact Lib.run_overlaps_apart w tS tR el ht size hz' c1 c2 la k1 lb k2 hcc e1 e2 C1.size C2.size (by simp [World.shape?, r1, g1]) (by simp [World.shape?, r2, g2]) hC2
      (by simp [World.frozen?, r1, g1]; exact fun h => Nat.le_trans hfz h) (by simp [World.frozen?, r1, g1]; exact fun h => Nat.le_trans hfz h)
  rw [key]; rfl
end Go.Ab

/- slices.Insert of one element: an entry of the table. -/
set_option linter.all false
open Go.RowKit
namespace Go.Ab

/-- Cells with an element put in, where there is room. -/
def insC (sz : Nat) (c new : List Value) (off n i : Nat) : List Value :=
  c.take (off + i * sz) ++ (new ++ ((c.drop (off + i * sz)).take ((n - i) * sz) ++ c.drop (off + (n + 1) * sz)))
/-- .. and where there is none. -/
def insG (sz : Nat) (c new : List Value) (off n i : Nat) : List Value :=
  (c.drop off).take (i * sz) ++ (new ++ (c.drop (off + i * sz)).take ((n - i) * sz))
theorem insC_len {sz : Nat} {c new : List Value} {off n i : Nat} (hn : new.length = sz) (hi : i ≤ n) (hl : off + (n + 1) * sz ≤ c.length) : (insC sz c new off n i).length = c.length := by
  have e1 : n * sz = i * sz + (n - i) * sz := by rw [← Nat.add_mul]; congr 1; omega
  have e2 : (n + 1) * sz = n * sz + sz := Nat.succ_mul _ _
  simp only [insC, List.length_append, List.length_take, List.length_drop, hn]
  omega
theorem insC_app {sz : Nat} {c new ext : List Value} {off n i : Nat} (hi : i ≤ n) (hl : off + (n + 1) * sz ≤ c.length) : insC sz (c ++ ext) new off n i = insC sz c new off n i ++ ext := by
  have e1 : n * sz = i * sz + (n - i) * sz := by rw [← Nat.add_mul]; congr 1; omega
  have e2 : (n + 1) * sz = n * sz + sz := Nat.succ_mul _ _
  unfold insC
  rw [List.take_append_of_le_length (by omega), List.drop_append_of_le_length (by omega), List.drop_append_of_le_length (by omega), List.take_append_of_le_length (by rw [List.length_drop]; omega)]
  simp only [List.append_assoc]
theorem insC_mem {sz : Nat} {c new : List Value} {off n i : Nat} {v : Value} (h : v ∈ insC sz c new off n i) : v ∈ c ∨ v ∈ new := by
  simp only [insC, List.mem_append] at h
  rcases h with h | h | h | h
  · exact .inl (List.mem_of_mem_take h)
  · exact .inr h
  · exact .inl (List.mem_of_mem_drop (List.mem_of_mem_take h))
  · exact .inl (List.mem_of_mem_drop h)
theorem insG_mem {sz : Nat} {c new : List Value} {off n i : Nat} {v : Value} (h : v ∈ insG sz c new off n i) : v ∈ c ∨ v ∈ new := by
  simp only [insG, List.mem_append] at h
  rcases h with h | h | h
  · exact .inl (List.mem_of_mem_drop (List.mem_of_mem_take h))
  · exact .inr h
  · exact .inl (List.mem_of_mem_drop (List.mem_of_mem_take h))

theorem insG_len {sz : Nat} {c new : List Value} {off n i : Nat} (hn : new.length = sz) (hi : i ≤ n) (hl : off + n * sz ≤ c.length) : (insG sz c new off n i).length = (n + 1) * sz := by
  have e1 : n * sz = i * sz + (n - i) * sz := by rw [← Nat.add_mul]; congr 1; omega
  have e2 : (n + 1) * sz = n * sz + sz := Nat.succ_mul _ _
  simp only [insG, List.length_append, List.length_take, List.length_drop, hn]
  omega
theorem insG_app {sz : Nat} {c new ext : List Value} {off n i : Nat} (hi : i ≤ n) (hl : off + n * sz ≤ c.length) : insG sz (c ++ ext) new off n i = insG sz c new off n i := by
  have e1 : n * sz = i * sz + (n - i) * sz := by rw [← Nat.add_mul]; congr 1; omega
  unfold insG
  rw [List.drop_append_of_le_length (by omega), List.take_append_of_le_length (by rw [List.length_drop]; omega), List.drop_append_of_le_length (by omega), List.take_append_of_le_length (by rw [List.length_drop]; omega)]
theorem insC_split {sz : Nat} {c new : List Value} {off n i : Nat} : insC sz c new off n i = c.take off ++ (insG sz c new off n i ++ c.drop (off + (n + 1) * sz)) := by
  unfold insC insG
  rw [List.take_add]
  simp only [List.append_assoc]
/-- slices.Insert of one element of one's own. -/
def sIns (P : Program) (el : TypeId) (sz : Nat) (args : List Value) (σ : St) : Option (Value × St) :=
  match args with
  | [.slice (some a) n cap, .int .i64 i, .slice (some v) m vc] =>
    match σ.heap.get v.block, σ.heap.get a.block with
    | some (.cells cv ev true), some (.cells c e x) =>
      if v.spot.isSome = true ∨ cv.length < v.off + sz ∨ isU8 P ev = true ∨ m ≠ 1 ∨ vc = 0 ∨ i < 0 ∨ (n : Int) < i ∨ 1000000 < n ∨ cv.all oneCell = false ∨ e ≠ el ∨ a.block = v.block ∨ c.length < a.off + cap * sz ∨ (x = false ∧ c.length ≠ a.off + cap * sz) ∨ cap < n ∨ cap = 0 ∨ ((c.drop a.off).take (n * sz)).all oneCell = false then none else
      if n + 1 ≤ cap then
        some (.slice (some ⟨σ.next, a.off, none⟩) (n + 1) cap, ⟨(σ.heap.set a.block none).set σ.next (some (.cells (insC sz c ((cv.drop v.off).take sz) a.off n i.toNat) el x)), σ.next + 1⟩)
      else
        some (.slice (some ⟨σ.next, 0, none⟩) (n + 1) (n + 1), ⟨(σ.heap.set a.block none).set σ.next (some (.cells (insG sz c ((cv.drop v.off).take sz) a.off n i.toNat) el false)), σ.next + 1⟩)
    | _, _ => none
  | [.slice none 0 0, .int .i64 0, .slice (some v) m vc] =>
    match σ.heap.get v.block with
    | some (.cells cv ev true) =>
      if v.spot.isSome = true ∨ cv.length < v.off + sz ∨ m ≠ 1 ∨ vc = 0 ∨ cv.all oneCell = false then none else
        some (.slice (some ⟨σ.next, 0, none⟩) 1 1, ⟨(σ.heap.set σ.next none).set σ.next (some (.cells ((cv.drop v.off).take sz) el false)), σ.next + 1⟩)
    | _ => none
  | _ => none

theorem sIns_mono (P : Program) (el : TypeId) (sz : Nat) : FnMono (sIns P el sz) := by
  intro args σ v σ' n x hn hlt h
  have hget : ∀ {k : Nat} {b : Blk}, σ.heap.get k = some b → (σ.heap.set n x).get k = some b := fun hk => set_ext hn _ _ hk
  have hne : ∀ {k : Nat} {b : Blk}, σ.heap.get k = some b → n ≠ k := fun hk e => by subst e; rw [hn] at hk; cases hk
  have fin : ∀ {k : Nat} {y z : Option Blk}, n ≠ k → ((σ.heap.set k y).set σ.next z).get n = none ∧ ((σ.heap.set n x).set k y).set σ.next z = ((σ.heap.set k y).set σ.next z).set n x := by
    intro k y z hk
    refine ⟨by rw [T.get_set_ne _ _ _ _ (by omega), T.get_set_ne _ _ _ _ hk]; exact hn, ?_⟩
    rw [T.set_comm _ n k x y hk, T.set_comm _ n σ.next x z (by omega)]
  unfold sIns at h ⊢
  split at h
  · rename_i a m cap i vv m' vc
    split at h
    case h_2 => cases h
    rename_i cv ev c e xx hcv hca
    simp only [hget hcv, hget hca]
    split at h
    · cases h
    · rename_i hc
      rw [if_neg hc]
      split at h
      · rename_i hle
        rw [if_pos hle]
        cases h
        exact ⟨(fin (hne hca)).1, by simp only; omega, by rw [(fin (hne hca)).2]⟩
      · rename_i hle
        rw [if_neg hle]
        cases h
        exact ⟨(fin (hne hca)).1, by simp only; omega, by rw [(fin (hne hca)).2]⟩
  · rename_i vv m' vc
    split at h
    case h_2 => cases h
    rename_i cv ev hcv
    simp only [hget hcv]
    split at h
    · cases h
    · rename_i hc
      rw [if_neg hc]
      cases h
      have hk : n ≠ σ.next := by omega
      exact ⟨(fin hk).1, by simp only; omega, by rw [(fin hk).2]⟩
  · cases h
end Go.Ab

/- slices.Insert: the entry is right, if the code's walks are. -/
set_option linter.all false
open Go.RowKit
namespace Go.Ab

/-- What a walk of Insert's code must show, at blocks known to their end. -/
def InsWalk (P : Program) (pairs : FuncId → Nat → List (Nat × Nat)) (t : Tbl) (k d : Nat) (f : FuncId) (el : TypeId) (sz : Nat) : Prop :=
  ∀ (E : Env), E.P = P → E.pairs = pairs → ∀ (R : List Res) (Q : Value → St → Prop) (nx vb : Nat) (X cv : List Value) (ev : TypeId) (off n ck i voff vc : Nat),
    ((X.drop off).take (n * sz)).all oneCell = true → cv.all oneCell = true → i ≤ n → n ≤ ck → 0 < ck → off + ck * sz ≤ X.length → voff + sz ≤ cv.length → 0 < vc → isU8 P ev = false → n ≤ 1000000 →
    (n + 1 ≤ ck → O E (.blk nx (insC sz X ((cv.drop voff).take sz) off n i) el true :: .blk vb cv ev true :: R) (Q (.slice (some ⟨nx, off, none⟩) (n + 1) ck))) →
    (ck = n → ∀ b, O E (.blk b (insG sz X ((cv.drop voff).take sz) off n i) el false :: .blk nx X el true :: .blk vb cv ev true :: R) (Q (.slice (some ⟨b, 0, none⟩) (n + 1) (n + 1)))) →
    O E (.blk nx X el true :: .blk vb cv ev true :: R) fun σ => WCall (evFunT E t k d) f [.slice (some ⟨nx, off, none⟩) n ck, .int .i64 i, .slice (some ⟨vb, voff, none⟩) 1 vc] σ Q

theorem LRel.three {old : Nat} {μ : Mu} {a b c : Value} {l' : List Value} (h : LRel old μ [a, b, c] l') : ∃ x y z, l' = [x, y, z] ∧ VRel old μ a x ∧ VRel old μ b y ∧ VRel old μ c z := by
  match l', h with
  | [x, y, z], h => exact ⟨x, y, z, rfl, h.2 0 _ _ rfl rfl, h.2 1 _ _ rfl rfl, h.2 2 _ _ rfl rfl⟩
  | [], h => simp [LRel] at h
  | [_], h => simp [LRel] at h
  | [_, _], h => simp [LRel] at h
  | _ :: _ :: _ :: _ :: _, h => simp [LRel] at h
theorem LRel.mk3 {old : Nat} {μ : Mu} {a b c x y z : Value} (h1 : VRel old μ a x) (h2 : VRel old μ b y) (h3 : VRel old μ c z) : LRel old μ [a, b, c] [x, y, z] :=
  ⟨rfl, fun i u v hu hv => by
    match i, hu, hv with
    | 0, hu, hv => cases hu; cases hv; exact h1
    | 1, hu, hv => cases hu; cases hv; exact h2
    | 2, hu, hv => cases hu; cases hv; exact h3
    | i + 3, hu, hv => simp at hu⟩
theorem slice_blk {a b : Addr} {n c n' c' : Nat} (h : Value.slice (some a) n c = .slice (some b) n' c') : a.block = b.block := by cases h; rfl
theorem list3 {a : Array Value} {x y z : Value} (h : a.toList = [x, y, z]) : a = #[x, y, z] := by apply Array.ext'; simp [h]

theorem Rel.to {E E' : Env} (h1 : E'.P = E.P) (h2 : E'.old = E.old) (h3 : E'.base = E.base) {w0 w : World} {μ : Mu} {σ : St} (h : Rel E w0 μ σ w) : Rel E' w0 μ σ w := by
  refine ⟨h.below, by rw [h2]; exact h.old_le, by rw [h2]; exact h.old_next, by rw [h2, h3]; exact h.base, by rw [h2]; exact h.dom, fun a b hb => ?_, h.new, h.inj⟩
  obtain ⟨p, hp, hb⟩ := h.blk a b hb
  refine ⟨p, hp, ?_⟩
  cases b with
  | cells l e x => unfold BRel at hb ⊢; rw [h1, h2]; exact hb
  | mp kd es c => unfold BRel at hb ⊢; rw [h2]; exact hb
  | froz l e => unfold BRel at hb ⊢; rw [h1, h2]; exact hb

theorem own2 {E : Env} {w0 w : World} {μ : Mu} {σ : St} (hr : Rel E w0 μ σ w) {a b : Nat} {ca cb : List Value} {ea eb : TypeId} {xa xb : Bool} (ha : σ.heap.get a = some (.cells ca ea xa)) (hb : σ.heap.get b = some (.cells cb eb xb)) (hab : a ≠ b) :
    Own E σ [.blk a ca ea xa, .blk b cb eb xb] := by
  obtain ⟨pa, hpa, _⟩ := hr.blk _ _ ha
  obtain ⟨pb, hpb, _⟩ := hr.blk _ _ hb
  have da := hr.dom _ _ hpa
  have db := hr.dom _ _ hpb
  refine ⟨hr.old_next, by simp [idsL, Res.ids, hab], ?_, ?_⟩
  · intro k hk
    simp [idsL, Res.ids] at hk
    rcases hk with rfl | rfl
    · exact ⟨da.2, da.1⟩
    · exact ⟨db.2, db.1⟩
  · intro r hr
    simp at hr
    rcases hr with rfl | rfl
    · exact ha
    · exact hb
theorem own1 {E : Env} {w0 w : World} {μ : Mu} {σ : St} (hr : Rel E w0 μ σ w) {a : Nat} {ca : List Value} {ea : TypeId} {xa : Bool} (ha : σ.heap.get a = some (.cells ca ea xa)) : Own E σ [.blk a ca ea xa] := by
  obtain ⟨pa, hpa, _⟩ := hr.blk _ _ ha
  have da := hr.dom _ _ hpa
  refine ⟨hr.old_next, by simp [idsL, Res.ids], ?_, ?_⟩
  · intro k hk
    simp [idsL, Res.ids] at hk
    subst hk
    exact ⟨da.2, da.1⟩
  · intro r hr
    simp at hr
    subst hr
    exact ha
theorem own3 {E : Env} {w0 w : World} {μ : Mu} {σ : St} (hr : Rel E w0 μ σ w) {a b c : Nat} {ca cb cc : List Value} {ea eb ec : TypeId} {xa xb xc : Bool} (ha : σ.heap.get a = some (.cells ca ea xa)) (hb : σ.heap.get b = some (.cells cb eb xb)) (hc : σ.heap.get c = some (.cells cc ec xc)) (hab : a ≠ b) (hac : a ≠ c) (hbc : b ≠ c) :
    Own E σ [.blk a ca ea xa, .blk b cb eb xb, .blk c cc ec xc] := by
  obtain ⟨pa, hpa, _⟩ := hr.blk _ _ ha
  obtain ⟨pb, hpb, _⟩ := hr.blk _ _ hb
  obtain ⟨pc, hpc, _⟩ := hr.blk _ _ hc
  have da := hr.dom _ _ hpa
  have db := hr.dom _ _ hpb
  have dc := hr.dom _ _ hpc
  refine ⟨hr.old_next, by simp [idsL, Res.ids, hab, hac, hbc], ?_, ?_⟩
  · intro k hk
    simp [idsL, Res.ids] at hk
    rcases hk with rfl | rfl | rfl
    · exact ⟨da.2, da.1⟩
    · exact ⟨db.2, db.1⟩
    · exact ⟨dc.2, dc.1⟩
  · intro r hr
    simp at hr
    rcases hr with rfl | rfl | rfl
    · exact ha
    · exact hb
    · exact hc

end Go.Ab

/- slices.Insert at a row. -/
set_option linter.all false
open Go.RowKit
namespace Go.Ab

/-- A row with room to it, or the nil slice. -/
def capOk : Value → Prop
  | .slice none 0 0 => True
  | .slice (some _) _ c => c ≠ 0
  | _ => False

theorem insG_row {sz : Nat} {p c j new : List Value} {n i : Nat} (hc : c.length = n * sz) (hi : i ≤ n) : insG sz (p ++ (c ++ j)) new p.length n i = c.take (i * sz) ++ (new ++ c.drop (i * sz)) := by
  have e1 : n * sz = i * sz + (n - i) * sz := by rw [← Nat.add_mul]; congr 1; omega
  unfold insG
  rw [List.drop_left, List.drop_append, List.drop_eq_nil_of_le (by omega), List.nil_append, Nat.add_sub_cancel_left, List.take_append_of_le_length (by omega), List.drop_append_of_le_length (by omega), List.take_append_of_le_length (by rw [List.length_drop]; omega), List.take_of_length_le (l := c.drop (i * sz)) (by rw [List.length_drop]; omega)]
theorem insC_row {sz : Nat} {p c j new : List Value} {n i : Nat} (hc : c.length = n * sz) (hi : i ≤ n) : insC sz (p ++ (c ++ j)) new p.length n i = p ++ ((c.take (i * sz) ++ (new ++ c.drop (i * sz))) ++ j.drop sz) := by
  rw [insC_split, insG_row hc hi, List.take_left]
  congr 2
  rw [List.drop_append, List.drop_eq_nil_of_le (by omega), List.nil_append, Nat.add_sub_cancel_left, Nat.succ_mul, List.drop_append, List.drop_eq_nil_of_le (by omega), List.nil_append]
  congr 1; omega

/-- A call of overlaps, by its entry. -/
theorem of_ov {E : Env} {P : Program} {k d : Nat} {t : Tbl} {f : FuncId} {L R : List Res} {Q : Value → St → Prop} {a b oa ob la lb ka kb : Nat} {ca cb : List Value} {ea eb : TypeId} {xa xb : Bool} (hP : E.P = P)
    (hcall : ∀ args σ, WCall (evFunT E t k d) f args σ Q = bindV (sOv P args σ) fun x => Q x.1 x.2)
    (hs : ∃ R', Sel L (.blk a ca ea xa) R' ∧ Sel R' (.blk b cb eb xb) R) (hla : la ≠ 0) (hlb : lb ≠ 0) (hcb : cb.length ≠ 0) (hu8 : isU8 P ea = false)
    (hx : O E L (Q (.bool false))) : OFun f E t k d [.slice (some ⟨a, oa, none⟩) la ka, .slice (some ⟨b, ob, none⟩) lb kb] L Q := by
  subst hP
  obtain ⟨R', h1, h2⟩ := hs
  intro σ ho
  show WCall _ _ _ _ _
  rw [hcall]
  have h3 : Own E σ (.blk a ca ea xa :: .blk b cb eb xb :: R) := (ho.sel h1).perm (h2.perm.cons _)
  have hab : a ≠ b := by
    have := h3.nodup
    simp [idsL, Res.ids] at this
    exact this.1.1
  have g1 := (h3.get .head).2
  have g2 := (h3.get (.tail .head)).2
  refine ⟨(.bool false, σ), ?_, hx σ ho⟩
  unfold sOv
  simp only
  rw [if_neg (by simp [hab, hla, hlb])]
  simp only [g1, g2]
  rw [if_neg (by simp [hcb, hu8])]
theorem zeroRow_ln {z : Array Value} {n : Nat} : (zeroRow z n).length = n := by unfold zeroRow; split <;> simp
theorem wrList_ln {c vs : List Value} {q : Nat} : (wrList c q vs).length = min q c.length + (vs.length + (c.length - (q + vs.length))) := by simp [wrList]
theorem wrList_mid {A B C vs : List Value} {q : Nat} (hA : A.length = q) (hB : B.length = vs.length) : wrList (A ++ (B ++ C)) q vs = A ++ (vs ++ C) := by
  subst hA
  unfold wrList
  rw [List.take_left, List.drop_append, List.drop_eq_nil_of_le (by omega), List.nil_append, Nat.add_sub_cancel_left, ← hB, List.drop_left]
theorem insC_end {sz : Nat} {X new : List Value} {off n : Nat} (hn : new.length = sz) : wrList X (off + n * sz) new = insC sz X new off n n := by
  unfold insC wrList
  rw [Nat.sub_self, Nat.zero_mul, List.take_zero, List.nil_append, hn, Nat.succ_mul, Nat.add_assoc]
theorem insG_end {sz : Nat} {X new : List Value} {off n : Nat} : (X.drop off).take (n * sz) ++ new = insG sz X new off n n := by
  unfold insG
  rw [Nat.sub_self, Nat.zero_mul, List.take_zero, List.append_nil]
theorem insG_eq {sz : Nat} {X new Z : List Value} {off n i : Nat} (hi : i < n) (hn : new.length = sz) (hX : off + n * sz ≤ X.length) (hZ : Z.length = (n + 1 - i) * sz) :
    wrList (wrList ((X.drop off).take (i * sz) ++ Z) (i * sz) new) ((i + 1) * sz) ((X.drop (off + i * sz)).take ((n - i) * sz)) = insG sz X new off n i := by
  have e1 : n * sz = i * sz + (n - i) * sz := by rw [← Nat.add_mul]; congr 1; omega
  have e2 : (i + 1) * sz = i * sz + sz := Nat.succ_mul _ _
  have e3 : (n + 1 - i) * sz = sz + (n - i) * sz := by rw [show n + 1 - i = (n - i) + 1 by omega, Nat.succ_mul]; omega
  have hA : ((X.drop off).take (i * sz)).length = i * sz := by rw [List.length_take, List.length_drop]; omega
  have h1 : Z = Z.take sz ++ (Z.drop sz ++ []) := by rw [List.append_nil, List.take_append_drop]
  rw [h1, wrList_mid hA (by rw [List.length_take]; omega), ← List.append_assoc, wrList_mid (by rw [List.length_append]; omega) (by rw [List.length_drop, List.length_take, List.length_drop]; omega)]
  unfold insG
  rw [List.append_nil, List.append_assoc]
theorem insC_eq {sz : Nat} {X new : List Value} {off n i : Nat} (hi : i < n) (hn : new.length = sz) (hX : off + (n + 1) * sz ≤ X.length) :
    wrList (wrList X (off + (i + 1) * sz) ((X.drop (off + i * sz)).take ((n + 1 - (i + 1)) * sz))) (off + i * sz) new = insC sz X new off n i := by
  have e1 : n * sz = i * sz + (n - i) * sz := by rw [← Nat.add_mul]; congr 1; omega
  have e2 : (i + 1) * sz = i * sz + sz := Nat.succ_mul _ _
  have e4 : (n + 1) * sz = n * sz + sz := Nat.succ_mul _ _
  have h0 : n + 1 - (i + 1) = n - i := by omega
  rw [h0]
  have hM : ((X.drop (off + i * sz)).take ((n - i) * sz)).length = (n - i) * sz := by rw [List.length_take, List.length_drop]; omega
  have h1 : wrList X (off + (i + 1) * sz) ((X.drop (off + i * sz)).take ((n - i) * sz)) = X.take (off + i * sz) ++ ((X.drop (off + i * sz)).take sz ++ (((X.drop (off + i * sz)).take ((n - i) * sz)) ++ X.drop (off + (n + 1) * sz))) := by
    unfold wrList
    rw [hM, show off + (i + 1) * sz = off + i * sz + sz by omega, List.take_add, List.append_assoc]
    congr 4; omega
  rw [h1, wrList_mid (by rw [List.length_take]; omega) (by rw [List.length_take, List.length_drop]; omega)]
  rfl
section
variable {E : Env} {call : CallF} {ops : List Oper} {base i : Nat} {o : Oper} {rest : List Oper} {fr fr' : List Value} {L L' R : List Res} {K : List Rec → List Value → St → Prop} {P : Program}
/-- A slice of the nil slice. -/
theorem ro_slN {t e' : TypeId} {x : Operand} {lo hi : Option Operand} {n h l : Nat} {vl vh : Option Value} (hw : Region.wanted o (yieldA ops fr) = true) (hop : o.op = .slice t x lo hi none) (hP : E.P = P) (hu : P.underlying t = some (.slice e')) (hz : sizeT P e' = some n)
    (hx : Opd fr x = .slice none 0 0) (hlo : lo.map (Opd fr) = vl) (hhi : hi.map (Opd fr) = vh) (bh : bound? vh 0 0 = some h) (bl : bound? vl 0 0 = some l)
    (hk : RO E call ops base (i + 1) rest (put fr o.dst (.slice none 0 0)) L fun rs => K (.mem (fun g => evOp E (Opd fr) (base + i) g o) ⟨.slice none 0 0, [], []⟩ :: rs)) : ROC E call ops base i o rest fr L K :=
  ro_mem (by unfold callOf; rw [hop]) hw fun σ r ho => by
    subst hP
    refine ⟨⟨.slice none 0 0, [], []⟩, L, ?_, ho.tail, hk⟩
    unfold evOp
    simp only [hop, hx, hlo, hhi, Option.map_none]
    unfold evSlice
    simp only [hu, hz, bh, bl]
/-- append to the nil slice. -/
theorem ro_appN {x y : Operand} {ts : Array TypeId} {t0 t1 el : TypeId} {sz bytes m : Nat} {ys : Value} {new : List Value} (hw : Region.wanted o (yieldA ops fr) = true) (hop : o.op = .call { callee := .builtin .append, args := #[x, y], argTypes := ts }) (hts : ts = #[t0, t1]) (hP : E.P = P) (ht : AppT P t0 t1 el sz bytes)
    (hx : Opd fr x = .slice none 0 0) (hy : Opd fr y = ys) (hsrc : Src E L sz m ys new) (hm : 0 < m) (hfit : m * bytes ≤ 140737488355328) (h63 : m ≤ 9223372036854775807)
    (hk : ∀ b' e', RO E call ops base (i + 1) rest (put fr o.dst (.slice (some ⟨b', 0, none⟩) m m)) (.blk b' new el false :: L) fun rs => K (.mem (fun g => evOp E (Opd fr) (base + i) g o) e' :: rs)) : ROC E call ops base i o rest fr L K :=
  ro_mem (by unfold callOf; rw [hop]) hw fun σ r ho => by
    subst hP
    have h0 : Own E σ (.rsv (base + i) 1 :: r :: L) := ho
    obtain ⟨hylen, hystr, hnew⟩ := hsrc.rd σ h0.tail.tail
    obtain ⟨d, hd1, hd2⟩ := ht.un
    obtain ⟨z, hz1, hz2⟩ := ht.ze
    obtain ⟨ti, hi⟩ : ∃ i, E.P.info? el = some i := by
      have := ht.szT
      unfold sizeT at this
      cases hi : E.P.info? el with
      | none => simp [hi] at this
      | some i => exact ⟨i, rfl⟩
    have hisz : ti.size = sz := by simpa [sizeT, hi] using ht.szT
    subst hisz
    have hby : ti.bytes = bytes := by have := ht.by_; simpa [bytesT, hi] using this
    subst hby
    have hc0 : ¬ (ti.size = 0 ∨ z.size ≠ ti.size ∨ strOk ys ti.size = false) := by
      have := ht.ne
      simp [this, hz2, hystr]
    refine ⟨⟨.slice (some ⟨base + i, 0, none⟩) m m, [(base + i, some (.cells new el false))], blkOf ys⟩, _, ?_, ho.alloc, hk _ _⟩
    unfold evOp
    simp only [hop, hts, List.map_cons, List.map_nil, hx, hy, evBuiltin]
    unfold evAppend
    simp only [List.getElem?_toArray, List.getElem?_cons_zero, List.getElem?_cons_succ, Option.bind_some, ht.elT, hd1, hd2, hi, hz1, hylen, hc0, hnew, Bool.not_true, Bool.false_eq_true, if_false, Nat.zero_add, if_neg (show ¬ m ≤ 0 by omega), if_pos (And.intro hfit h63), and_self, if_true]
end
theorem all_part {X : List Value} {o l a k : Nat} {f : Value → Bool} (h : ((X.drop o).take l).all f = true) (h1 : o ≤ a) (h2 : a + k ≤ o + l) : ((X.drop a).take k).all f = true := by
  rw [List.all_eq_true] at h ⊢
  intro v hv
  obtain ⟨j, hj⟩ := List.mem_iff_getElem?.1 hv
  rw [List.getElem?_take] at hj
  split at hj
  · rw [List.getElem?_drop] at hj
    refine h v (List.mem_iff_getElem?.2 ⟨a - o + j, ?_⟩)
    rw [List.getElem?_take, if_pos (by omega), List.getElem?_drop, ← hj]
    congr 1; omega
  · cases hj
end Go.Ab

/- Deleting within a row: in-place append, clear; rows opened to their blocks. -/
set_option linter.all false
open Go.RowKit
namespace Go.Ab
theorem del_eq {sz n i jj : Nat} {p c j Z : List Value} (hc : c.length = n * sz) (hi : i ≤ jj) (hj : jj ≤ n) (hZ : Z.length = (n - (i + (n - jj))) * sz) :
    wrList (wrList (p ++ (c ++ j)) (p.length + i * sz) (((p ++ (c ++ j)).drop (p.length + jj * sz)).take ((n - jj) * sz))) (p.length + (i + (n - jj)) * sz) Z = p ++ ((c.take (i * sz) ++ c.drop (jj * sz)) ++ (Z ++ j)) := by
  have e1 : n * sz = jj * sz + (n - jj) * sz := by rw [← Nat.add_mul]; congr 1; omega
  have e2 : n * sz = i * sz + (n - i) * sz := by rw [← Nat.add_mul]; congr 1; omega
  have e3 : (n - i) * sz = (n - jj) * sz + (n - (i + (n - jj))) * sz := by rw [← Nat.add_mul]; congr 1; omega
  have e4 : (i + (n - jj)) * sz = i * sz + (n - jj) * sz := Nat.add_mul _ _ _
  have hM : ((p ++ (c ++ j)).drop (p.length + jj * sz)).take ((n - jj) * sz) = c.drop (jj * sz) := by
    rw [List.drop_append, List.drop_eq_nil_of_le (by omega), List.nil_append, Nat.add_sub_cancel_left, List.drop_append_of_le_length (by omega), List.take_append_of_le_length (by rw [List.length_drop]; omega), List.take_of_length_le (by rw [List.length_drop]; omega)]
  rw [hM]
  have hs : p ++ (c ++ j) = (p ++ c.take (i * sz)) ++ (((c.drop (i * sz)).take ((n - jj) * sz)) ++ ((c.drop (i * sz + (n - jj) * sz)) ++ j)) := by
    rw [List.append_assoc]; congr 1
    rw [← List.append_assoc, ← List.append_assoc]; congr 1
    rw [← List.take_add, List.take_append_drop]
  rw [hs, wrList_mid (by rw [List.length_append, List.length_take]; omega) (by rw [List.length_take, List.length_drop, List.length_drop]; omega), ← List.append_assoc, wrList_mid (by rw [List.length_append, List.length_append, List.length_take, List.length_drop]; omega) (by rw [List.length_drop]; omega)]
  simp only [List.append_assoc]
theorem del_end {sz n i : Nat} {p c j Z : List Value} (hc : c.length = n * sz) (hi : i ≤ n) (hZ : Z.length = (n - i) * sz) :
    wrList (p ++ (c ++ j)) (p.length + i * sz) Z = p ++ (c.take (i * sz) ++ (Z ++ j)) := by
  have e2 : n * sz = i * sz + (n - i) * sz := by rw [← Nat.add_mul]; congr 1; omega
  have hs : p ++ (c ++ j) = (p ++ c.take (i * sz)) ++ (c.drop (i * sz) ++ j) := by
    rw [List.append_assoc]; congr 1
    rw [← List.append_assoc, List.take_append_drop]
  rw [hs, wrList_mid (by rw [List.length_append, List.length_take]; omega) (by rw [List.length_drop]; omega), List.append_assoc]
theorem zeroRow_one {z : Array Value} {n : Nat} (h : z.toList.all oneCell = true) : (zeroRow z n).all oneCell = true := by
  rw [List.all_eq_true] at h ⊢
  intro v hv
  unfold zeroRow at hv
  split at hv
  · rename_i h1
    have := (List.mem_replicate.1 hv).2
    subst this
    refine h _ ?_
    rw [Array.getD_eq_getD_getElem?]
    simp [h1]
  · rw [List.mem_map] at hv
    obtain ⟨i, hi, rfl⟩ := hv
    rw [List.mem_range] at hi
    by_cases hz : z.size = 0
    · have : z = #[] := Array.eq_empty_of_size_eq_zero hz
      subst this
      rfl
    · have hlt : i % z.size < z.size := Nat.mod_lt _ (by omega)
      refine h _ ?_
      rw [getElem!_pos z (i % z.size) hlt]
      simp
section
variable {E : Env} {call : CallF} {ops : List Oper} {base i : Nat} {o : Oper} {rest : List Oper} {fr fr' : List Value} {L L' R : List Res} {K : List Rec → List Value → St → Prop} {P : Program}
/-- A slice of the nil slice, with three indexes. -/
theorem ro_slN3 {t e' : TypeId} {x : Operand} {lo : Option Operand} {hi mx : Operand} {n h l m : Nat} {vl : Option Value} {vh vm : Value} (hw : Region.wanted o (yieldA ops fr) = true) (hop : o.op = .slice t x lo (some hi) (some mx)) (hP : E.P = P) (hu : P.underlying t = some (.slice e')) (hz : sizeT P e' = some n)
    (hx : Opd fr x = .slice none 0 0) (hlo : lo.map (Opd fr) = vl) (hhi : Opd fr hi = vh) (hmx : Opd fr mx = vm) (bm : bound? (some vm) 0 0 = some m) (bh : bound? (some vh) 0 0 = some h) (bl : bound? vl 0 0 = some l)
    (hk : RO E call ops base (i + 1) rest (put fr o.dst (.slice none 0 0)) L fun rs => K (.mem (fun g => evOp E (Opd fr) (base + i) g o) ⟨.slice none 0 0, [], []⟩ :: rs)) : ROC E call ops base i o rest fr L K :=
  ro_mem (by unfold callOf; rw [hop]) hw fun σ r ho => by
    subst hP
    refine ⟨⟨.slice none 0 0, [], []⟩, L, ?_, ho.tail, hk⟩
    unfold evOp
    simp only [hop, hx, hlo, hhi, hmx, Option.map_some]
    unfold evSlice
    simp only [hu, hz, bm, bh, bl]
/-- append of a part of the same block, where there is room. -/
theorem ro_appS {x y : Operand} {ts : Array TypeId} {t0 t1 el : TypeId} {sz bytes b off soff n cap m sc : Nat} {c new : List Value} {e : TypeId} {ex : Bool} (hw : Region.wanted o (yieldA ops fr) = true) (hop : o.op = .call { callee := .builtin .append, args := #[x, y], argTypes := ts }) (hts : ts = #[t0, t1]) (hP : E.P = P) (ht : AppT P t0 t1 el sz bytes)
    (hx : Opd fr x = .slice (some ⟨b, off, none⟩) n cap) (hy : Opd fr y = .slice (some ⟨b, soff, none⟩) m sc) (hs : Sel L (.blk b c e ex) R) (hm : 0 < m) (hroom : n + m ≤ cap) (hle : off + cap * sz ≤ c.length) (hsl : soff + m * sz ≤ c.length) (hnew : (c.drop soff).take (m * sz) = new) (hone : new.all oneCell = true)
    (hk : ∀ e', RO E call ops base (i + 1) rest (put fr o.dst (.slice (some ⟨b, off, none⟩) (n + m) cap)) (.blk b (wrList c (off + n * sz) new) e ex :: R) fun rs => K (.mem (fun g => evOp E (Opd fr) (base + i) g o) e' :: rs)) : ROC E call ops base i o rest fr L K :=
  ro_mem (by unfold callOf; rw [hop]) hw fun σ r ho => by
    subst hP
    have h1 : Own E σ (.blk b c e ex :: r :: R) := (ho.tail.perm (hs.perm.cons r)).perm (List.Perm.swap _ _ _)
    have hg := h1.get .head
    obtain ⟨d, hd1, hd2⟩ := ht.un
    obtain ⟨z, hz1, hz2⟩ := ht.ze
    obtain ⟨ti, hi⟩ : ∃ i, E.P.info? el = some i := by
      have := ht.szT
      unfold sizeT at this
      cases hi : E.P.info? el with
      | none => simp [hi] at this
      | some i => exact ⟨i, rfl⟩
    have hisz : ti.size = sz := by simpa [sizeT, hi] using ht.szT
    subst hisz
    have hmul : (n + m) * ti.size ≤ cap * ti.size := Nat.mul_le_mul_right _ hroom
    rw [Nat.add_mul] at hmul
    have hln : new.length = m * ti.size := by rw [← hnew, List.length_take, List.length_drop]; omega
    have hrd : rdRow E σ.heap.get ti.size m (.slice (some ⟨b, soff, none⟩) m sc) = some new := by
      simp only [rdRow, (show m ≠ 0 by omega), if_false, Nat.le_refl, if_true, rd, Option.isSome_none, Bool.false_eq_true, hg.1, hg.2]
      rw [if_pos hsl, hnew]
    have hwr : wr E σ.heap.get ⟨b, off + n * ti.size, none⟩ new = some (b, some (.cells (wrList c (off + n * ti.size) new) e ex)) := by
      have hh : ¬ (((⟨b, off + n * ti.size, none⟩ : Addr).spot.isSome || decide (b < E.old)) || !new.all oneCell) = true := by simp [hg.1]; simpa using hone
      unfold wr
      rw [if_neg hh]
      simp only [hg.2]
      rw [if_pos (by rw [hln]; omega)]
    have hc0 : ¬ (ti.size = 0 ∨ z.size ≠ ti.size ∨ strOk (.slice (some ⟨b, soff, none⟩) m sc) ti.size = false) := by
      have := ht.ne
      simp [this, hz2, strOk]
    refine ⟨⟨.slice (some ⟨b, off, none⟩) (n + m) cap, [(b, some (.cells (wrList c (off + n * ti.size) new) e ex))], b :: blkOf (.slice (some ⟨b, soff, none⟩) m sc)⟩, _, ?_, (h1.write (c' := wrList c (off + n * ti.size) new)).perm (List.Perm.swap _ _ _), hk _⟩
    unfold evOp
    simp only [hop, hts, List.map_cons, List.map_nil, hx, hy, evBuiltin]
    unfold evAppend
    simp only [List.getElem?_toArray, List.getElem?_cons_zero, List.getElem?_cons_succ, Option.bind_some, ht.elT, hd1, hd2, hi, hz1, lenV, hc0, hrd, Bool.not_true, Bool.false_eq_true, if_false, if_pos hroom, if_neg (show ¬ m = 0 by omega), Option.isSome_none, hwr]
/-- append of nothing. -/
theorem ro_app0 {x y : Operand} {ts : Array TypeId} {t0 t1 el : TypeId} {sz bytes n cap m sc : Nat} {a : Option Addr} {ba : Option Addr} (hw : Region.wanted o (yieldA ops fr) = true) (hop : o.op = .call { callee := .builtin .append, args := #[x, y], argTypes := ts }) (hts : ts = #[t0, t1]) (hP : E.P = P) (ht : AppT P t0 t1 el sz bytes)
    (hx : Opd fr x = .slice ba n cap) (hy : Opd fr y = .slice a m sc) (hm : m = 0) (hroom : n ≤ cap)
    (hk : ∀ e', RO E call ops base (i + 1) rest (put fr o.dst (.slice ba n cap)) L fun rs => K (.mem (fun g => evOp E (Opd fr) (base + i) g o) e' :: rs)) : ROC E call ops base i o rest fr L K :=
  ro_mem (by unfold callOf; rw [hop]) hw fun σ r ho => by
    subst hP hm
    obtain ⟨d, hd1, hd2⟩ := ht.un
    obtain ⟨z, hz1, hz2⟩ := ht.ze
    obtain ⟨ti, hi⟩ : ∃ i, E.P.info? el = some i := by
      have := ht.szT
      unfold sizeT at this
      cases hi : E.P.info? el with
      | none => simp [hi] at this
      | some i => exact ⟨i, rfl⟩
    have hisz : ti.size = sz := by simpa [sizeT, hi] using ht.szT
    subst hisz
    have hrd : rdRow E σ.heap.get ti.size 0 (.slice a 0 sc) = some [] := by cases a <;> simp [rdRow]
    have hlv : lenV (.slice a 0 sc) = some 0 := by cases a <;> rfl
    have hc0 : ¬ (ti.size = 0 ∨ z.size ≠ ti.size ∨ strOk (.slice a 0 sc) ti.size = false) := by
      have := ht.ne
      simp [this, hz2, strOk]
    refine ⟨⟨.slice ba n cap, [], blkOf (.slice a 0 sc)⟩, L, ?_, ho.tail, hk _⟩
    unfold evOp
    simp only [hop, hts, List.map_cons, List.map_nil, hx, hy, evBuiltin]
    unfold evAppend
    simp only [List.getElem?_toArray, List.getElem?_cons_zero, List.getElem?_cons_succ, Option.bind_some, ht.elT, hd1, hd2, hi, hz1, hlv, hc0, hrd, Bool.not_true, Bool.false_eq_true, if_false, Nat.add_zero, if_pos hroom, if_true]
/-- clear. -/
theorem ro_clear {x : Operand} {ts : Array TypeId} {t0 el : TypeId} {b off n cap sz : Nat} {z : Array Value} {c : List Value} {e : TypeId} {ex : Bool} (hw : Region.wanted o (yieldA ops fr) = true) (hop : o.op = .call { callee := .builtin .clear, args := #[x], argTypes := ts }) (hts : ts = #[t0]) (hP : E.P = P) (hel : elemT P t0 = some el) (hsz : sizeT P el = some sz) (hz : zeroCells? P el = some z) (hzs : z.size = sz) (h0 : sz ≠ 0)
    (hx : Opd fr x = .slice (some ⟨b, off, none⟩) n cap) (hs : Sel L (.blk b c e ex) R) (hn : 0 < n) (hle : off + n * sz ≤ c.length) (hone : (zeroRow z (n * sz)).all oneCell = true)
    (hk : ∀ e', RO E call ops base (i + 1) rest (put fr o.dst (.tuple #[])) (.blk b (wrList c off (zeroRow z (n * sz))) e ex :: R) fun rs => K (.mem (fun g => evOp E (Opd fr) (base + i) g o) e' :: rs)) : ROC E call ops base i o rest fr L K :=
  ro_mem (by unfold callOf; rw [hop]) hw fun σ r ho => by
    subst hP hzs
    have h1 : Own E σ (.blk b c e ex :: r :: R) := (ho.tail.perm (hs.perm.cons r)).perm (List.Perm.swap _ _ _)
    have hg := h1.get .head
    have hwr : wr E σ.heap.get ⟨b, off, none⟩ (zeroRow z (n * z.size)) = some (b, some (.cells (wrList c off (zeroRow z (n * z.size))) e ex)) := by
      have hh : ¬ (((⟨b, off, none⟩ : Addr).spot.isSome || decide (b < E.old)) || !(zeroRow z (n * z.size)).all oneCell) = true := by simp [hg.1]; simpa using hone
      unfold wr
      rw [if_neg hh]
      simp only [hg.2]
      rw [if_pos (by rw [zeroRow_ln]; exact hle)]
    refine ⟨⟨.tuple #[], [(b, some (.cells (wrList c off (zeroRow z (n * z.size))) e ex))], [b]⟩, _, ?_, (h1.write (c' := wrList c off (zeroRow z (n * z.size)))).perm (List.Perm.swap _ _ _), hk _⟩
    unfold evOp
    simp only [hop, hts, List.map_cons, List.map_nil, hx, evBuiltin]
    unfold evClear
    simp only [List.getElem?_toArray, List.getElem?_cons_zero, Option.bind_some, hel, hsz, hz, (show n ≠ 0 by omega), if_false, ne_eq, h0, not_false_eq_true, and_self, if_true, hwr]
end
theorem o_sel {E : Env} {L R : List Res} {r : Res} {G : St → Prop} (hs : Sel L r R) (h : O E (r :: R) G) : O E L G := fun σ ho => h σ (ho.sel hs)
theorem o_nilR {E : Env} {R : List Res} {n sz : Nat} {s : Value} {c : List Value} {e : TypeId} {G : St → Prop} (hn : n = 0) (hx : O E (.row 0 (.slice none 0 0) n c e sz :: .row 0 s n c e sz :: R) G) : O E (.row 0 s n c e sz :: R) G := by
  subst hn
  intro σ ho
  have hl := (ho.row .head).1
  have hc : c = [] := List.length_eq_zero_iff.1 (by rw [hl, Nat.zero_mul])
  subst hc
  exact o_nilrow hx σ ho
/-- A row opened to its block. -/
theorem o_open {E : Env} {L R : List Res} {s : Value} {n : Nat} {c : List Value} {e : TypeId} {sz : Nat} {G : St → Prop} (hs : Sel L (.row 0 s n c e sz) R)
    (h0 : s = .slice none 0 0 → n = 0 → c = [] → O E L G)
    (h1 : ∀ b p m j x, s = .slice (some ⟨b, p.length, none⟩) n (n + m) → j.length = m * sz → c.length = n * sz → O E (.blk b (p ++ (c ++ j)) e x :: R) G) : O E L G := by
  intro σ ho
  obtain ⟨hl, h⟩ := ho.row hs
  rcases h with ⟨hs0, hn⟩ | ⟨b, p, m, j, x, hsl, hj, hg⟩
  · exact h0 hs0 hn (List.length_eq_zero_iff.1 (by rw [hl, hn, Nat.zero_mul])) σ ho
  · refine h1 b p m j x hsl hj hl σ ?_
    have ho2 := ho.sel hs
    subst hsl
    refine Own.upd (A := [.row 0 (.slice (some ⟨b, p.length, none⟩) n (n + m)) n c e sz]) (A' := [.blk b (p ++ (c ++ j)) e x]) (h' := σ.heap) ho2 (by simp [idsL, Res.ids]) (fun k hk => by simpa [idsL, Res.ids, rowBlk] using hk) (fun r hr => ?_) (fun _ _ => rfl)
    simp only [List.mem_singleton] at hr
    subst hr
    exact hg
/-- .. and closed. -/
theorem o_close {E : Env} {L R : List Res} {b : Nat} {p c j : List Value} {n m : Nat} {e : TypeId} {x : Bool} {sz : Nat} {X : List Value} {G : St → Prop} (hs : Sel L (.blk b X e x) R) (hX : X = p ++ (c ++ j)) (hc : c.length = n * sz) (hj : j.length = m * sz)
    (h1 : O E (.row 0 (.slice (some ⟨b, p.length, none⟩) n (n + m)) n c e sz :: R) G) : O E L G := by
  subst hX
  intro σ ho
  have ho2 := ho.sel hs
  have hg := (ho2.get .head).2
  refine h1 σ ?_
  refine Own.upd (A := [.blk b (p ++ (c ++ j)) e x]) (A' := [.row 0 (.slice (some ⟨b, p.length, none⟩) n (n + m)) n c e sz]) (h' := σ.heap) ho2 (by simp [idsL, Res.ids, rowBlk]) (fun k hk => by simpa [idsL, Res.ids, rowBlk] using hk) (fun r hr => ?_) (fun _ _ => rfl)
  simp only [List.mem_singleton] at hr
  subst hr
  exact ⟨hc, .inr ⟨b, p, m, j, x, rfl, hj, hg⟩⟩
end Go.Ab

/- Scopes that run to a label of theirs and jump back to it; places in rows. -/
set_option linter.all false
namespace Go.Ab
section
variable {E : Env} {call : CallF} {k : Nat} {fid : FuncId} {fr fr' : List Value} {L L' R : List Res}
/-- What holds where a loop begins. -/
def Begun (E : Env) (J : List Value → List Res → Prop) : Ex → List Value → St → Prop
  | .normal, fr, σ => ∃ L', J fr L' ∧ Own E σ L'
  | _, _, _ => False
theorem o_begun {J : List Value → List Res → Prop} (hj : J fr L') (he : Ent L L') : O E L (Begun E J .normal fr) := fun σ ho => ⟨L', hj, he.own ho⟩
/-- A scope 'a; label; b' whose b jumps back to the label: J i holds at the label when it is passed the (i+1)st time. -/
theorem o_hopL {a b : Code} {Q : Ex → List Value → St → Prop} (l : Nat) (hl : hasLabel a l = false) (J : Nat → List Value → List Res → Prop) (n : Nat) (hm : n + 1 < k)
    (h0 : O E L fun σ => W E call k fid a none fr σ (Begun E (J 0)))
    (step : ∀ i fr L, i ≤ n → J i fr L → O E L fun σ => W E call k fid b none fr σ (jumps (.seq a (.seq (.label l) b)) (fun l' fr σ => l' = l ∧ i < n ∧ ∃ L', J (i + 1) fr L' ∧ Own E σ L') Q)) :
    O E L fun σ => W E call k fid (.scope (.seq a (.seq (.label l) b))) none fr σ Q := by
  have hl2 : hasLabel (.seq a (.seq (.label l) b)) l = true := by simp [hasLabel]
  refine o_hop l hl2 (fun i fr L => i + 1 ≤ n ∧ J (i + 1) fr L) n hm ?_ ?_
  · intro σ ho
    refine w_seq ((h0 σ ho).mono ?_)
    intro e fr σ he
    cases e with
    | normal =>
      obtain ⟨L1, hj, ho1⟩ := he
      show W E call k fid (.seq (.label l) b) none fr σ _
      refine w_seq (w_label ?_)
      show W E call k fid b none fr σ _
      refine (step 0 fr L1 (Nat.zero_le _) hj σ ho1).mono ?_
      intro e fr σ he
      cases e with
      | goto l' =>
        simp only [jumps] at he ⊢
        split at he
        · rename_i hy
          rw [if_pos hy]
          obtain ⟨h1, h2, L2, h3, h4⟩ := he
          exact ⟨h1, L2, ⟨h2, h3⟩, h4⟩
        · rename_i hn; rw [if_neg hn]; exact he
      | _ => exact he
    | _ => exact he.elim
  · rintro i fr L hi ⟨hi2, hj⟩
    intro σ ho
    refine w_seq_past hl ?_
    refine w_seq_at (by simp [hasLabel]) (w_label_at ?_)
    show W E call k fid b none fr σ _
    refine (step (i + 1) fr L hi2 hj σ ho).mono ?_
    intro e fr σ he
    cases e with
    | goto l' =>
      simp only [jumps] at he ⊢
      split at he
      · rename_i hy
        rw [if_pos hy]
        obtain ⟨h1, h2, L2, h3, h4⟩ := he
        exact ⟨h1, by omega, L2, ⟨by omega, h3⟩, h4⟩
      · rename_i hn; rw [if_neg hn]; exact he
    | _ => exact he
end

/-! Places in rows. -/
section
variable {α : Type} {l : List α} {x y : α} {p : α → Bool}
/-- The place of the first one of which p holds; the length, if there is none. -/
def fi (p : α → Bool) (l : List α) : Nat := l.findIdx p
theorem fi_le : fi p l ≤ l.length := List.findIdx_le_length
theorem fi_not {j : Nat} (hj : j < fi p l) (hy : l[j]? = some y) : p y = false := by
  obtain ⟨h1, h2⟩ := List.getElem?_eq_some_iff.1 hy
  have := List.not_of_lt_findIdx hj
  rw [h2] at this
  simpa using this
theorem fi_yes (hy : l[fi p l]? = some y) : p y = true := by
  obtain ⟨h1, h2⟩ := List.getElem?_eq_some_iff.1 hy
  rw [← h2]
  exact List.findIdx_getElem (w := h1)
theorem fi_eq {k : Nat} (hk : k ≤ l.length) (hlt : ∀ j y, j < k → l[j]? = some y → p y = false) (hge : ∀ y, l[k]? = some y → p y = true) : fi p l = k := by
  have h1 := fi_le (p := p) (l := l)
  rcases Nat.lt_trichotomy (fi p l) k with h | h | h
  · obtain ⟨y, hy⟩ : ∃ y, l[fi p l]? = some y := ⟨_, List.getElem?_eq_getElem (by omega)⟩
    have := hlt _ y h hy
    rw [fi_yes hy] at this; cases this
  · exact h
  · obtain ⟨y, hy⟩ : ∃ y, l[k]? = some y := ⟨_, List.getElem?_eq_getElem (by omega)⟩
    have := fi_not h hy
    rw [hge y hy] at this; cases this
/-- One put in at a place; one taken out. -/
def putAt (l : List α) (k : Nat) (x : α) : List α := l.take k ++ ([x] ++ l.drop k)
def cutAt (l : List α) (i j : Nat) : List α := l.take i ++ l.drop j
theorem putAt_len {k : Nat} (h : k ≤ l.length) : (putAt l k x).length = l.length + 1 := by simp [putAt]; omega
theorem cutAt_len {i j : Nat} (h : i ≤ j) (h2 : j ≤ l.length) : (cutAt l i j).length = i + (l.length - j) := by simp [cutAt]; omega
theorem putAt_mem {k : Nat} : y ∈ putAt l k x ↔ y = x ∨ y ∈ l := by
  unfold putAt
  rw [List.mem_append, List.mem_append, List.mem_singleton]
  conv => rhs; rw [← List.take_append_drop k l, List.mem_append]
  constructor
  · rintro (h | h | h)
    · exact .inr (.inl h)
    · exact .inl h
    · exact .inr (.inr h)
  · rintro (h | h | h)
    · exact .inr (.inl h)
    · exact .inl h
    · exact .inr (.inr h)
theorem cutAt_mem {i j : Nat} (h : y ∈ cutAt l i j) : y ∈ l := by
  unfold cutAt at h
  rcases List.mem_append.1 h with h | h
  · exact List.mem_of_mem_take h
  · exact List.mem_of_mem_drop h
section
variable {f : α → List Value} {k : Nat}
theorem flat_putAt (h : ∀ x, (f x).length = k) {i : Nat} : flat f (putAt l i x) = (flat f l).take (i * k) ++ (f x ++ (flat f l).drop (i * k)) := by
  unfold putAt
  rw [flat_app, flat_app, flat_drop h]
  congr 1
  · rw [flat_take h]
  · simp [flat]
theorem flat_cutAt (h : ∀ x, (f x).length = k) {i j : Nat} : flat f (cutAt l i j) = (flat f l).take (i * k) ++ (flat f l).drop (j * k) := by
  unfold cutAt
  rw [flat_app, flat_drop h, flat_take h]
end
theorem cut_split {A B : List α} : cutAt (A ++ y :: B) A.length (A.length + 1) = A ++ B := by
  unfold cutAt
  rw [List.take_left, show A.length + 1 = A.length + 1 from rfl, ← List.drop_drop, List.drop_left]; rfl
theorem put_split {A B : List α} : putAt (A ++ B) A.length x = A ++ x :: B := by
  unfold putAt
  rw [List.take_left, List.drop_left]; rfl
theorem split_lt {A B : List α} {P : α → Prop} (h : ∀ z ∈ A, P z) : ∀ j y, j < A.length → (A ++ B)[j]? = some y → P y := by
  intro j y hj hy
  rw [List.getElem?_append_left hj] at hy
  exact h y (List.mem_of_getElem? hy)
theorem split_ge {A B : List α} {P : α → Prop} (h : ∀ z ∈ B, P z) : ∀ y, (A ++ B)[A.length]? = some y → P y := by
  intro y hy
  rw [List.getElem?_append_right (Nat.le_refl _)] at hy
  exact h y (List.mem_of_getElem? hy)
theorem split_at {A B : List α} : (A ++ y :: B)[A.length]? = some y := by simp
/-- Rising rows. -/
def Rise (r : α → α → Prop) (l : List α) : Prop := l.Pairwise r
theorem Rise.cut {r : α → α → Prop} (h : Rise r l) {i j : Nat} (hij : i ≤ j) : Rise r (cutAt l i j) := by
  unfold Rise cutAt
  have h1 : l.Pairwise r := h
  rw [← List.take_append_drop i l, List.pairwise_append] at h1
  have h2 : (l.drop j).Sublist (l.drop i) := by
    rw [show j = i + (j - i) by omega, ← List.drop_drop]
    exact List.drop_sublist _ _
  rw [List.pairwise_append]
  exact ⟨h1.1, h1.2.1.sublist h2, fun a ha b hb => h1.2.2 a ha b (h2.subset hb)⟩
theorem Rise.put {r : α → α → Prop} (h : Rise r l) {k : Nat} (h1 : ∀ y ∈ l.take k, r y x) (h2 : ∀ y ∈ l.drop k, r x y) : Rise r (putAt l k x) := by
  unfold Rise putAt
  have h0 : l.Pairwise r := h
  rw [← List.take_append_drop k l, List.pairwise_append] at h0
  rw [List.pairwise_append, List.pairwise_append]
  refine ⟨h0.1, ⟨by simp, h0.2.1, fun a ha b hb => ?_⟩, fun a ha b hb => ?_⟩
  · rw [List.mem_singleton] at ha; subst ha; exact h2 b hb
  · rcases List.mem_append.1 hb with hb | hb
    · rw [List.mem_singleton] at hb; subst hb; exact h1 a ha
    · exact h0.2.2 a ha b hb
theorem Rise.get {r : α → α → Prop} (h : Rise r l) {i j : Nat} (hij : i < j) (hx : l[i]? = some x) (hy : l[j]? = some y) : r x y := by
  obtain ⟨a1, a2⟩ := List.getElem?_eq_some_iff.1 hx
  obtain ⟨b1, b2⟩ := List.getElem?_eq_some_iff.1 hy
  rw [← a2, ← b2]
  exact List.pairwise_iff_getElem.1 h i j a1 b1 hij
end
/-- A row of truths. -/
def boolC (b : Bool) : List Value := [.bool b]
theorem boolC_len (b : Bool) : (boolC b).length = 1 := rfl
theorem boolC_one (b : Bool) : (boolC b).all oneCell = true := rfl
theorem flat_repl {α : Type} {f : α → List Value} {v : Value} {x : α} (h : f x = [v]) (n : Nat) : flat f (List.replicate n x) = List.replicate n v := by
  induction n with
  | zero => rfl
  | succ n ih => rw [List.replicate_succ, flat_cons, ih, h]; rfl
end Go.Ab

/- Scopes whose label stands behind more than one piece of code. -/
set_option linter.all false
namespace Go.Ab
section
variable {E : Env} {call : CallF} {k : Nat} {fid : FuncId} {fr fr' : List Value} {L L' R : List Res}
/-- A scope that jumps back to one label; 'b' is what stands behind the label. What holds at the label the (i+1)st time is J i; 'h0': the way to the label, and how it goes on from there. -/
theorem o_hopG {c b : Code} {Q : Ex → List Value → St → Prop} (l : Nat) (hl : hasLabel c l = true) (J : Nat → List Value → List Res → Prop) (n : Nat) (hm : n + 1 < k)
    (hat : ∀ fr σ (Q : Ex → List Value → St → Prop), W E call k fid b none fr σ Q → W E call k fid c (some l) fr σ Q)
    (step : ∀ i fr L, i ≤ n → J i fr L → O E L fun σ => W E call k fid b none fr σ (jumps c (fun l' fr σ => l' = l ∧ i < n ∧ ∃ L', J (i + 1) fr L' ∧ Own E σ L') Q))
    (h0 : (∀ fr L, J 0 fr L → O E L fun σ => W E call k fid b none fr σ (jumps c (fun l' fr σ => l' = l ∧ ∃ L', (0 + 1 ≤ n ∧ J (0 + 1) fr L') ∧ Own E σ L') Q)) →
      O E L fun σ => W E call k fid c none fr σ (jumps c (fun l' fr σ => l' = l ∧ ∃ L', (0 + 1 ≤ n ∧ J (0 + 1) fr L') ∧ Own E σ L') Q)) :
    O E L fun σ => W E call k fid (.scope c) none fr σ Q := by
  refine o_hop l hl (fun i fr L => i + 1 ≤ n ∧ J (i + 1) fr L) n hm (h0 ?_) ?_
  · intro fr L hj σ ho
    refine (step 0 fr L (Nat.zero_le _) hj σ ho).mono ?_
    intro e fr σ he
    cases e with
    | goto l' =>
      simp only [jumps] at he ⊢
      split at he
      · rename_i hy
        rw [if_pos hy]
        obtain ⟨h1, h2, L2, h3, h4⟩ := he
        exact ⟨h1, L2, ⟨h2, h3⟩, h4⟩
      · rename_i hn; rw [if_neg hn]; exact he
    | _ => exact he
  · rintro i fr L hi ⟨hi2, hj⟩
    intro σ ho
    refine hat _ _ _ ((step (i + 1) fr L hi2 hj σ ho).mono ?_)
    intro e fr σ he
    cases e with
    | goto l' =>
      simp only [jumps] at he ⊢
      split at he
      · rename_i hy
        rw [if_pos hy]
        obtain ⟨h1, h2, L2, h3, h4⟩ := he
        exact ⟨h1, by omega, L2, ⟨by omega, h3⟩, h4⟩
      · rename_i hn; rw [if_neg hn]; exact he
    | _ => exact he
theorem hat_past {x y b : Code} {l : Nat} (hl : hasLabel x l = false) (h : ∀ fr σ (Q : Ex → List Value → St → Prop), W E call k fid b none fr σ Q → W E call k fid y (some l) fr σ Q) :
    ∀ fr σ (Q : Ex → List Value → St → Prop), W E call k fid b none fr σ Q → W E call k fid (.seq x y) (some l) fr σ Q := fun fr σ Q hw => w_seq_past hl (h fr σ Q hw)
theorem hat_here {b : Code} {l : Nat} : ∀ fr σ (Q : Ex → List Value → St → Prop), W E call k fid b none fr σ Q → W E call k fid (.seq (.label l) b) (some l) fr σ Q :=
  fun fr σ Q hw => w_seq_at (by simp [hasLabel]) (w_label_at hw)
/-- At the label. -/
theorem o_at {b : Code} {l : Nat} {Q Q' : Ex → List Value → St → Prop} (he : Ent L L') (h : O E L' fun σ => W E call k fid b none fr σ Q) : O E L fun σ => W E call k fid (.label l) none fr σ (onward (fun fr σ => W E call k fid b none fr σ Q) Q') :=
  fun σ ho => w_label (h σ (he.own ho))
/-- A row that isn't empty begins somewhere. -/
theorem o_shapeP {kd : Nat} {s : Value} {n : Nat} {c : List Value} {e : TypeId} {sz : Nat} {G : St → Prop} (hs : Sel L (.row kd s n c e sz) R) (hn : 0 < n) (hx : ∀ b o m, rowAt s = some (b, o) → s = .slice (some ⟨b, o, none⟩) n m → O E L G) : O E L G := fun σ ho => by
  obtain ⟨a, m, h1, h2⟩ := (ho.row hs).shape
  obtain ⟨b, o, rfl⟩ := h2 hn
  exact hx b o m (by rw [h1]; rfl) h1 σ ho
theorem o_capP {s : Value} {n : Nat} {c : List Value} {e : TypeId} {sz : Nat} {G : St → Prop} (hs : Sel L (.row 0 s n c e sz) R) (hn : 0 < n) (hx : capOk s → O E L G) : O E L G := fun σ ho => by
  obtain ⟨_, ⟨h1, h2⟩ | ⟨b, p, m, j, x, rfl, _⟩⟩ := ho.row hs
  · omega
  · exact hx (show n + m ≠ 0 by omega) σ ho
end
end Go.Ab

/- Floating point numbers of whole ones: pairs of such, their parts, equality with themselves. -/
set_option linter.all false
namespace Go.Ab
section
variable {E : Env} {fr : List Value} {nid : Nat} {g : Nat → Option Blk} {o : Oper} {P : Program}
theorem ev_cplx {x y : Operand} {ts : Array TypeId} {k : FloatKind} {a b : Nat} (ho : o.op = .call { callee := .builtin .complex, args := #[x, y], argTypes := ts }) (hx : Opd fr x = .float k a) (hy : Opd fr y = .float k b) : evOp E (Opd fr) nid g o = some ⟨.complex k a b, [], []⟩ := by
  unfold evOp
  simp only [ho, evBuiltin, List.map_cons, List.map_nil, hx, hy]
  have h : pureV E.P (Builtin.complex_ ts o.type [Value.float k a, Value.float k b].toArray) = some (.complex k a b) := by
    cases k <;> rfl
  rw [if_pos (show ([Value.float k a, Value.float k b].all scalar) = true from rfl)]
  rw [show #[Value.float k a, Value.float k b] = [Value.float k a, Value.float k b].toArray from rfl, h]; rfl
theorem ev_real {x : Operand} {ts : Array TypeId} {k : FloatKind} {a b : Nat} (ho : o.op = .call { callee := .builtin .real, args := #[x], argTypes := ts }) (hx : Opd fr x = .complex k a b) : evOp E (Opd fr) nid g o = some ⟨.float k a, [], []⟩ := by
  unfold evOp
  simp only [ho, evBuiltin, List.map_cons, List.map_nil, hx]
  have h : pureV E.P (Builtin.real_ ts o.type [Value.complex k a b].toArray) = some (.float k a) := by
    cases k <;> rfl
  rw [if_pos (show ([Value.complex k a b].all scalar) = true from rfl)]
  rw [show #[Value.complex k a b] = [Value.complex k a b].toArray from rfl, h]; rfl
theorem ev_imag {x : Operand} {ts : Array TypeId} {k : FloatKind} {a b : Nat} (ho : o.op = .call { callee := .builtin .imag, args := #[x], argTypes := ts }) (hx : Opd fr x = .complex k a b) : evOp E (Opd fr) nid g o = some ⟨.float k b, [], []⟩ := by
  unfold evOp
  simp only [ho, evBuiltin, List.map_cons, List.map_nil, hx]
  have h : pureV E.P (Builtin.imag_ ts o.type [Value.complex k a b].toArray) = some (.float k b) := by
    cases k <;> rfl
  rw [if_pos (show ([Value.complex k a b].all scalar) = true from rfl)]
  rw [show #[Value.complex k a b] = [Value.complex k a b].toArray from rfl, h]; rfl
theorem pr_underlying {P : Program} {t : TypeId} {d : TypeDesc} {α : Type} {f : TypeDesc → Sem α} (h : P.underlying t = some d) : pureRun P (underlying t >>= f) = pureRun P (f d) := by
  rw [pureRun_bind, pureRun_underlying, h]; rfl
theorem ev_convF {s d : TypeId} {x : Operand} {ki : IntKind} {k : FloatKind} {n : Int} (ho : o.op = .convert s d x) (hP : E.P = P) (hs : P.underlying s = some (.int ki)) (hd : P.underlying d = some (.float k)) (hx : Opd fr x = .int ki n) : evOp E (Opd fr) nid g o = some ⟨.float k (k.nearest n), [], []⟩ := by
  subst hP; unfold evOp
  simp only [ho, hx]
  unfold evConvert
  simp only [hs, hd]
  have h : pureV E.P (convert s d (.int ki n)) = some (.float k (k.nearest n)) := by
    have h2 : pureRun E.P (convert s d (.int ki n)) = some (.float k (k.nearest n)) := by
      unfold convert
      rw [pr_underlying hs, pr_underlying hd]
      rfl
    unfold pureV
    rw [h2]; rfl
  rw [if_pos (show scalar (Value.int ki n) = true from rfl), h]; rfl
theorem ev_eqF {t ty : TypeId} {x y : Operand} {k : FloatKind} {a : Nat} (ho : o.op = .binOp .eql t x y ty) (hP : E.P = P) (h1 : isPtr P t = false) (h2 : isSl P t = false) (hx : Opd fr x = .float k a) (hy : Opd fr y = .float k a) (hq : k.format.order a a = some .eq) : evOp E (Opd fr) nid g o = some ⟨.bool true, [], []⟩ := by
  subst hP; unfold evOp
  simp only [ho, hx, hy]
  have h : evBin E.P .eql t x y (.float k a) (.float k a) = some (.bool true) := by
    rw [evBin_scalar h1 h2 rfl rfl]
    simp [pureV, eqGuard, binOp, Op.floatCmp, hq]
    rfl
  rw [h]; rfl
end
/-! Whole numbers are no NaN. -/
theorem read_word {neg : Bool} {r : Nat} (h : r ≤ Ieee.double.infRung) : (∃ s m i, Ieee.double.read (Ieee.double.word neg r) = .number s m i) ∨ ∃ s, Ieee.double.read (Ieee.double.word neg r) = .infinity s := by
  have e1 : Ieee.double.signWeight = 9223372036854775808 := by decide
  have e2 : Ieee.double.infRung = 9218868437227405312 := by decide
  rw [e2] at h
  have e3 : Ieee.double.word neg r % Ieee.double.signWeight = r := by
    unfold Ieee.Format.word
    rw [e1]
    cases neg <;> simp <;> omega
  unfold Ieee.Format.read
  simp only [e3]
  split
  · exact .inl ⟨_, _, _, rfl⟩
  · split
    · exact .inl ⟨_, _, _, rfl⟩
    · rw [if_pos (by rw [e2] at *; omega)]
      exact .inr ⟨_, rfl⟩
theorem near_word (neg : Bool) (mag : Nat) (place : Int) : ∃ r, r ≤ Ieee.double.infRung ∧ Ieee.double.nearest neg mag place = Ieee.double.word neg r := by
  unfold Ieee.Format.nearest
  split
  · exact ⟨0, Nat.zero_le _, rfl⟩
  · exact ⟨_, Nat.min_le_right _ _, rfl⟩
theorem near_eq (n : Int) : FloatKind.f64.format.order (FloatKind.f64.nearest n) (FloatKind.f64.nearest n) = some .eq := by
  have e : FloatKind.f64.nearest n = Ieee.double.nearest (decide (n < 0)) n.natAbs 0 := rfl
  have e2 : FloatKind.f64.format = Ieee.double := rfl
  rw [e, e2]
  obtain ⟨r, hr, hw⟩ := near_word (decide (n < 0)) n.natAbs 0
  rw [hw]
  unfold Ieee.Format.order
  rcases read_word (neg := decide (n < 0)) hr with ⟨s, m, i, h⟩ | ⟨s, h⟩
  · rw [h]; simp [Ieee.Datum.order]
  · rw [h]; simp [Ieee.Datum.order]
end Go.Ab

/- Laws whose arguments are structs with slices. -/
set_option linter.all false
open Go.RowKit
namespace Go.Ab
theorem law_OA {P : Program} {pairs : FuncId → Nat → List (Nat × Nat)} (hm : P.follows .mixedOrders = true) (hp : progOkB P pairs = true) {t : Tbl} (ht : TblOK P t) {w : World} {f : FuncId} {args : Array Value} {v : Value} {k d : Nat}
    (hargs : ∀ x ∈ args.toList, oldV w.heap.size x = true ∨ scalar x = true ∨ ∃ cs : Array Value, x = .agg cs ∧ ∀ c ∈ cs.toList, oldV w.heap.size c = true) (hv : flatS v = true)
    (h : O (envAt P pairs w) [] fun σ => WCall (evFunT (envAt P pairs w) t k d) f args.toList σ fun u _ => u = v) (hcode : hasCode P f = true := by kernel_rfl) :
    Calls P f args w fun e w' => e = .returned v ∧ Below w.heap.size w w' := by
  obtain ⟨u, σ', hev, rfl⟩ := h ⟨.leaf, w.heap.size⟩ (.nil (Nat.le_refl _))
  have hok := evFunT_ok (E := envAt P pairs w) (progOk_of hm hp) (ht (envAt P pairs w) rfl) k d |>.ok w f args.toList _ u σ' hev
  replace hok := hok.resolve_right (fun h => by
    obtain ⟨fn, h1, h2⟩ := h.2.1
    unfold hasCode at hcode
    have h3 : P.funcs[f]? = some fn := h1
    rw [h3] at hcode
    simp [h2] at hcode)
  have hl : LRel w.heap.size (fun _ => none) args.toList args.toList := ⟨rfl, fun i x y hx hy => by
    rw [hx] at hy; cases hy
    rcases hargs x (List.mem_of_getElem? hx) with h | h | ⟨cs, rfl, h⟩
    · exact .of_old h
    · exact .of_scalar h
    · refine .agg cs cs rfl fun j a b ha hb => ?_
      rw [ha] at hb; cases hb
      exact .of_old (h a (by
        have := List.mem_of_getElem? (l := cs.toList) (i := j) (a := a) (by simpa using ha)
        exact this))⟩
  refine (hok.2.2 (fun _ => none) w args (rel_at P pairs w) hl).mono ?_
  rintro e w' ⟨v', μ', rfl, hvr, hr, _⟩
  exact ⟨by rw [hvr.flat_eq hv], hr.below⟩
end Go.Ab

/- Maps, by what is owned. -/
set_option linter.all false
open Go.RowKit
namespace Go.Ab
theorem Own.getO {E : Env} {σ : St} {L R : List Res} {b : Nat} {x : Blk} (h : Own E σ L) (hs : Sel L (.obj b x) R) : ¬ b < E.old ∧ σ.heap.get b = some x := by
  have h1 := h.sel hs
  refine ⟨?_, h1.ok (.obj b x) (by simp)⟩
  have := (h1.lt b (by simp [idsL, Res.ids])).1
  omega
theorem Own.allocO {E : Env} {σ : St} {L : List Res} {b : Nat} {r : Res} {x : Blk} (ho : Own E σ (.rsv b 1 :: r :: L)) : Own E ⟨σ.heap.set b (some x), σ.next⟩ (r :: .obj b x :: L) := by
  have h1 := Own.upd (A := [.rsv b 1]) (A' := [.obj b x]) (h' := σ.heap.set b (some x)) ho (by simp [idsL, Res.ids]) (by simp [idsL, Res.ids]) (by simp [Res.ok, T.get_set_self]) (fun x hx => by simp [idsL, Res.ids] at hx; exact T.get_set_ne _ _ _ _ hx)
  exact h1.perm (List.Perm.swap _ _ _)
theorem Own.writeO {E : Env} {σ : St} {L : List Res} {b : Nat} {x y : Blk} (ho : Own E σ (.obj b x :: L)) : Own E ⟨σ.heap.set b (some y), σ.next⟩ (.obj b y :: L) :=
  Own.upd (A := [.obj b x]) (A' := [.obj b y]) (h' := σ.heap.set b (some y)) ho (by simp [idsL, Res.ids]) (by simp [idsL, Res.ids]) (by simp [Res.ok, T.get_set_self]) (fun x hx => by simp [idsL, Res.ids] at hx; exact T.get_set_ne _ _ _ _ hx)
theorem mapAt_own {E : Env} {g : Nat → Option Blk} {kd : IntKind} {r : Nat} {es : List (Int × Value × Nat)} {c : Nat} (h1 : ¬ r < E.old) (h2 : g r = some (.mp kd es c)) : mapAt E g kd (.map (some r)) = some (r, es, c) := by
  unfold mapAt; simp only [h1, if_false, h2, if_true]
section
variable {E : Env} {call : CallF} {k : Nat} {fid : FuncId} {ops : List Oper} {base i : Nat} {o : Oper} {rest : List Oper} {fr fr' : List Value} {L L' R : List Res} {K : List Rec → List Value → St → Prop} {K0 : List Value → St → Prop} {P : Program} {kd : IntKind} {el : TypeId}
theorem ro_makeMap {t : TypeId} (hw : Region.wanted o (yieldA ops fr) = true) (hop : o.op = .makeMap t none) (hP : E.P = P) (ht : mapT P t = some (kd, el))
    (hk : ∀ b, RO E call ops base (i + 1) rest (put fr o.dst (.map (some b))) (.obj b (.mp kd [] 0) :: L) fun rs => K (.mem (fun g => evOp E (Opd fr) (base + i) g o) ⟨.map (some b), [(b, some (.mp kd [] 0))], []⟩ :: rs)) : ROC E call ops base i o rest fr L K :=
  ro_mem (by unfold callOf; rw [hop]) hw fun σ r ho => by
    subst hP
    refine ⟨⟨.map (some (base + i)), [(base + i, some (.mp kd [] 0))], []⟩, _, ?_, ho.allocO, hk _⟩
    unfold evOp; simp only [hop, Option.isNone_none, if_true]; unfold evMakeMap; simp only [ht]
theorem ro_lookY {t : TypeId} {x y : Operand} {ok : Bool} {b : Nat} {a : Int} {es : List (Int × Value × Nat)} {c : Nat} {v : Value} (hw : Region.wanted o (yieldA ops fr) = true) (hop : o.op = .lookup t x y ok) (hP : E.P = P) (ht : mapT P t = some (kd, el))
    (hx : Opd fr x = .map (some b)) (hy : Opd fr y = .int kd a) (hs : Sel L (.obj b (.mp kd es c)) R) (hv : mfind a es = some v)
    (hk : RO E call ops base (i + 1) rest (put fr o.dst (okV ok v true)) L fun rs => K (.mem (fun g => evOp E (Opd fr) (base + i) g o) ⟨okV ok v true, [], [b]⟩ :: rs)) : ROC E call ops base i o rest fr L K :=
  ro_mem (by unfold callOf; rw [hop]) hw fun σ r ho => by
    subst hP
    have hg := ho.tail.tail.getO hs
    refine ⟨⟨okV ok v true, [], [b]⟩, L, ?_, ho.tail, hk⟩
    unfold evOp; simp only [hop]; unfold evLookup; simp only [ht, hx, hy, ne_eq, not_true, if_false, mapAt_own hg.1 hg.2, hv]
theorem ro_lookN {t : TypeId} {x y : Operand} {ok : Bool} {b : Nat} {a : Int} {es : List (Int × Value × Nat)} {c : Nat} {v : Value} (hw : Region.wanted o (yieldA ops fr) = true) (hop : o.op = .lookup t x y ok) (hP : E.P = P) (ht : mapT P t = some (kd, el))
    (hx : Opd fr x = .map (some b)) (hy : Opd fr y = .int kd a) (hs : Sel L (.obj b (.mp kd es c)) R) (hv : mfind a es = none) (hz : zeroV P el = some v)
    (hk : RO E call ops base (i + 1) rest (put fr o.dst (okV ok v false)) L fun rs => K (.mem (fun g => evOp E (Opd fr) (base + i) g o) ⟨okV ok v false, [], [b]⟩ :: rs)) : ROC E call ops base i o rest fr L K :=
  ro_mem (by unfold callOf; rw [hop]) hw fun σ r ho => by
    subst hP
    have hg := ho.tail.tail.getO hs
    refine ⟨⟨okV ok v false, [], [b]⟩, L, ?_, ho.tail, hk⟩
    unfold evOp; simp only [hop]; unfold evLookup; simp only [ht, hx, hy, ne_eq, not_true, if_false, mapAt_own hg.1 hg.2, hv, hz]
theorem ro_mapSet {t : TypeId} {x y z : Operand} {b : Nat} {a : Int} {es es2 : List (Int × Value × Nat)} {c : Nat} {v : Value} (hw : Region.wanted o (yieldA ops fr) = true) (hop : o.op = .mapUpdate t x y z) (hP : E.P = P) (ht : mapT P t = some (kd, el))
    (hx : Opd fr x = .map (some b)) (hy : Opd fr y = .int kd a) (hz : Opd fr z = v) (hs : Sel L (.obj b (.mp kd es c)) R) (hv : mset a v es = some es2)
    (hk : RO E call ops base (i + 1) rest (put fr o.dst (.tuple #[])) (.obj b (.mp kd es2 c) :: R) fun rs => K (.mem (fun g => evOp E (Opd fr) (base + i) g o) ⟨.tuple #[], [(b, some (.mp kd es2 c))], [b]⟩ :: rs)) : ROC E call ops base i o rest fr L K :=
  ro_mem (by unfold callOf; rw [hop]) hw fun σ r ho => by
    subst hP
    have hg := ho.tail.tail.getO hs
    have h1 : Own E σ (.obj b (.mp kd es c) :: r :: R) := (ho.tail.perm (hs.perm.cons r)).perm (List.Perm.swap _ _ _)
    refine ⟨⟨.tuple #[], [(b, some (.mp kd es2 c))], [b]⟩, .obj b (.mp kd es2 c) :: R, ?_, (h1.writeO (y := .mp kd es2 c)).perm (List.Perm.swap _ _ _), hk⟩
    unfold evOp; simp only [hop]; unfold evMapUpdate; simp only [ht, hx, hy, hz, ne_eq, not_true, if_false, mapAt_own hg.1 hg.2, hv]
theorem ro_mapNew {t : TypeId} {x y z : Operand} {b : Nat} {a : Int} {es : List (Int × Value × Nat)} {c : Nat} {v : Value} (hw : Region.wanted o (yieldA ops fr) = true) (hop : o.op = .mapUpdate t x y z) (hP : E.P = P) (ht : mapT P t = some (kd, el))
    (hx : Opd fr x = .map (some b)) (hy : Opd fr y = .int kd a) (hz : Opd fr z = v) (hs : Sel L (.obj b (.mp kd es c)) R) (hv : mset a v es = none)
    (hk : RO E call ops base (i + 1) rest (put fr o.dst (.tuple #[])) (.obj b (.mp kd (es ++ [(a, v, c)]) (c + 1)) :: R) fun rs => K (.mem (fun g => evOp E (Opd fr) (base + i) g o) ⟨.tuple #[], [(b, some (.mp kd (es ++ [(a, v, c)]) (c + 1)))], [b]⟩ :: rs)) : ROC E call ops base i o rest fr L K :=
  ro_mem (by unfold callOf; rw [hop]) hw fun σ r ho => by
    subst hP
    have hg := ho.tail.tail.getO hs
    have h1 : Own E σ (.obj b (.mp kd es c) :: r :: R) := (ho.tail.perm (hs.perm.cons r)).perm (List.Perm.swap _ _ _)
    refine ⟨⟨.tuple #[], [(b, some (.mp kd (es ++ [(a, v, c)]) (c + 1)))], [b]⟩, .obj b (.mp kd (es ++ [(a, v, c)]) (c + 1)) :: R, ?_, (h1.writeO (y := .mp kd (es ++ [(a, v, c)]) (c + 1))).perm (List.Perm.swap _ _ _), hk⟩
    unfold evOp; simp only [hop]; unfold evMapUpdate; simp only [ht, hx, hy, hz, ne_eq, not_true, if_false, mapAt_own hg.1 hg.2, hv]
theorem ro_mapDel {ts : Array TypeId} {t0 t1 : TypeId} {x y : Operand} {b : Nat} {a : Int} {es : List (Int × Value × Nat)} {c : Nat} (hw : Region.wanted o (yieldA ops fr) = true) (hop : o.op = .call { callee := .builtin .delete, args := #[x, y], argTypes := ts }) (hts : ts = #[t0, t1]) (hP : E.P = P) (ht : mapT P t0 = some (kd, el))
    (hx : Opd fr x = .map (some b)) (hy : Opd fr y = .int kd a) (hs : Sel L (.obj b (.mp kd es c)) R)
    (hk : RO E call ops base (i + 1) rest (put fr o.dst (.tuple #[])) (.obj b (.mp kd (mdel a es) c) :: R) fun rs => K (.mem (fun g => evOp E (Opd fr) (base + i) g o) ⟨.tuple #[], [(b, some (.mp kd (mdel a es) c))], [b]⟩ :: rs)) : ROC E call ops base i o rest fr L K :=
  ro_mem (by unfold callOf; rw [hop]) hw fun σ r ho => by
    subst hP hts
    have hg := ho.tail.tail.getO hs
    have h1 : Own E σ (.obj b (.mp kd es c) :: r :: R) := (ho.tail.perm (hs.perm.cons r)).perm (List.Perm.swap _ _ _)
    refine ⟨⟨.tuple #[], [(b, some (.mp kd (mdel a es) c))], [b]⟩, .obj b (.mp kd (mdel a es) c) :: R, ?_, (h1.writeO (y := .mp kd (mdel a es) c)).perm (List.Perm.swap _ _ _), hk⟩
    unfold evOp; simp only [hop, evBuiltin, List.map_cons, List.map_nil]; unfold evDelete
    have : ((#[t0, t1] : Array TypeId)[0]?).bind (fun t => mapT E.P t) = some (kd, el) := ht
    simp only [this, hx, hy, ne_eq, not_true, if_false, mapAt_own hg.1 hg.2]
theorem ro_lenM {ts : Array TypeId} {t0 : TypeId} {x : Operand} {b : Nat} {es : List (Int × Value × Nat)} {c : Nat} (hw : Region.wanted o (yieldA ops fr) = true) (hop : o.op = .call { callee := .builtin .len, args := #[x], argTypes := ts }) (hts : ts = #[t0]) (hP : E.P = P) (ht : mapT P t0 = some (kd, el))
    (hx : Opd fr x = .map (some b)) (hs : Sel L (.obj b (.mp kd es c)) R)
    (hk : RO E call ops base (i + 1) rest (put fr o.dst (.int .i64 es.length)) L fun rs => K (.mem (fun g => evOp E (Opd fr) (base + i) g o) ⟨.int .i64 es.length, [], [b]⟩ :: rs)) : ROC E call ops base i o rest fr L K :=
  ro_mem (by unfold callOf; rw [hop]) hw fun σ r ho => by
    subst hP hts
    have hg := ho.tail.tail.getO hs
    refine ⟨⟨.int .i64 es.length, [], [b]⟩, L, ?_, ho.tail, hk⟩
    unfold evOp; simp only [hop, evBuiltin, List.map_cons, List.map_nil]; unfold evLenE
    have hl : evLen E.P #[t0] (Opd fr x) = none := by
      unfold evLen
      have : ((#[t0] : Array TypeId)[0]?).bind (fun t => E.P.underlying t) = E.P.underlying t0 := rfl
      rw [this]
      unfold mapT at ht
      split at ht
      · rename_i hu; rw [hu]
      · cases ht
    rw [hl]
    unfold evLenM
    have : ((#[t0] : Array TypeId)[0]?).bind (fun t => mapT E.P t) = some (kd, el) := ht
    simp only [this, hx, mapAt_own hg.1 hg.2]
end
end Go.Ab

/- Many blocks in one piece. -/
set_option linter.all false
open Go.RowKit
namespace Go.Ab
variable {E : Env} {L R : List Res} {G : St → Prop}
theorem Own.many0 {σ : St} (h : Own E σ L) : Own E σ (.many [] :: L) := by
  refine ⟨h.base, by simpa [idsL, Res.ids] using h.nodup, fun b hb => h.lt b (by simpa [idsL, Res.ids] using hb), fun r hr => ?_⟩
  rcases List.mem_cons.1 hr with rfl | hr
  · simp [Res.ok]
  · exact h.ok r hr
theorem Own.manyTake {σ : St} {A B : List (Nat × List Value × TypeId × Bool)} {b : Nat} {c : List Value} {e : TypeId} {x : Bool} (h : Own E σ (.many (A ++ (b, c, e, x) :: B) :: L)) : Own E σ (.blk b c e x :: .many (A ++ B) :: L) := by
  have hp : (idsL (.many (A ++ (b, c, e, x) :: B) :: L)).Perm (idsL (.blk b c e x :: .many (A ++ B) :: L)) := by
    simp only [idsL_cons, Res.ids, List.map_append, List.map_cons, List.append_assoc, List.cons_append, List.nil_append]
    exact List.perm_middle
  refine ⟨h.base, hp.nodup_iff.1 h.nodup, fun b hb => h.lt b (hp.mem_iff.2 hb), fun r hr => ?_⟩
  have h1 := h.ok (.many (A ++ (b, c, e, x) :: B)) (by simp)
  simp only [Res.ok] at h1
  rcases List.mem_cons.1 hr with rfl | hr
  · exact h1 (b, c, e, x) (by simp)
  · rcases List.mem_cons.1 hr with rfl | hr
    · exact fun y hy => h1 y (by rcases List.mem_append.1 hy with hy | hy <;> simp [hy])
    · exact h.ok r (by simp [hr])
theorem Own.manyPut {σ : St} {A B : List (Nat × List Value × TypeId × Bool)} {b : Nat} {c : List Value} {e : TypeId} {x : Bool} (h : Own E σ (.blk b c e x :: .many (A ++ B) :: L)) : Own E σ (.many (A ++ (b, c, e, x) :: B) :: L) := by
  have hp : (idsL (.many (A ++ (b, c, e, x) :: B) :: L)).Perm (idsL (.blk b c e x :: .many (A ++ B) :: L)) := by
    simp only [idsL_cons, Res.ids, List.map_append, List.map_cons, List.append_assoc, List.cons_append, List.nil_append]
    exact List.perm_middle
  refine ⟨h.base, hp.nodup_iff.2 h.nodup, fun b hb => h.lt b (hp.mem_iff.1 hb), fun r hr => ?_⟩
  rcases List.mem_cons.1 hr with rfl | hr
  · have h1 := h.ok (.blk b c e x) (by simp)
    have h2 := h.ok (.many (A ++ B)) (by simp)
    simp only [Res.ok] at h1 h2 ⊢
    intro y hy
    rcases List.mem_append.1 hy with hy | hy
    · exact h2 y (by simp [hy])
    · rcases List.mem_cons.1 hy with rfl | hy
      · exact h1
      · exact h2 y (by simp [hy])
  · exact h.ok r (by simp [hr])
theorem o_many0 (h : O E (.many [] :: L) G) : O E L G := fun σ ho => h σ ho.many0
theorem o_manyTake {A B : List (Nat × List Value × TypeId × Bool)} {b : Nat} {c : List Value} {e : TypeId} {x : Bool} (hs : Sel L (.many (A ++ (b, c, e, x) :: B)) R) (h : O E (.blk b c e x :: .many (A ++ B) :: R) G) : O E L G := fun σ ho => h σ (ho.sel hs).manyTake
theorem o_manyPut {A B l : List (Nat × List Value × TypeId × Bool)} {R1 : List Res} {b : Nat} {c : List Value} {e : TypeId} {x : Bool} (h1 : Sel L (.blk b c e x) R) (h2 : Sel R (.many l) R1) (hl : l = A ++ B) (h : O E (.many (A ++ (b, c, e, x) :: B) :: R1) G) : O E L G := fun σ ho => by
  subst hl
  refine h σ (Own.manyPut ?_)
  exact ho.perm (h1.perm.trans (h2.perm.cons _))
end Go.Ab
