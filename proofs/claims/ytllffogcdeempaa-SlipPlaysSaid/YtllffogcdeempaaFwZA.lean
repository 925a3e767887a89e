/- Calls, rows: what code does to what it owns. -/
import Derived.Test.YtllffogcdeempaaFwZ
set_option linter.all false
open Go.RowKit
namespace Go.Ab

section
variable {E : Env} {call : CallF} {ops : List Oper} {base i : Nat} {o : Oper} {rest : List Oper} {fr fr' : List Value} {L L' R : List Res} {K : List Rec → List Value → St → Prop} {K0 : List Value → St → Prop} {P : Program}

/-- Behind a call. -/
def BackK (E : Env) (call : CallF) (ops : List Oper) (base j : Nat) (rest : List Oper) (d : Option Tmp) (fr : List Value) (r : Res) (K0 : List Value → St → Prop) (v : Value) (σ : St) : Prop :=
  r = RSV ops base j → WR E call ops base j rest (put fr d v) σ fun _ => K0
/-- Behind a call, the states ahead of it and behind it kept. -/
def BackP (E : Env) (call : CallF) (ops : List Oper) (base j : Nat) (rest : List Oper) (d : Option Tmp) (fr : List Value) (r : Res) (σ0 : St) (K : List Rec → List Value → St → Prop) (v : Value) (σ : St) : Prop :=
  r = RSV ops base j → WR E call ops base j rest (put fr d v) σ fun rs => K (.call σ0 σ :: rs)

theorem ro_callG {f : Operand} {as : List Operand} {g : FuncId} {vs : List Value} (hc : callOf o = some (f, as)) (hw : Region.wanted o (yieldA ops fr) = true) (hf : callee? (Opd fr f) (as.map (Opd fr)) = some (g, vs))
    (hx : ∀ r σ0, Own E σ0 L → O E (r :: L) fun σ => WCall call g vs σ (BackP E call ops base (i + 1) rest o.dst fr r σ0 K)) : ROC E call ops base i o rest fr L K := by
  intro σ ho hl
  have ho' : ops[i]? = some o := by simpa using (hl 0).symm
  have hlt : i < ops.length := (List.getElem?_eq_some_iff.1 ho').1
  refine wr_cons ?_ hl
  unfold WStep
  rw [if_pos hw]
  simp only [hc]
  refine ⟨(g, vs), hf, ?_⟩
  have e1 : ops.length - i = (ops.length - (i + 1)) + 1 := by omega
  have ho2 : Own E σ (RSV ops base (i + 1) :: L) := by
    unfold RSV at ho ⊢
    rw [e1] at ho
    rw [← Nat.add_assoc]
    exact ho.split.tail
  exact (hx _ σ ho.tail σ ho2).mono fun v σ' h => h rfl

theorem ro_callP {f : Operand} {as : List Operand} {g : FuncId} {vs : List Value} (hc : callOf o = some (f, as)) (hw : Region.wanted o (yieldA ops fr) = true) (hf : Opd fr f = .func (.func g) #[] #[]) (ha : as.map (Opd fr) = vs)
    (hx : ∀ r σ0, Own E σ0 L → O E (r :: L) fun σ => WCall call g vs σ (BackP E call ops base (i + 1) rest o.dst fr r σ0 K)) : ROC E call ops base i o rest fr L K :=
  ro_callG hc hw (by rw [hf, ha]; exact callee_of) hx

theorem ro_call {f : Operand} {as : List Operand} {g : FuncId} {vs : List Value} (hc : callOf o = some (f, as)) (hw : Region.wanted o (yieldA ops fr) = true) (hf : Opd fr f = .func (.func g) #[] #[]) (ha : as.map (Opd fr) = vs)
    (hx : ∀ r, O E (r :: L) fun σ => WCall call g vs σ (BackK E call ops base (i + 1) rest o.dst fr r K0)) : ROC E call ops base i o rest fr L fun _ => K0 :=
  ro_callP hc hw hf ha fun r σ0 _ σ ho => hx r σ ho

/-- A call of a function value. -/
theorem ro_callV {f : Operand} {as : List Operand} {g : FuncId} {vs us : List Value} {fv : Value} (hc : callOf o = some (f, as)) (hw : Region.wanted o (yieldA ops fr) = true) (hf : Opd fr f = fv) (ha : as.map (Opd fr) = vs) (hv : callee? fv vs = some (g, us))
    (hx : ∀ r, O E (r :: L) fun σ => WCall call g us σ (BackK E call ops base (i + 1) rest o.dst fr r K0)) : ROC E call ops base i o rest fr L fun _ => K0 :=
  ro_callG hc hw (by rw [hf, ha]; exact hv) fun r σ0 _ σ ho => hx r σ ho

theorem o_back {j : Nat} {d : Option Tmp} {r : Res} {v : Value} (hs : Sel L r R) (hf : put fr d v = fr') (hx : RO E call ops base j rest fr' R fun _ => K0) : O E L (BackK E call ops base j rest d fr r K0 v) := by
  intro σ ho hr
  subst hr hf
  exact hx σ (ho.sel hs)
theorem o_backP {j : Nat} {d : Option Tmp} {r : Res} {v : Value} {σ0 : St} (hs : Sel L r R) (hf : put fr d v = fr') (hx : ∀ σ1, Own E σ1 R → RO E call ops base j rest fr' R fun rs => K (.call σ0 σ1 :: rs)) : O E L (BackP E call ops base j rest d fr r σ0 K v) := by
  intro σ ho hr
  subst hr hf
  exact hx σ (ho.sel hs).tail σ (ho.sel hs)
end

section
variable {E : Env} {k : Nat} {fr fr' : List Value} {L R : List Res} {Q : Value → St → Prop}

/-- A function by its own code. -/
def OFun (g : FuncId) (E : Env) (t : Tbl) (k d : Nat) (args : List Value) (L : List Res) (Q : Value → St → Prop) : Prop := O E L fun σ => WCall (evFunT E t k d) g args σ Q
theorem o_fun (g : FuncId) {t : Tbl} {d : Nat} {args : List Value} (h : OFun g E t k d args L Q) : O E L fun σ => WCall (evFunT E t k d) g args σ Q := h
theorem of_code {t : Tbl} {d : Nat} {f : FuncId} {fn : Func} {c : Code} {args : List Value} {P : Program} (m : Nat) (rs : List ResultVar) (hP : E.P = P) (ht : hasT t f = false) (hfn : P.funcs[f]? = some fn) (hb : fn.body = some c) (hn : fn.ntmps = m) (hr : fn.results.toList = rs)
    (hf : args ++ List.replicate (m - args.length) undef = fr)
    (hx : O E L fun σ => W E (evFunT E t k d) k f c none fr σ fun e fr σ => (e = .normal ∨ e = .ret) ∧ bindV (resR E fr σ rs) fun v => Q v σ) : OFun f E t k (d + 1) args L Q := by
  subst hP hf
  exact fun σ ho => wfunT m rs ht hfn hb hn hr (hx σ ho)
/-- A function of the table. -/
theorem of_tbl {t : Tbl} {d : Nat} {f : FuncId} {s : List Value → Option Value} {args : List Value} {v : Value}
    (hcall : ∀ σ, WCall (evFunT E t k d) f args σ Q = bindV (s args) fun v => Q v σ) (hv : s args = some v) (hx : O E L (Q v)) : OFun f E t k d args L Q := by
  intro σ ho
  show WCall _ _ _ _ _
  rw [hcall]
  exact ⟨v, hv, hx σ ho⟩

def OFin (E : Env) (fr : List Value) (rs : List ResultVar) (L : List Res) (Q : Value → St → Prop) : Prop := O E L fun σ => bindV (resR E fr σ rs) fun v => Q v σ
theorem o_fin_r {rs : List ResultVar} (h : OFin E fr rs L Q) : O E L fun σ => (Ex.ret = .normal ∨ Ex.ret = .ret) ∧ bindV (resR E fr σ rs) fun v => Q v σ := fun σ ho => ⟨.inr rfl, h σ ho⟩
theorem o_fin_n {rs : List ResultVar} (h : OFin E fr rs L Q) : O E L fun σ => (Ex.normal = .normal ∨ Ex.normal = .ret) ∧ bindV (resR E fr σ rs) fun v => Q v σ := fun σ ho => ⟨.inl rfl, h σ ho⟩
/-- Results that are told by what is owned. -/
theorem fin_of {rs : List ResultVar} {v : Value} (hr : ∀ σ, Own E σ L → resR E fr σ rs = some v) (hx : O E L (Q v)) : OFin E fr rs L Q := fun σ ho => ⟨v, hr σ ho, hx σ ho⟩

theorem resE_o1 {P : Program} {σ : St} {a : Nat} {t : TypeId} {b off : Nat} {c : List Value} {el : TypeId} {ex : Bool} {v : Value} (ho : Own E σ L) (hP : E.P = P) (ha : isAggT P t = some false) (hx : fr.getD a undef = .pointer (some ⟨b, off, none⟩)) (hs : Sel L (.blk b c el ex) R) (hv : c[off]? = some v) :
    resE E fr σ (.cell a t) = some v := by
  obtain ⟨h, n⟩ := σ
  exact resE_c1 hP ha hx (ho.get hs).1 (ho.get hs).2 hv
theorem resE_oN {P : Program} {σ : St} {a : Nat} {t : TypeId} {b off m : Nat} {c l : List Value} {el : TypeId} {ex : Bool} (ho : Own E σ L) (hP : E.P = P) (ha : isAggT P t = some true) (hx : fr.getD a undef = .pointer (some ⟨b, off, none⟩)) (hs : Sel L (.blk b c el ex) R) (hm : sizeT P t = some m) (hle : off + m ≤ c.length) (hl : (c.drop off).take m = l) :
    resE E fr σ (.cell a t) = some (.agg l.toArray) := by
  obtain ⟨h, n⟩ := σ
  exact resE_cN hP ha hx (ho.get hs).1 (ho.get hs).2 hm hle hl

/-- A law, from what its code comes to. -/
theorem law_O {P : Program} {pairs : FuncId → Nat → List (Nat × Nat)} (hm : P.follows .mixedOrders = true) (hp : progOkB P pairs = true) {t : Tbl} (ht : TblOK P t) {w : World} {f : FuncId} {args : Array Value} {v : Value} {k d : Nat}
    (hargs : ∀ x ∈ args.toList, oldV w.heap.size x = true ∨ scalar x = true) (hv : flatS v = true)
    (h : O (envAt P pairs w) [] fun σ => WCall (evFunT (envAt P pairs w) t k d) f args.toList σ fun u _ => u = v) (hcode : hasCode P f = true := by kernel_rfl) :
    Calls P f args w fun e w' => e = .returned v ∧ Below w.heap.size w w' :=
  law_G hm hp ht hcode hargs hv (h ⟨.leaf, w.heap.size⟩ (.nil (Nat.le_refl _)))

/-- A slice that came in, as a row. -/
theorem o_old {s : Value} {n : Nat} {c : List Value} {e : TypeId} {sz : Nat} {G : St → Prop} (hc : c.length = n * sz) (h : (∃ a m, s = .slice a 0 m ∧ n = 0) ∨ ∃ b o m, s = .slice (some ⟨b, o, none⟩) n m ∧ b < E.old ∧ rdOld E b o (n * sz) = some c) (hx : O E (.row 2 s n c e sz :: L) G) : O E L G := by
  intro σ ho
  refine hx σ ⟨ho.base, ?_, ?_, ?_⟩
  · rw [idsL_cons]; simpa [Res.ids] using ho.nodup
  · rw [idsL_cons]; simpa [Res.ids] using ho.lt
  · intro r hr
    rcases List.mem_cons.1 hr with rfl | hr
    · exact ⟨hc, h⟩
    · exact ho.ok r hr

/-- nil as a row of one's own. -/
theorem o_nilrow {e : TypeId} {sz : Nat} {G : St → Prop} (hx : O E (.row 0 (.slice none 0 0) 0 [] e sz :: L) G) : O E L G := by
  intro σ ho
  refine hx σ ⟨ho.base, ?_, ?_, ?_⟩
  · rw [idsL_cons]; simpa [Res.ids, rowBlk] using ho.nodup
  · rw [idsL_cons]; simpa [Res.ids, rowBlk] using ho.lt
  · intro r hr
    rcases List.mem_cons.1 hr with rfl | hr
    · exact ⟨by simp, .inl ⟨rfl, rfl⟩⟩
    · exact ho.ok r hr
end

/-! Rows that are read. -/
section
variable {E : Env} {call : CallF} {ops : List Oper} {base i : Nat} {o : Oper} {rest : List Oper} {fr fr' : List Value} {L L' R : List Res} {K : List Rec → List Value → St → Prop} {P : Program}

theorem RowOk.shape {g : Nat → Option Blk} {kd : Nat} {s : Value} {n : Nat} {c : List Value} {e : TypeId} {sz : Nat} (h : RowOk E g kd s n c e sz) : ∃ a m, s = .slice a n m ∧ (0 < n → ∃ b o, a = some ⟨b, o, none⟩) := by
  obtain ⟨_, h⟩ := h
  match kd, h with
  | 0, h =>
    rcases h with ⟨rfl, rfl⟩ | ⟨b, p, m, j, x, rfl, _⟩
    · exact ⟨_, _, rfl, fun h => absurd h (by omega)⟩
    · exact ⟨_, _, rfl, fun _ => ⟨_, _, rfl⟩⟩
  | 1, h =>
    rcases h with ⟨a, m, rfl, rfl⟩ | ⟨_, b, p, m, j, x, rfl, _⟩
    · exact ⟨_, _, rfl, fun h => absurd h (by omega)⟩
    · exact ⟨_, _, rfl, fun _ => ⟨_, _, rfl⟩⟩
  | k + 2, h =>
    rcases h with ⟨a, m, rfl, rfl⟩ | ⟨b, o, m, rfl, _⟩
    · exact ⟨_, _, rfl, fun h => absurd h (by omega)⟩
    · exact ⟨_, _, rfl, fun _ => ⟨_, _, rfl⟩⟩

/-- Cells of a row are read. -/
theorem rdOld_part {E : Env} (b : Nat) : ∀ (o m : Nat) (c : List Value), rdOld E b o m = some c → ∀ q k, q + k ≤ m → rdOld E b (o + q) k = some ((c.drop q).take k) := by
  intro o m
  induction m generalizing o with
  | zero => intro c h q k hk; obtain ⟨rfl, rfl⟩ : q = 0 ∧ k = 0 := by omega
            simp [rdOld]
  | succ m ih =>
    intro c h q k hk
    simp only [rdOld] at h
    split at h
    case h_2 => cases h
    rename_i v hv
    split at h
    case isFalse => cases h
    rename_i hold
    split at h
    case h_2 => cases h
    rename_i l hl
    cases h
    cases q with
    | zero =>
      cases k with
      | zero => simp [rdOld]
      | succ k =>
        have := ih (o + 1) l hl 0 k (by omega)
        simp only [Nat.add_zero] at this
        simp only [Nat.add_zero, rdOld, hv, hold, if_true, this, List.drop_zero, List.take_succ_cons]
    | succ q =>
      have := ih (o + 1) l hl q k (by omega)
      rw [List.drop_succ_cons, ← this]
      congr 1
      omega

theorem RowOk.read {g : Nat → Option Blk} {kd : Nat} {s : Value} {n : Nat} {c : List Value} {e : TypeId} {sz b off q k : Nat} (h : RowOk E g kd s n c e sz) (hown : kd < 2 → rowBlk s = some b → 0 < n → ¬ b < E.old) (hb : rowAt s = some (b, off)) (hq : q + k ≤ c.length) (h0 : 0 < n) : rd E g ⟨b, off + q, none⟩ k = some ((c.drop q).take k) := by
  obtain ⟨hc, h⟩ := h
  have own : RowOwn g s n c e sz → ¬ b < E.old → rd E g ⟨b, off + q, none⟩ k = some ((c.drop q).take k) := by
    rintro ⟨b', p, m, j, x, rfl, hj, hg⟩ ho
    simp only [rowAt, Option.some.injEq, Prod.mk.injEq] at hb
    obtain ⟨rfl, rfl⟩ := hb
    simp only [rd, Option.isSome_none, Bool.false_eq_true, if_false, ho, hg]
    rw [if_pos (by simp; omega), List.drop_append, List.drop_eq_nil_of_le (by omega), List.nil_append, show p.length + q - p.length = q by omega, List.drop_append_of_le_length (by omega), List.take_append_of_le_length (by simp; omega)]
  match kd, h with
  | 0, h =>
    rcases h with ⟨rfl, rfl⟩ | h
    · omega
    · refine own h (hown (by omega) ?_ h0)
      obtain ⟨b', p, m, j, x, rfl, _⟩ := h
      simp only [rowAt, Option.some.injEq, Prod.mk.injEq] at hb
      simp [rowBlk, hb.1]
  | 1, h =>
    rcases h with ⟨a, m, rfl, rfl⟩ | ⟨_, h⟩
    · omega
    · refine own h (hown (by omega) ?_ h0)
      obtain ⟨b', p, m, j, x, rfl, _⟩ := h
      simp only [rowAt, Option.some.injEq, Prod.mk.injEq] at hb
      simp [rowBlk, hb.1]
  | kk + 2, h =>
    rcases h with ⟨a, m, rfl, rfl⟩ | ⟨b', o', m, rfl, hlt, hr⟩
    · omega
    · simp only [rowAt, Option.some.injEq, Prod.mk.injEq] at hb
      obtain ⟨rfl, rfl⟩ := hb
      simp only [rd, Option.isSome_none, Bool.false_eq_true, if_false, hlt, if_true]
      exact rdOld_part _ _ _ _ hr _ _ (by omega)

theorem Own.row {σ : St} {kd : Nat} {s : Value} {n : Nat} {c : List Value} {e : TypeId} {sz : Nat} (h : Own E σ L) (hs : Sel L (.row kd s n c e sz) R) : RowOk E σ.heap.get kd s n c e sz := (h.sel hs).ok (.row kd s n c e sz) (by simp)
theorem Own.row_old {σ : St} {kd : Nat} {s : Value} {n : Nat} {c : List Value} {e : TypeId} {sz b : Nat} (h : Own E σ L) (hs : Sel L (.row kd s n c e sz) R) : kd < 2 → rowBlk s = some b → 0 < n → ¬ b < E.old := by
  intro hk hb h0
  have h1 := ((h.sel hs).lt b (by rw [idsL_cons]; refine List.mem_append.2 (.inl ?_); obtain rfl | rfl : kd = 0 ∨ kd = 1 := by omega
                                  · simp [Res.ids, hb]
                                  · simp [Res.ids, hb]; omega)).1
  omega
theorem Own.rowRd {σ : St} {kd : Nat} {s : Value} {n : Nat} {c : List Value} {e : TypeId} {sz b off q k : Nat} (h : Own E σ L) (hs : Sel L (.row kd s n c e sz) R) (hb : rowAt s = some (b, off)) (hq : q + k ≤ c.length) (h0 : 0 < n) : rd E σ.heap.get ⟨b, off + q, none⟩ k = some ((c.drop q).take k) :=
  (h.row hs).read (h.row_old hs) hb hq h0

theorem ro_lenR {x : Operand} {ts : Array TypeId} {kd : Nat} {s : Value} {n : Nat} {c : List Value} {e : TypeId} {sz : Nat} {t e' : TypeId} (hw : Region.wanted o (yieldA ops fr) = true) (hop : o.op = .call { callee := .builtin .len, args := #[x], argTypes := ts }) (hP : E.P = P) (hx : Opd fr x = s) (hs : Sel L (.row kd s n c e sz) R)
    (hts : ts = #[t]) (ht : P.underlying t = some (.slice e')) (hk : RO E call ops base (i + 1) rest (put fr o.dst (.int .i64 n)) L fun rs => K (.mem (fun g => evOp E (Opd fr) (base + i) g o) ⟨.int .i64 n, [], []⟩ :: rs)) : ROC E call ops base i o rest fr L K :=
  ro_mem (by unfold callOf; rw [hop]) hw fun σ r ho => by
    obtain ⟨a, m, hsh, _⟩ := (ho.tail.tail.row hs).shape
    refine ⟨_, L, ev_len hop hP hx ?_, ho.tail, hk⟩
    subst hts hsh
    exact slice_len ht _ _ _

theorem ro_iaR {t : TypeId} {x ix : Operand} {kd : Nat} {s : Value} {n : Nat} {c : List Value} {e e' : TypeId} {sz : Nat} {ki : IntKind} {iv : Int} (hw : Region.wanted o (yieldA ops fr) = true) (hop : o.op = .indexAddr t x ix) (hP : E.P = P) (hx : Opd fr x = s) (hi : Opd fr ix = .int ki iv) (hs : Sel L (.row kd s n c e sz) R)
    (h0 : 0 ≤ iv) (h1 : iv < n) (ht : P.underlying t = some (.slice e')) (hz : sizeT P e' = some sz)
    (hk : ∀ b off, rowAt s = some (b, off) → RO E call ops base (i + 1) rest (put fr o.dst (.pointer (some ⟨b, off + iv.toNat * sz, none⟩))) L fun rs => K (.mem (fun g => evOp E (Opd fr) (base + i) g o) ⟨.pointer (some ⟨b, off + iv.toNat * sz, none⟩), [], []⟩ :: rs)) : ROC E call ops base i o rest fr L K :=
  ro_mem (by unfold callOf; rw [hop]) hw fun σ r ho => by
    obtain ⟨a, m, rfl, ha⟩ := (ho.tail.tail.row hs).shape
    obtain ⟨b, off, rfl⟩ := ha (by omega)
    exact ⟨_, L, ev_ia hop hP hx hi (slice_ia ht hz _ _ _ _ _ _ h0 h1), ho.tail, hk b off rfl⟩

theorem ro_ldR1 {t : TypeId} {x : Operand} {b off p q : Nat} {kd : Nat} {s : Value} {n : Nat} {c : List Value} {e : TypeId} {sz : Nat} {v : Value} (hw : Region.wanted o (yieldA ops fr) = true) (hop : o.op = .load t x) (hP : E.P = P) (ha : isAggT P t = some false) (hx : Opd fr x = .pointer (some ⟨b, p, none⟩)) (hb : rowAt s = some (b, off)) (hp : p = off + q) (hs : Sel L (.row kd s n c e sz) R) (hv : c[q]? = some v)
    (hk : RO E call ops base (i + 1) rest (put fr o.dst v) L fun rs => K (.mem (fun g => evOp E (Opd fr) (base + i) g o) ⟨v, [], [b]⟩ :: rs)) : ROC E call ops base i o rest fr L K :=
  ro_mem (by unfold callOf; rw [hop]) hw fun σ r ho => by
    subst hp hP
    have hlt : q < c.length := (List.getElem?_eq_some_iff.1 hv).1
    have h0 : 0 < n := by
      have := (ho.tail.tail.row hs).1
      rcases Nat.eq_zero_or_pos n with rfl | h
      · omega
      · exact h
    have hrd := ho.tail.tail.rowRd hs hb (q := q) (k := 1) (by omega) h0
    refine ⟨⟨v, [], [b]⟩, L, ?_, ho.tail, hk⟩
    have hv2 : c[q] = v := (List.getElem?_eq_some_iff.1 hv).2
    rw [List.drop_eq_getElem_cons hlt, hv2] at hrd
    unfold evOp
    simp only [hop, hx, evLoad, ha, hrd, List.take_succ_cons, List.take_zero]

theorem ro_ldRN {t : TypeId} {x : Operand} {b off p q m : Nat} {kd : Nat} {s : Value} {n : Nat} {c l : List Value} {e : TypeId} {sz : Nat} (hw : Region.wanted o (yieldA ops fr) = true) (hop : o.op = .load t x) (hP : E.P = P) (ha : isAggT P t = some true) (hx : Opd fr x = .pointer (some ⟨b, p, none⟩)) (hb : rowAt s = some (b, off)) (hp : p = off + q) (hs : Sel L (.row kd s n c e sz) R) (hm : sizeT P t = some m) (h0 : 0 < n) (hle : q + m ≤ c.length) (hl : (c.drop q).take m = l)
    (hk : RO E call ops base (i + 1) rest (put fr o.dst (.agg l.toArray)) L fun rs => K (.mem (fun g => evOp E (Opd fr) (base + i) g o) ⟨.agg l.toArray, [], [b]⟩ :: rs)) : ROC E call ops base i o rest fr L K :=
  ro_mem (by unfold callOf; rw [hop]) hw fun σ r ho => by
    subst hp hP hl
    have hrd := ho.tail.tail.rowRd hs hb (q := q) (k := m) hle h0
    refine ⟨⟨.agg _, [], [b]⟩, L, ?_, ho.tail, hk⟩
    unfold evOp
    simp only [hop, hx, evLoad, ha, hm, hrd]
end

/-! Rows that are written. -/
section
variable {E : Env} {call : CallF} {ops : List Oper} {base i : Nat} {o : Oper} {rest : List Oper} {fr fr' : List Value} {L L' R : List Res} {K : List Rec → List Value → St → Prop} {P : Program}

theorem wrList_app {c j vs : List Value} {q : Nat} (h : q + vs.length ≤ c.length) : wrList (c ++ j) q vs = wrList c q vs ++ j := by
  unfold wrList
  rw [List.take_append_of_le_length (by omega), List.drop_append_of_le_length (by omega)]
  simp
theorem wrList_pre {p c vs : List Value} {q : Nat} : wrList (p ++ c) (p.length + q) vs = p ++ wrList c q vs := by
  unfold wrList
  rw [List.take_append, List.take_of_length_le (by omega), List.drop_append, List.drop_eq_nil_of_le (by omega), show p.length + q - p.length = q by omega, show p.length + q + vs.length - p.length = q + vs.length by omega]
  simp
theorem wrList_len {c vs : List Value} {q : Nat} (h : q + vs.length ≤ c.length) : (wrList c q vs).length = c.length := by
  unfold wrList; simp; omega

theorem ro_stR {t : TypeId} {x y : Operand} {b off p q m : Nat} {s : Value} {n : Nat} {c c' l : List Value} {e : TypeId} {sz : Nat} {v : Value} (hw : Region.wanted o (yieldA ops fr) = true) (hop : o.op = .store t x y) (hP : E.P = P) (hx : Opd fr x = .pointer (some ⟨b, p, none⟩)) (hy : Opd fr y = v) (hb : rowAt s = some (b, off)) (hp : p = off + q) (hs : Sel L (.row 0 s n c e sz) R)
    (hm : sizeT P t = some m) (hl : v.cells.toList = l) (hlen : l.length = m) (hone : l.all oneCell = true) (hle : q + m ≤ c.length) (hwr : wrList c q l = c')
    (hk : ∀ e', RO E call ops base (i + 1) rest (put fr o.dst (.tuple #[])) (.row 0 s n c' e sz :: R) fun rs => K (.mem (fun g => evOp E (Opd fr) (base + i) g o) e' :: rs)) : ROC E call ops base i o rest fr L K :=
  ro_mem (by unfold callOf; rw [hop]) hw fun σ r ho => by
    subst hp hwr hlen
    have hr := ho.tail.tail.row hs
    have hro := ho.tail.tail.row_old hs (b := b) (by omega)
    obtain ⟨hc, hr⟩ := hr
    rcases hr with ⟨rfl, rfl⟩ | ⟨b', p, m', j, ex, rfl, hj, hg⟩
    · cases hb
    simp only [rowAt, Option.some.injEq, Prod.mk.injEq] at hb
    obtain ⟨rfl, rfl⟩ := hb
    have h1 : Own E σ (.row 0 (.slice (some ⟨b', p.length, none⟩) n (n + m')) n c e sz :: r :: R) := (ho.tail.perm (hs.perm.cons r)).perm (List.Perm.swap _ _ _)
    have hnb : ¬ b' < E.old := by
      have := (h1.lt b' (by simp [idsL, Res.ids, rowBlk])).1
      omega
    refine ⟨_, _, ev_store hop hP hx hy hnb hg hm hl rfl hone (by simp; omega) rfl, ?_, hk _⟩
    have h2 := Own.upd (A := [_]) (A' := [.row 0 (.slice (some ⟨b', p.length, none⟩) n (n + m')) n (wrList c q l) e sz]) (h' := σ.heap.set b' (some (.cells (wrList (p ++ (c ++ j)) (p.length + q) l) e ex))) h1 (by simp [idsL, Res.ids, rowBlk]) (by simp [idsL, Res.ids, rowBlk])
      (by
        simp only [List.mem_cons, List.not_mem_nil, or_false, forall_eq, Res.ok]
        exact ⟨by rw [wrList_len hle]; exact hc, .inr ⟨b', p, m', j, ex, rfl, hj, by rw [T.get_set_self, wrList_pre, wrList_app hle]⟩⟩)
      (fun x hx => by simp [idsL, Res.ids, rowBlk] at hx; exact T.get_set_ne _ _ _ _ hx)
    exact h2.perm (List.Perm.swap _ _ _)

/-- What a slice says of itself, when it is appended. -/
structure Src (E : Env) (R : List Res) (sz m : Nat) (y : Value) (new : List Value) : Prop where
  rd : ∀ σ, Own E σ R → lenV y = some m ∧ strOk y sz = true ∧ rdRow E σ.heap.get sz m y = some new
  one : new.all oneCell = true
  ln : new.length = m * sz

theorem src_blk {b off m cap sz : Nat} {c new : List Value} {el : TypeId} {ex : Bool} {S : List Res} (hs : Sel R (.blk b c el ex) S) (hle : off + m * sz ≤ c.length) (hn : (c.drop off).take (m * sz) = new) (ho : new.all oneCell = true) : Src E R sz m (.slice (some ⟨b, off, none⟩) m cap) new := by
  refine ⟨fun σ own => ⟨rfl, rfl, ?_⟩, ho, by subst hn; simp; omega⟩
  obtain ⟨h1, h2⟩ := own.get hs
  by_cases hm : m = 0
  · subst hm; subst hn; simp [rdRow]
  simp only [rdRow, hm, Nat.le_refl, if_true, rd, Option.isSome_none, Bool.false_eq_true, if_false, h1, h2]
  rw [if_pos hle, hn]

theorem src_row {kd m sz : Nat} {s : Value} {c : List Value} {el : TypeId} {S : List Res} (hs : Sel R (.row kd s m c el sz) S) (ho : c.all oneCell = true) (hc : c.length = m * sz) : Src E R sz m s c := by
  refine ⟨fun σ own => ?_, ho, hc⟩
  obtain ⟨a, k, rfl, ha⟩ := (own.row hs).shape
  by_cases hm : m = 0
  · subst hm
    have : c = [] := List.length_eq_zero_iff.1 (by omega)
    subst this
    cases a <;> exact ⟨rfl, rfl, by simp [rdRow]⟩
  obtain ⟨b, o, rfl⟩ := ha (by omega)
  refine ⟨rfl, rfl, ?_⟩
  have := own.rowRd hs (b := b) (off := o) (q := 0) (k := m * sz) rfl (by omega) (by omega)
  simp only [rdRow, hm, if_false, Nat.le_refl, if_true]
  rw [Nat.add_zero] at this
  rw [this, List.drop_zero, ← hc, List.take_length]

theorem src_str {s : ByteArray} {m : Nat} {new : List Value} (hm : s.size = m) (hn : (s.data.map fun b => Value.int .u8 b.toNat).toList = new) : Src E R 1 m (.string s) new := by
  subst hm
  refine ⟨fun σ own => ⟨rfl, rfl, ?_⟩, ?_, ?_⟩
  · simp only [rdRow, Nat.le_refl, if_true]
    simp [← hn]
  · subst hn
    rw [List.all_eq_true]
    intro a h
    simp only [Array.toList_map, List.mem_map] at h
    obtain ⟨_, _, rfl⟩ := h
    rfl
  · subst hn
    simp only [Array.toList_map, List.length_map, Nat.mul_one]
    rfl

/-- append to a row of one's own. -/
theorem row_append {σ : St} {r : Res} {s y : Value} {n m : Nat} {c new : List Value} {el : TypeId} {sz bytes b : Nat} {z : Array Value} {t0 t1 : TypeId} {d : TypeDesc} (ho : Own E σ (.rsv b 1 :: r :: .row 0 s n c el sz :: R)) (hP : E.P = P)
    (hel : elemT P t0 = some el) (hu : P.underlying t1 = some d) (hd : isSlStr d = true) (hsz : sizeT P el = some sz) (hby : bytesT P el = some bytes) (hz : zeroCells? P el = some z) (hzs : z.size = sz) (h0 : sz ≠ 0)
    (hy : Src E R sz m y new) (hfit : (n + m) * bytes ≤ 140737488355328) (h63 : n + m ≤ 9223372036854775807) :
    ∃ e s', evAppend E σ.heap.get b #[t0, t1] s y = some e ∧ (∃ a cap, e.val = s' ∧ s' = .slice a (n + m) cap) ∧ Own E ⟨upds σ.heap e.upd, σ.next⟩ (r :: .row 0 s' (n + m) (c ++ new) el sz :: R) := by
  subst hP
  obtain ⟨i, hi⟩ : ∃ i, E.P.info? el = some i := by
    unfold sizeT at hsz
    cases hi : E.P.info? el with
    | none => simp [hi] at hsz
    | some i => exact ⟨i, rfl⟩
  have hisz : i.size = sz := by simpa [sizeT, hi] using hsz
  have hib : i.bytes = bytes := by simpa [bytesT, hi] using hby
  subst hisz; subst hib
  obtain ⟨hylen, hystr, hnew⟩ := hy.rd σ ho.tail.tail.tail
  have hc0 : ¬ (i.size = 0 ∨ z.size ≠ i.size ∨ strOk y i.size = false) := by simp [h0, hzs, hystr]
  have hrow := (ho.tail.tail.ok (.row 0 s n c el i.size) (by simp))
  obtain ⟨hc, hrow⟩ := hrow
  have hnodup := ho.nodup
  have hP : (.rsv b 1 :: r :: .row 0 s n c el i.size :: R : List Res).Perm (.rsv b 1 :: .row 0 s n c el i.size :: r :: R) := (List.Perm.swap _ _ _).cons _
  have ho2 := ho.perm hP
  unfold evAppend
  simp only [List.getElem?_toArray, List.getElem?_cons_zero, List.getElem?_cons_succ, Option.bind_some, hel, hu, hd, hi, hz, hylen, hc0, Bool.not_true, Bool.false_eq_true, if_false]
  rcases hrow with ⟨rfl, rfl⟩ | ⟨b', p, k, j, x, rfl, hj, hg⟩
  · have hcn : c = [] := List.length_eq_zero_iff.1 (by omega)
    subst hcn
    simp only [hnew]
    by_cases hm : m = 0
    · subst hm
      refine ⟨_, _, by simp only [Nat.add_zero, Nat.le_refl, if_true]; rfl, ⟨_, _, rfl, rfl⟩, ?_⟩
      have hnn : new = [] := List.length_eq_zero_iff.1 (by have := hy.ln; omega)
      subst hnn
      simp only [upds]
      exact ho.tail
    · rw [if_neg (by omega), if_pos ⟨hfit, h63⟩]
      refine ⟨_, _, by simp only [Nat.zero_add, and_self, if_true]; rfl, ⟨_, _, rfl, by rw [Nat.zero_add]⟩, ?_⟩
      simp only [upds, List.nil_append, Nat.zero_add]
      have := Own.upd (A := [.rsv b 1, .row 0 (.slice none 0 0) 0 [] el i.size]) (A' := [.row 0 (.slice (some ⟨b, 0, none⟩) m m) m new el i.size]) (h' := σ.heap.set b (some (.cells new el false))) ho2 (by simp [idsL, Res.ids, rowBlk]) (by simp [idsL, Res.ids, rowBlk])
        (by
          simp only [List.mem_cons, List.not_mem_nil, or_false, forall_eq, Res.ok]
          exact ⟨hy.ln, .inr ⟨b, [], 0, [], false, rfl, by simp, by rw [T.get_set_self]; simp⟩⟩)
        (fun x hx => by simp [idsL, Res.ids, rowBlk] at hx; exact T.get_set_ne _ _ _ _ hx)
      exact this.perm (List.Perm.swap _ _ _)
  · simp only [hnew]
    have hnb : ¬ b' < E.old := by
      have := (ho.lt b' (by simp [idsL, Res.ids, rowBlk])).1
      omega
    by_cases hm : m = 0
    · subst hm
      have hnn : new = [] := List.length_eq_zero_iff.1 (by have := hy.ln; omega)
      subst hnn
      rw [if_pos (by omega)]
      refine ⟨_, _, rfl, ⟨_, _, rfl, rfl⟩, ?_⟩
      simp only [upds, List.append_nil, Nat.add_zero]
      refine Ent.own (.cons .head (.cons .head .refl)) ho.tail
    by_cases hfit2 : n + m ≤ n + k
    · rw [if_pos hfit2, if_neg hm]
      have hml : m * i.size ≤ k * i.size := Nat.mul_le_mul_right _ (by omega)
      have hln := hy.ln
      have hwr : wr E σ.heap.get ⟨b', p.length + n * i.size, none⟩ new = some (b', some (.cells (wrList (p ++ (c ++ j)) (p.length + n * i.size) new) el x)) := by
        have hh : ¬ (((⟨b', p.length + n * i.size, none⟩ : Addr).spot.isSome || decide (b' < E.old)) || !new.all oneCell) = true := by simp [hnb]; simpa using hy.one
        unfold wr
        rw [if_neg hh]
        simp only [hg]
        rw [if_pos (by simp; omega)]
      refine ⟨⟨.slice (some ⟨b', p.length, none⟩) (n + m) (n + k), [(b', some (.cells (wrList (p ++ (c ++ j)) (p.length + n * i.size) new) el x))], _⟩, _, by simp only [Option.isSome_none, Bool.false_eq_true, if_false, hwr]; rfl, ⟨_, _, rfl, rfl⟩, ?_⟩
      simp only [upds]
      have := Own.upd (A := [.row 0 (.slice (some ⟨b', p.length, none⟩) n (n + k)) n c el i.size]) (A' := [.row 0 (.slice (some ⟨b', p.length, none⟩) (n + m) (n + k)) (n + m) (c ++ new) el i.size]) (h' := σ.heap.set b' (some (.cells (wrList (p ++ (c ++ j)) (p.length + n * i.size) new) el x))) ho2.tail (by simp [idsL, Res.ids, rowBlk]) (by simp [idsL, Res.ids, rowBlk])
        (by
          simp only [List.mem_cons, List.not_mem_nil, or_false, forall_eq, Res.ok]
          refine ⟨by simp [hc, hln, Nat.add_mul], .inr ⟨b', p, k - m, j.drop new.length, x, by congr 1; omega, ?_, ?_⟩⟩
          · simp [hj, hln, Nat.sub_mul]
          · rw [T.get_set_self, wrList_pre]
            unfold wrList
            rw [← hc, List.take_left', List.drop_append, List.drop_eq_nil_of_le (by omega)]
            · simp
            · rfl)
        (fun x hx => by simp [idsL, Res.ids, rowBlk] at hx; exact T.get_set_ne _ _ _ _ hx)
      exact this.perm (List.Perm.swap _ _ _)
    · rw [if_neg hfit2, if_pos ⟨hfit, h63⟩]
      have hrd : rdRow E σ.heap.get i.size n (.slice (some ⟨b', p.length, none⟩) n (n + k)) = some c := by
        by_cases hn0 : n = 0
        · subst hn0
          have : c = [] := List.length_eq_zero_iff.1 (by omega)
          simp [rdRow, this]
        simp only [rdRow, hn0, Nat.le_refl, if_true, rd, Option.isSome_none, Bool.false_eq_true, if_false, hnb, hg]
        rw [if_pos (by simp; omega), List.drop_append, List.drop_eq_nil_of_le (by omega), List.nil_append, Nat.sub_self, List.drop_zero, ← hc]
        simp
      have fin : ∀ X : T, (X.get b = some (.cells (c ++ new) el false)) → (∀ q, q ≠ b → q ≠ b' → X.get q = σ.heap.get q) → Own E ⟨X, σ.next⟩ (r :: .row 0 (.slice (some ⟨b, 0, none⟩) (n + m) (n + m)) (n + m) (c ++ new) el i.size :: R) := by
        intro X h1 h2
        have := Own.upd (A := [.rsv b 1, .row 0 (.slice (some ⟨b', p.length, none⟩) n (n + k)) n c el i.size]) (A' := [.row 0 (.slice (some ⟨b, 0, none⟩) (n + m) (n + m)) (n + m) (c ++ new) el i.size]) (h' := X) ho2 (by simp [idsL, Res.ids, rowBlk]) (by simp [idsL, Res.ids, rowBlk])
          (by
            simp only [List.mem_cons, List.not_mem_nil, or_false, forall_eq, Res.ok]
            exact ⟨by simp [hc, hy.ln, Nat.add_mul], .inr ⟨b, [], 0, [], false, rfl, by simp, by rw [h1]; simp⟩⟩)
          (fun x hx => by simp [idsL, Res.ids, rowBlk] at hx; exact h2 x hx.1 hx.2)
        exact this.perm (List.Perm.swap _ _ _)
      have hbb : b ≠ b' := by
        rintro rfl
        rw [idsL_cons, idsL_cons, idsL_cons] at hnodup
        simp [Res.ids, rowBlk] at hnodup
      have hop : opens E σ.heap.get ⟨b', p.length, none⟩ (n + k) el i.size = some (if x then false else true) := by
        unfold opens
        simp only [hnb, if_false, hg]
        cases x
        · simp [hc, hj, Nat.add_mul]
        · rfl
      simp only [hrd, hop, hy.one, Bool.true_eq_false, if_false]
      cases x
      · refine ⟨_, _, rfl, ⟨_, _, rfl, rfl⟩, ?_⟩
        simp only [upds]
        refine fin _ (T.get_set_self _ _ _) fun q h1 h2 => ?_
        rw [T.get_set_ne _ _ _ _ h1, T.get_set_ne _ _ _ _ h2]
      · refine ⟨_, _, rfl, ⟨_, _, rfl, rfl⟩, ?_⟩
        simp only [upds]
        exact fin _ (T.get_set_self _ _ _) fun q h1 h2 => T.get_set_ne _ _ _ _ h1

theorem ro_app {x y : Operand} {ts : Array TypeId} {s ys : Value} {n m : Nat} {c new : List Value} {el : TypeId} {sz bytes : Nat} {z : Array Value} {t0 t1 : TypeId} {d : TypeDesc} (hw : Region.wanted o (yieldA ops fr) = true) (hop : o.op = .call { callee := .builtin .append, args := #[x, y], argTypes := ts }) (hts : ts = #[t0, t1]) (hP : E.P = P)
    (hx : Opd fr x = s) (hy : Opd fr y = ys) (hs : Sel L (.row 0 s n c el sz) R) (hel : elemT P t0 = some el) (hu : P.underlying t1 = some d) (hd : isSlStr d = true) (hsz : sizeT P el = some sz) (hby : bytesT P el = some bytes) (hz : zeroCells? P el = some z) (hzs : z.size = sz) (h0 : sz ≠ 0)
    (hsrc : Src E R sz m ys new) (hfit : (n + m) * bytes ≤ 140737488355328) (h63 : n + m ≤ 9223372036854775807)
    (hk : ∀ a cap e', RO E call ops base (i + 1) rest (put fr o.dst (.slice a (n + m) cap)) (.row 0 (.slice a (n + m) cap) (n + m) (c ++ new) el sz :: R) fun rs => K (.mem (fun g => evOp E (Opd fr) (base + i) g o) e' :: rs)) : ROC E call ops base i o rest fr L K :=
  ro_mem (by unfold callOf; rw [hop]) hw fun σ r ho => by
    have h1 : Own E σ (.rsv (base + i) 1 :: r :: .row 0 s n c el sz :: R) := ho.perm ((hs.perm.cons r).cons _)
    obtain ⟨e, s', he, ⟨a, cap, hv, rfl⟩, hown⟩ := row_append h1 hP hel hu hd hsz hby hz hzs h0 hsrc hfit h63
    subst hts
    refine ⟨e, _, ?_, hown, by rw [hv]; exact hk a cap e⟩
    unfold evOp
    simp only [hop, List.map_cons, List.map_nil, hx, hy, evBuiltin]
    exact he
end
end Go.Ab
