/- Calls answered by a table where there is one, by a function's own code else; side conditions that numbers settle; tests that part the way. -/
import Derived.Test.YtllffogcdeempaaFwT
set_option linter.all false
open Go.RowKit
namespace Go.Ab

def hasT (t : Tbl) (f : FuncId) : Bool := t.any fun x => x.1 == f

/-- Functions of the table by the table, others by their code. -/
def evFunT (E : Env) (t : Tbl) (k : Nat) : Nat → CallF
  | 0, f, args, σ => callT t f args σ
  | d + 1, f, args, σ => if hasT t f then callT t f args σ else
    match E.P.funcs[f]? with
    | some fn => match fn.body with
      | some c => evBody E (evFunT E t k d) k f fn c args σ
      | none => none
    | none => none

theorem evFunT_ok {E : Env} (hp : ProgOk E) {t : Tbl} (ht : ∀ x ∈ t, FnOK E x.1 x.2) (k : Nat) : ∀ d, CallOK E (evFunT E t k d) := by
  have hs := callT_ok t ht
  intro d
  induction d with
  | zero => exact ⟨fun w0 f args σ v σ' h => hs.ok w0 f args σ v σ' h, fun f args σ v σ' n x h1 h2 h => hs.mono f args σ v σ' n x h1 h2 h⟩
  | succ d ih =>
    constructor
    · intro w0 f args σ v σ' h
      simp only [evFunT] at h
      split at h
      · exact hs.ok w0 f args σ v σ' h
      · split at h
        · rename_i fn hfn
          split at h
          · rename_i c hb
            obtain ⟨hc, hn⟩ := hp.code f fn c hfn hb
            obtain ⟨h1, h2⟩ := evBody_sound (w0 := w0) ih hp.mixed hfn hb hc h
            exact .inl ⟨⟨fn, hfn, by simp [hb], hn⟩, h1, h2⟩
          · cases h
        · cases h
    · intro f args σ v σ' n x h1 h2 h
      simp only [evFunT] at h ⊢
      split at h
      · rename_i ht
        rw [if_pos ht]
        exact hs.mono f args σ v σ' n x h1 h2 h
      · rename_i ht
        rw [if_neg ht]
        split at h
        · rename_i fn hfn
          split at h
          · rename_i c hb
            exact evBody_mono ih.mono h h1 h2
          · cases h
        · cases h

/-- What a function answers on plain values, run for itself. -/
def evG (P : Program) (pairs : FuncId → Nat → List (Nat × Nat)) (t : Tbl) (k d : Nat) (f : FuncId) (args : List Value) : Option Value :=
  if args.all scalar then
    match evFunT (envNil P pairs) t k d f args ⟨.leaf, 0⟩ with
    | some (v, _) => if plainV v then some v else none
    | none => none
  else none

theorem TblOK.consG {P : Program} {pairs : FuncId → Nat → List (Nat × Nat)} (hm : P.follows .mixedOrders = true) (hp : progOkB P pairs = true) {t : Tbl} (ht : TblOK P t) (f : FuncId) (k d : Nat) : TblOK P ((f, lift (evG P pairs t k d f)) :: t) := by
  intro E hE x hx
  simp only [List.mem_cons] at hx
  rcases hx with rfl | hx
  case inr => exact ht E hE x hx
  refine ⟨?_, lift_mono _⟩
  intro w0 args σ v σ' hs
  simp only [lift] at hs
  split at hs
  case h_2 => cases hs
  rename_i u hu
  cases hs
  unfold evG at hu
  split at hu
  case isFalse => cases hu
  rename_i ha
  split at hu
  case h_2 => cases hu
  rename_i v2 σ2 hev
  split at hu
  case isFalse => cases hu
  rename_i hpl
  cases hu
  have hok := evFunT_ok (E := envNil P pairs) (progOk_of hm hp) (ht (envNil P pairs) rfl) k d
  by_cases hx : ∃ fn, P.funcs[f]? = some fn ∧ fn.body = none
  · refine .inr ⟨rfl, by rw [hE]; exact hx, fun μ w args' hr hl => ?_⟩
    have he := hl.of_scalars ha
    obtain ⟨fn, q1, q2⟩ := hx
    rcases hok.ok w f args _ v σ2 hev with ⟨⟨fn', p1, p2, _⟩, _, _⟩ | ⟨_, _, hsound⟩
    · have : fn = fn' := Option.some.inj (q1.symm.trans p1)
      subst this; rw [q2] at p2; cases p2
    obtain ⟨v', hcf, hv⟩ := hsound (fun _ => none) w args' (rel_nil P pairs w) ⟨by rw [he], fun i x y hx hy => by rw [he] at hy; rw [hx] at hy; cases hy; exact .of_scalar (List.all_eq_true.1 ha x (List.mem_of_getElem? hx))⟩
    have := hv.plain_eq hpl
    subst this
    exact ⟨_, by rw [hE]; exact hcf, .of_plain hpl⟩
  have hok' : ∀ w0, _ := fun w0 => (hok.ok w0 f args _ v σ2 hev).resolve_right (fun h => hx h.2.1)
  obtain ⟨hfn, _, _⟩ := hok' w0
  refine .inl ⟨by rw [hE]; exact hfn, Nat.le_refl _, fun μ w args' hr hl => ?_⟩
  have he := hl.of_scalars ha
  obtain ⟨_, _, hsound⟩ := hok' w
  have := hsound (fun _ => none) w args' (rel_nil P pairs w) ⟨by rw [he], fun i x y hx hy => by rw [he] at hy; rw [hx] at hy; cases hy; exact .of_scalar (List.all_eq_true.1 ha x (List.mem_of_getElem? hx))⟩
  rw [hE]
  refine this.mono ?_
  rintro e w' ⟨v', μ', rfl, hvr, hr', _⟩
  have := hvr.plain_eq hpl
  subst this
  exact ⟨_, μ, rfl, .of_plain hpl, hr.later hr'.below, fun _ _ => rfl⟩

theorem evG_of {P : Program} {pairs : FuncId → Nat → List (Nat × Nat)} {t : Tbl} {k d : Nat} {f : FuncId} {args : List Value} {v : Value} (ha : args.all scalar = true) (hv : plainV v = true)
    (h : WCall (evFunT (envNil P pairs) t k d) f args ⟨.leaf, 0⟩ fun u _ => u = v) : evG P pairs t k d f args = some v := by
  obtain ⟨u, σ', h1, rfl⟩ := h
  simp [evG, ha, h1, hv]

theorem wcallT {E : Env} {t : Tbl} {k d : Nat} {f : FuncId} {args : List Value} {σ : St} {Q : Value → St → Prop} (h : hasT t f = true) : WCall (evFunT E t k d) f args σ Q = WCall (callT t) f args σ Q := by
  unfold WCall
  cases d <;> simp only [evFunT, h, if_true]

theorem wfunT {E : Env} {t : Tbl} {k d : Nat} {f : FuncId} {fn : Func} {c : Code} {args : List Value} {σ : St} {Q : Value → St → Prop} (n : Nat) (rs : List ResultVar) (ht : hasT t f = false) (hfn : E.P.funcs[f]? = some fn) (hb : fn.body = some c) (hn : fn.ntmps = n) (hr : fn.results.toList = rs)
    (h : W E (evFunT E t k d) k f c none (args ++ List.replicate (n - args.length) undef) σ fun e fr σ => (e = .normal ∨ e = .ret) ∧ bindV (resR E fr σ rs) fun v => Q v σ) :
    WCall (evFunT E t k (d + 1)) f args σ Q := by
  subst hn hr
  obtain ⟨v, σ', h1, h2⟩ := wbody h
  exact ⟨v, σ', by simp only [evFunT, ht, hfn, hb]; exact h1, h2⟩

def hasCode (P : Program) (f : FuncId) : Bool := match P.funcs[f]? with | some fn => fn.body.isSome | none => false
theorem law_G {P : Program} {pairs : FuncId → Nat → List (Nat × Nat)} (hm : P.follows .mixedOrders = true) (hp : progOkB P pairs = true) {t : Tbl} (ht : TblOK P t) {w : World} {f : FuncId} {args : Array Value} {v : Value} {k d : Nat}
    (hcode : hasCode P f = true)
    (hargs : ∀ x ∈ args.toList, oldV w.heap.size x = true ∨ scalar x = true) (hv : flatS v = true)
    (h : WCall (evFunT (envAt P pairs w) t k d) f args.toList ⟨.leaf, w.heap.size⟩ fun u _ => u = v) :
    Calls P f args w fun e w' => e = .returned v ∧ Below w.heap.size w w' := by
  obtain ⟨u, σ', hev, rfl⟩ := h
  have hok := evFunT_ok (E := envAt P pairs w) (progOk_of hm hp) (ht (envAt P pairs w) rfl) k d |>.ok w f args.toList _ u σ' hev
  replace hok := hok.resolve_right (fun h => by
    obtain ⟨fn, h1, h2⟩ := h.2.1
    unfold hasCode at hcode
    have h3 : P.funcs[f]? = some fn := h1
    rw [h3] at hcode
    simp [h2] at hcode)
  have hl : LRel w.heap.size (fun _ => none) args.toList args.toList := ⟨rfl, fun i x y hx hy => by
    rw [hx] at hy; cases hy
    rcases hargs x (List.mem_of_getElem? hx) with h | h
    · exact .of_old h
    · exact .of_scalar h⟩
  refine (hok.2.2 (fun _ => none) w args (rel_at P pairs w) hl).mono ?_
  rintro e w' ⟨v', μ', rfl, hvr, hr, _⟩
  exact ⟨by rw [hvr.flat_eq hv], hr.below⟩

/-! Side conditions. -/
theorem w64 {n : Int} (h0 : -9223372036854775808 ≤ n) (h1 : n ≤ 9223372036854775807) : IntKind.i64.wrap n = n := by
  by_cases hh : n % 2 ^ 64 ≥ 2 ^ 63 <;> simp [IntKind.wrap, IntKind.bits, IntKind.signed, hh] <;> omega
theorem wu8 {n : Int} (h0 : 0 ≤ n) (h1 : n ≤ 255) : IntKind.u8.wrap n = n := by
  simp [IntKind.wrap, IntKind.bits, IntKind.signed]; omega
theorem wu16 {n : Int} (h0 : 0 ≤ n) (h1 : n ≤ 65535) : IntKind.u16.wrap n = n := by
  simp [IntKind.wrap, IntKind.bits, IntKind.signed]; omega
theorem wu64 {n : Int} (h0 : 0 ≤ n) (h1 : n ≤ 18446744073709551615) : IntKind.u64.wrap n = n := by
  simp [IntKind.wrap, IntKind.bits, IntKind.signed]; omega
theorem bwrap (b : UInt8) : IntKind.i64.wrap (b.toNat : Int) = b.toNat := by
  have := b.toNat_lt
  exact w64 (by omega) (by omega)
theorem dlt_t {a b : Int} (h : a < b) : decide (a < b) = true := by simpa using h
theorem dlt_f {a b : Int} (h : b ≤ a) : decide (a < b) = false := by simpa using h
theorem dle_t {a b : Int} (h : a ≤ b) : decide (a ≤ b) = true := by simpa using h
theorem dle_f {a b : Int} (h : b < a) : decide (a ≤ b) = false := by simpa using h
theorem deq_t {a b : Int} (h : a = b) : decide (a = b) = true := by simpa using h
theorem deq_f {a b : Int} (h : a < b ∨ b < a) : decide (a = b) = false := by simp; omega
theorem get_ne {h : T} {n m : Nat} {x : Option Blk} (hn : m < n ∨ n < m) : (h.set n x).get m = h.get m := T.get_set_ne _ _ _ _ (by omega)
theorem get_eq {h : T} {n m : Nat} {x : Option Blk} (hn : m = n) : (h.set n x).get m = x := by subst hn; exact T.get_set_self _ _ _
theorem nlt_f {a b : Nat} (h : b ≤ a) : (a < b) = False := by simp; omega
theorem nlt_t {a b : Nat} (h : a < b) : (a < b) = True := by simp; omega
theorem nle_t {a b : Nat} (h : a ≤ b) : (a ≤ b) = True := by simp; omega
theorem nle_f {a b : Nat} (h : b < a) : (a ≤ b) = False := by simp; omega
theorem ile_t {a b : Int} (h : a ≤ b) : (a ≤ b) = True := by simp; omega
theorem ilt_t {a b : Int} (h : a < b) : (a < b) = True := by simp; omega
theorem ile_f {a b : Int} (h : b < a) : (a ≤ b) = False := by simp; omega
theorem ilt_f {a b : Int} (h : b ≤ a) : (a < b) = False := by simp; omega

section
variable {E : Env} {call : CallF} {k : Nat} {fid : FuncId} {fr : List Value} {σ : St} {Q : Ex → List Value → St → Prop}
/-- A test that parts the way. -/
theorem w_cond_p {c : Operand} {x y : Code} {p : Prop} [Decidable p] (hc : Opd fr c = .bool (decide p)) (h1 : p → W E call k fid x none fr σ Q) (h2 : ¬ p → W E call k fid y none fr σ Q) : W E call k fid (.cond c x y) none fr σ Q :=
  w_cond hc (fun h => h1 (of_decide_eq_true h)) (fun h => h2 (of_decide_eq_false h))
theorem w_cond_np {c : Operand} {x y : Code} {p : Prop} [Decidable p] (hc : Opd fr c = .bool (!decide p)) (h1 : ¬ p → W E call k fid x none fr σ Q) (h2 : p → W E call k fid y none fr σ Q) : W E call k fid (.cond c x y) none fr σ Q :=
  w_cond hc (fun h => h1 (by simpa using h)) (fun h => h2 (by simpa using h))
theorem w_cond_pt {c : Operand} {x y : Code} {p : Prop} [Decidable p] (hc : Opd fr c = .bool (decide p)) (hp : p) (h1 : W E call k fid x none fr σ Q) : W E call k fid (.cond c x y) none fr σ Q :=
  w_cond_p hc (fun _ => h1) (fun h => absurd hp h)
theorem w_cond_pf {c : Operand} {x y : Code} {p : Prop} [Decidable p] (hc : Opd fr c = .bool (decide p)) (hp : ¬ p) (h1 : W E call k fid y none fr σ Q) : W E call k fid (.cond c x y) none fr σ Q :=
  w_cond_p hc (fun h => absurd h hp) (fun _ => h1)
end
theorem ite_w {c : Prop} [Decidable c] {A B : Prop} (h1 : c → A) (h2 : ¬ c → B) : if c then A else B := by
  split
  · rename_i h; exact h1 h
  · rename_i h; exact h2 h
end Go.Ab
