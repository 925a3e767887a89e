/- The abstract evaluator's code and functions, in the model. -/
import Derived.Test.YtllffogcdeempaaFwL
set_option linter.all false
open Go.RowKit
namespace Go.Ab

def codeOk (P : Program) (pairs : Nat → List (Nat × Nat)) : Code → Bool
  | .region id ops draw => regionOk P (pairs id) ops draw
  | .seq a b => codeOk P pairs a && codeOk P pairs b
  | .cond c a b => okOpd c && (codeOk P pairs a && codeOk P pairs b)
  | .block _ c | .loop c | .scope c => codeOk P pairs c
  | _ => true

def ExRel : Ex → Exit → Prop
  | .normal, .normal => True
  | .exit i, .exit j => i = j
  | .goto i, .goto j => i = j
  | .ret, .ret => True
  | _, _ => False

theorem ExRel.refl_normal {e : Exit} (h : ExRel .normal e) : e = .normal := by cases e <;> first | rfl | exact h.elim
theorem ExRel.exit_eq {i : Nat} {e : Exit} (h : ExRel (.exit i) e) : e = .exit i := by cases e <;> first | exact h.elim | (simp only [ExRel] at h; rw [h])
theorem ExRel.goto_eq {i : Nat} {e : Exit} (h : ExRel (.goto i) e) : e = .goto i := by cases e <;> first | exact h.elim | (simp only [ExRel] at h; rw [h])
theorem ExRel.ret_eq {e : Exit} (h : ExRel .ret e) : e = .ret := by cases e <;> first | rfl | exact h.elim

def PostC (E : Env) (w0 : World) (μ : Mu) (n : Nat) (e : Ex) (frf : List Value) (σf : St) : Exit → Act → World → Prop :=
  fun ex a w => ExRel e ex ∧ ∃ μ', (∀ x, x < n → μ' x = μ x) ∧ FRel E.old μ' frf a ∧ Rel E w0 μ' σf w

theorem PostC.weaken {E : Env} {w0 : World} {μ μ1 : Mu} {n n1 : Nat} {e : Ex} {frf : List Value} {σf : St} (hn : n ≤ n1) (hext : ∀ x, x < n → μ1 x = μ x) {ex : Exit} {a : Act} {w : World} (h : PostC E w0 μ1 n1 e frf σf ex a w) : PostC E w0 μ n e frf σf ex a w := by
  obtain ⟨h1, μ', h2, h3, h4⟩ := h
  exact ⟨h1, μ', fun x hx => by rw [h2 x (by omega), hext x hx], h3, h4⟩

theorem hasLabel_iff : ∀ (c : Code) (l : Nat), hasLabel c l = (findLabel c l).isSome
  | .seq a b, l => by
    simp only [hasLabel, findLabel]
    rw [hasLabel_iff a l, hasLabel_iff b l]
    cases findLabel a l <;> simp
  | .label l', l => by
    simp only [hasLabel, findLabel]
    split <;> simp_all
  | .skip, l | .region .., l | .cond .., l | .block .., l | .loop _, l | .rangeFunc .., l | .exit _, l | .scope _, l | .goto _, l | .ret, l | .refuse _, l => by simp [hasLabel, findLabel]

/-- A scope through which the run goes in so many passes. -/
def hops (P : Program) (body : Code) (Q : Exit → Act → World → Prop) : Nat → Code → Act → World → Prop
  | 0, _, _, _ => False
  | n + 1, c, a, w => c.wp P (fun e a w => match e with
      | .goto l => (match findLabel body l with
        | some rest => hops P body Q n rest a w
        | none => Q (.goto l) a w)
      | e => Q e a w) a w

theorem wp_scope_hops {P : Program} {body : Code} {Q : Exit → Act → World → Prop} {a : Act} {w : World} (n : Nat) (h : hops P body Q n body a w) : (Code.scope body).wp P Q a w := by
  intro b k cs
  have key : ∀ n c a w, hops P body Q n c a w → ∃ e a' w', Q e a' w' ∧ Arrives P (lone (b.at a (.code c :: .inScope body :: k)) cs w) b k cs e a' w' := by
    intro n
    induction n with
    | zero => intro c a w h; exact h.elim
    | succ n ih =>
      intro c a w h
      obtain ⟨e, a₁, w₁, hq, harr⟩ := h b (.inScope body :: k) cs
      cases e with
      | normal => exact ⟨.normal, a₁, w₁, hq, Steps.trans harr (.one step_inScope)⟩
      | exit id => exact ⟨.exit id, a₁, w₁, hq, fun k' hk => harr k' (by simp [exitTo, hk])⟩
      | goto l =>
        simp only at hq
        cases hf : findLabel body l with
        | some rest =>
          rw [hf] at hq
          obtain ⟨e₂, a₂, w₂, hq₂, harr₂⟩ := ih rest a₁ w₁ hq
          exact ⟨e₂, a₂, w₂, hq₂, .of_steps (harr _ (by simp [gotoIn, hf])) harr₂⟩
        | none =>
          rw [hf] at hq
          exact ⟨.goto l, a₁, w₁, hq, fun k' hk => harr k' (by simp [gotoIn, hf, hk])⟩
      | ret => exact ⟨_, a₁, w₁, hq, harr⟩
      | panic ch => exact ⟨_, a₁, w₁, hq, harr⟩
      | outgrown => exact ⟨_, a₁, w₁, hq, harr⟩
  obtain ⟨e, a', w', hq, harr⟩ := key n body a w h
  exact ⟨e, a', w', hq, .of_steps (.one step_scope) harr⟩

theorem evRegion_next {E : Env} {call : CallF} (hcall : CallOK E call) {ps : List (Nat × Nat)} {ops : Array Oper} {fr frf : List Value} {σ σf : St} (h : evRegion E call ps ops.toList fr σ = some (frf, σf)) : σ.next ≤ σf.next := by
  have key : ∀ (base : Nat) (l : List Nat) (fr : List Value) (σ : St) (rs : List Rec) (frf : List Value) (σf : St), runOps E call ops.toList base l fr σ = some (rs, frf, σf) → σ.next ≤ σf.next := by
    intro base l
    induction l with
    | nil => intro fr σ rs frf σf h; simp [runOps] at h; obtain ⟨_, _, rfl⟩ := h; exact Nat.le_refl _
    | cons i l ih =>
      intro fr σ rs frf σf h
      obtain ⟨r, fr1, σ1, rs', hs, hr, rfl⟩ := runOps_cons h
      exact Nat.le_trans (step1_next hcall hs) (ih _ _ _ _ _ hr)
  unfold evRegion at h
  split at h
  · rename_i rs fr' σ' hrun
    split at h
    · cases h
      have := key _ _ _ _ _ _ _ hrun
      simp only at this
      omega
    · cases h
  · cases h

section
variable {E : Env} {w0 : World} {call : CallF} {k : Nat} {fid : FuncId}

/-- What code comes to. -/
def CodeS (E : Env) (w0 : World) (call : CallF) (k : Nat) (fid : FuncId) (c : Code) : Prop :=
  ∀ (entry : Option Nat) (fr : List Value) (σ : St) (e : Ex) (frf : List Value) (σf : St), evC E call k fid c entry fr σ = some (e, frf, σf) →
    σ.next ≤ σf.next ∧ ∀ (μ : Mu) (a : Act) (w : World), FRel E.old μ fr a → Rel E w0 μ σ w →
      (entry = none → c.wp E.P (PostC E w0 μ σ.next e frf σf) a w) ∧
      (∀ l rest, entry = some l → findLabel c l = some rest → rest.wp E.P (PostC E w0 μ σ.next e frf σf) a w)

theorem evC_nolabel {c : Code} {l : Nat} {fr : List Value} {σ : St} {x : Ex × List Value × St} (h : evC E call k fid c (some l) fr σ = some x) : (∃ a b, c = .seq a b) ∨ ∃ l', c = .label l' := by
  cases c <;> first | exact .inl ⟨_, _, rfl⟩ | exact .inr ⟨_, rfl⟩ | (simp [evC] at h)

theorem thenC_cases {x : Out} {f : List Value → St → Out} {y : Ex × List Value × St} (h : thenC x f = some y) :
    (∃ fr σ, x = some (.normal, fr, σ) ∧ f fr σ = some y) ∨ (x = some y ∧ y.1 ≠ .normal) := by
  unfold thenC at h
  split at h
  · rename_i fr σ; exact .inl ⟨fr, σ, rfl, h⟩
  · rename_i hne
    right
    refine ⟨h, fun e => ?_⟩
    obtain ⟨e', fr, σ⟩ := y
    simp only at e
    subst e
    exact hne fr σ h

theorem seq_rule {E : Env} {w0 : World} {μ : Mu} {x y : Code} {a : Act} {w : World} {n : Nat} {e1 e : Ex} {fr1 frf : List Value} {σ1 σf : St} (h : x.wp E.P (PostC E w0 μ n e1 fr1 σ1) a w)
    (h2 : (e1 = .normal ∧ n ≤ σ1.next ∧ ∀ μ1 a1 w1, FRel E.old μ1 fr1 a1 → Rel E w0 μ1 σ1 w1 → y.wp E.P (PostC E w0 μ1 σ1.next e frf σf) a1 w1) ∨ (e1 ≠ .normal ∧ e1 = e ∧ fr1 = frf ∧ σ1 = σf)) :
    (Code.seq x y).wp E.P (PostC E w0 μ n e frf σf) a w := by
  refine wp_seq (wp_mono h ?_)
  intro ex a1 w1 hp
  rcases h2 with ⟨rfl, hn, h2⟩ | ⟨hne, rfl, rfl, rfl⟩
  · obtain ⟨hx, μ1, hext, hf, hr⟩ := hp
    have := hx.refl_normal
    subst this
    exact wp_mono (h2 μ1 a1 w1 hf hr) fun ex a w h => h.weaken hn hext
  · cases ex with
    | normal => exact absurd (by cases e1 <;> first | rfl | exact hp.1.elim) hne
    | _ => exact hp

theorem evC_sound (hcall : CallOK E call) (hmixed : E.P.follows .mixedOrders = true) : ∀ (c : Code), codeOk E.P (E.pairs fid) c = true → CodeS E w0 call k fid c
  | .skip, _ => by
    intro entry fr σ e frf σf h
    cases entry with
    | some l => simp [evC] at h
    | none =>
      simp only [evC, Option.some.injEq, Prod.mk.injEq] at h
      obtain ⟨rfl, rfl, rfl⟩ := h
      exact ⟨Nat.le_refl _, fun μ a w hf hr => ⟨fun _ => wp_skip ⟨trivial, μ, fun _ _ => rfl, hf, hr⟩, fun l rest h => by cases h⟩⟩
  | .label l', _ => by
    intro entry fr σ e frf σf h
    cases entry with
    | some l =>
      simp only [evC] at h
      split at h
      · rename_i hl
        subst hl
        cases h
        refine ⟨Nat.le_refl _, fun μ a w hf hr => ⟨fun h => (by cases h), fun l rest h hfl => ?_⟩⟩
        cases h
        simp [findLabel] at hfl
        subst hfl
        exact wp_skip ⟨trivial, μ, fun _ _ => rfl, hf, hr⟩
      · cases h
    | none =>
      simp only [evC, Option.some.injEq, Prod.mk.injEq] at h
      obtain ⟨rfl, rfl, rfl⟩ := h
      exact ⟨Nat.le_refl _, fun μ a w hf hr => ⟨fun _ => wp_label ⟨trivial, μ, fun _ _ => rfl, hf, hr⟩, fun l rest h => by cases h⟩⟩
  | .exit id, _ => by
    intro entry fr σ e frf σf h
    cases entry with
    | some l => simp [evC] at h
    | none =>
      simp only [evC, Option.some.injEq, Prod.mk.injEq] at h
      obtain ⟨rfl, rfl, rfl⟩ := h
      exact ⟨Nat.le_refl _, fun μ a w hf hr => ⟨fun _ => wp_exit ⟨rfl, μ, fun _ _ => rfl, hf, hr⟩, fun l rest h => by cases h⟩⟩
  | .goto l', _ => by
    intro entry fr σ e frf σf h
    cases entry with
    | some l => simp [evC] at h
    | none =>
      simp only [evC, Option.some.injEq, Prod.mk.injEq] at h
      obtain ⟨rfl, rfl, rfl⟩ := h
      exact ⟨Nat.le_refl _, fun μ a w hf hr => ⟨fun _ => wp_goto ⟨rfl, μ, fun _ _ => rfl, hf, hr⟩, fun l rest h => by cases h⟩⟩
  | .ret, _ => by
    intro entry fr σ e frf σf h
    cases entry with
    | some l => simp [evC] at h
    | none =>
      simp only [evC, Option.some.injEq, Prod.mk.injEq] at h
      obtain ⟨rfl, rfl, rfl⟩ := h
      exact ⟨Nat.le_refl _, fun μ a w hf hr => ⟨fun _ => wp_ret ⟨trivial, μ, fun _ _ => rfl, hf, hr⟩, fun l rest h => by cases h⟩⟩
  | .rangeFunc .., _ => by
    intro entry fr σ e frf σf h
    cases entry <;> simp [evC] at h
  | .refuse _, _ => by
    intro entry fr σ e frf σf h
    cases entry <;> simp [evC] at h
  | .region id ops draw, hok => by
    intro entry fr σ e frf σf h
    cases entry with
    | some l => simp [evC] at h
    | none =>
      simp only [evC] at h
      split at h
      · rename_i fr' σ' hrun
        cases h
        exact ⟨evRegion_next hcall hrun, fun μ a w hf hr => ⟨fun _ => region_sim hcall hok hmixed hrun hf hr fun μ' a' w' hext hf' hr' => ⟨trivial, μ', hext, hf', hr'⟩, fun l rest h => by cases h⟩⟩
      · cases h
  | .seq x y, hok => by
    simp only [codeOk, Bool.and_eq_true] at hok
    have ihx := evC_sound hcall hmixed x hok.1
    have ihy := evC_sound hcall hmixed y hok.2
    intro entry fr σ e frf σf h
    cases entry with
    | none =>
      simp only [evC] at h
      rcases thenC_cases h with ⟨fr1, σ1, h1, h2⟩ | ⟨h1, hne⟩
      · obtain ⟨n1, hx⟩ := ihx _ _ _ _ _ _ h1
        obtain ⟨n2, hy⟩ := ihy _ _ _ _ _ _ h2
        refine ⟨Nat.le_trans n1 n2, fun μ a w hf hr => ⟨fun _ => ?_, fun l rest h => by cases h⟩⟩
        exact seq_rule ((hx μ a w hf hr).1 rfl) (.inl ⟨rfl, n1, fun μ1 a1 w1 hf1 hr1 => (hy μ1 a1 w1 hf1 hr1).1 rfl⟩)
      · obtain ⟨n1, hx⟩ := ihx _ _ _ _ _ _ h1
        refine ⟨n1, fun μ a w hf hr => ⟨fun _ => ?_, fun l rest h => by cases h⟩⟩
        exact seq_rule ((hx μ a w hf hr).1 rfl) (.inr ⟨hne, rfl, rfl, rfl⟩)
    | some l =>
      simp only [evC] at h
      split at h
      · rename_i hl
        rcases thenC_cases h with ⟨fr1, σ1, h1, h2⟩ | ⟨h1, hne⟩
        · obtain ⟨n1, hx⟩ := ihx _ _ _ _ _ _ h1
          obtain ⟨n2, hy⟩ := ihy _ _ _ _ _ _ h2
          refine ⟨Nat.le_trans n1 n2, fun μ a w hf hr => ⟨fun h => (by cases h), fun l' rest h hfl => ?_⟩⟩
          cases h
          rw [hasLabel_iff] at hl
          obtain ⟨r, hr'⟩ := Option.isSome_iff_exists.1 hl
          simp only [findLabel, hr', Option.some.injEq] at hfl
          subst hfl
          exact seq_rule ((hx μ a w hf hr).2 l r rfl hr') (.inl ⟨rfl, n1, fun μ1 a1 w1 hf1 hr1 => (hy μ1 a1 w1 hf1 hr1).1 rfl⟩)
        · obtain ⟨n1, hx⟩ := ihx _ _ _ _ _ _ h1
          refine ⟨n1, fun μ a w hf hr => ⟨fun h => (by cases h), fun l' rest h hfl => ?_⟩⟩
          cases h
          rw [hasLabel_iff] at hl
          obtain ⟨r, hr'⟩ := Option.isSome_iff_exists.1 hl
          simp only [findLabel, hr', Option.some.injEq] at hfl
          subst hfl
          exact seq_rule ((hx μ a w hf hr).2 l r rfl hr') (.inr ⟨hne, rfl, rfl, rfl⟩)
      · rename_i hl
        obtain ⟨n2, hy⟩ := ihy _ _ _ _ _ _ h
        refine ⟨n2, fun μ a w hf hr => ⟨fun h => (by cases h), fun l' rest h hfl => ?_⟩⟩
        cases h
        rw [hasLabel_iff] at hl
        have hnone : findLabel x l = none := by cases hq : findLabel x l <;> simp [hq] at hl ⊢
        simp only [findLabel, hnone] at hfl
        exact (hy μ a w hf hr).2 l rest rfl hfl
  | .cond c x y, hok => by
    simp only [codeOk, Bool.and_eq_true] at hok
    have ihx := evC_sound hcall hmixed x hok.2.1
    have ihy := evC_sound hcall hmixed y hok.2.2
    intro entry fr σ e frf σf h
    cases entry with
    | some l => simp [evC] at h
    | none =>
      simp only [evC] at h
      split at h
      · rename_i t ht
        have hb : ∀ μ a, FRel E.old μ fr a → a.eval c = .bool t := fun μ a hf => by
          have := hf.opd hok.1
          rw [ht] at this
          exact this.flat_eq rfl
        split at h
        · rename_i htt
          obtain ⟨n1, hx⟩ := ihx _ _ _ _ _ _ h
          refine ⟨n1, fun μ a w hf hr => ⟨fun _ => wp_cond_true (by rw [hb μ a hf, htt]) ((hx μ a w hf hr).1 rfl), fun l rest h => by cases h⟩⟩
        · rename_i htt
          obtain ⟨n1, hx⟩ := ihy _ _ _ _ _ _ h
          refine ⟨n1, fun μ a w hf hr => ⟨fun _ => wp_cond_false (by rw [hb μ a hf]; simpa using htt) ((hx μ a w hf hr).1 rfl), fun l rest h => by cases h⟩⟩
      · cases h
  | .block id c, hok => by
    have ih := evC_sound hcall hmixed c hok
    intro entry fr σ e frf σf h
    cases entry with
    | some l => simp [evC] at h
    | none =>
      simp only [evC] at h
      split at h
      · rename_i id' fr' σ' h1
        obtain ⟨n1, hx⟩ := ih _ _ _ _ _ _ h1
        split at h
        · rename_i hid
          cases h
          refine ⟨n1, fun μ a w hf hr => ⟨fun _ => wp_block (wp_mono ((hx μ a w hf hr).1 rfl) ?_), fun l rest h => by cases h⟩⟩
          rintro ex a1 w1 ⟨hx1, rest⟩
          have := hx1.exit_eq
          subst this
          simp only [Exit.inBlock, hid, if_true]
          exact ⟨trivial, rest⟩
        · rename_i hid
          cases h
          refine ⟨n1, fun μ a w hf hr => ⟨fun _ => wp_block (wp_mono ((hx μ a w hf hr).1 rfl) ?_), fun l rest h => by cases h⟩⟩
          rintro ex a1 w1 ⟨hx1, rest⟩
          have := hx1.exit_eq
          subst this
          simp only [Exit.inBlock, hid, if_false]
          exact ⟨rfl, rest⟩
      · rename_i hne
        obtain ⟨n1, hx⟩ := ih _ _ _ _ _ _ h
        refine ⟨n1, fun μ a w hf hr => ⟨fun _ => wp_block (wp_mono ((hx μ a w hf hr).1 rfl) ?_), fun l rest h => by cases h⟩⟩
        rintro ex a1 w1 ⟨hx1, rest⟩
        cases ex with
        | exit id' =>
          cases e with
          | exit i => exact absurd h (hne i frf σf)
          | _ => exact hx1.elim
        | _ => exact ⟨hx1, rest⟩
  | .loop c, hok => by
    have ih := evC_sound hcall hmixed c hok
    intro entry fr σ e frf σf h
    cases entry with
    | some l => simp [evC] at h
    | none =>
      simp only [evC] at h
      have key : ∀ (m : Nat) (fr : List Value) (σ : St), iter (evC E call k fid c none) m fr σ = some (e, frf, σf) → σ.next ≤ σf.next ∧ ∀ μ a w, FRel E.old μ fr a → Rel E w0 μ σ w →
          Code.rounds E.P c (PostC E w0 μ σ.next e frf σf) m a w := by
        intro m
        induction m with
        | zero => intro fr σ h; simp [iter] at h
        | succ m ihm =>
          intro fr σ h
          simp only [iter] at h
          split at h
          · rename_i fr1 σ1 h1
            obtain ⟨n1, hx⟩ := ih _ _ _ _ _ _ h1
            obtain ⟨n2, hy⟩ := ihm fr1 σ1 h
            refine ⟨Nat.le_trans n1 n2, fun μ a w hf hr => ?_⟩
            rw [rounds_succ]
            refine wp_mono ((hx μ a w hf hr).1 rfl) ?_
            rintro ex a1 w1 ⟨hx1, μ1, hext, hf1, hr1⟩
            have := hx1.refl_normal
            subst this
            have hrd := hy μ1 a1 w1 hf1 hr1
            have mono : ∀ m a w, Code.rounds E.P c (PostC E w0 μ1 σ1.next e frf σf) m a w → Code.rounds E.P c (PostC E w0 μ σ.next e frf σf) m a w := by
              intro m
              induction m with
              | zero => intro a w h; exact h
              | succ m ihm =>
                intro a w h
                rw [rounds_succ] at h ⊢
                refine wp_mono h ?_
                intro ex a w hp
                cases ex with
                | normal => exact ihm a w hp
                | _ => exact PostC.weaken n1 hext hp
            exact mono _ _ _ hrd
          · rename_i hne
            obtain ⟨n1, hx⟩ := ih _ _ _ _ _ _ h
            refine ⟨n1, fun μ a w hf hr => ?_⟩
            rw [rounds_succ]
            refine wp_mono ((hx μ a w hf hr).1 rfl) ?_
            rintro ex a1 w1 ⟨hx1, rest⟩
            cases ex with
            | normal =>
              cases e with
              | normal => exact absurd h (hne frf σf)
              | _ => exact hx1.elim
            | _ => exact ⟨hx1, rest⟩
      obtain ⟨n1, hx⟩ := key k fr σ h
      exact ⟨n1, fun μ a w hf hr => ⟨fun _ => wp_loop_rounds k (hx μ a w hf hr), fun l rest h => by cases h⟩⟩
  | .scope c, hok => by
    have ih := evC_sound hcall hmixed c hok
    intro entry fr σ e frf σf h
    cases entry with
    | some l => simp [evC] at h
    | none =>
      simp only [evC] at h
      have mono : ∀ {μ μ1 : Mu} {n n1 : Nat}, n ≤ n1 → (∀ x, x < n → μ1 x = μ x) → ∀ m cd a w, hops E.P c (PostC E w0 μ1 n1 e frf σf) m cd a w → hops E.P c (PostC E w0 μ n e frf σf) m cd a w := by
        intro μ μ1 n n1 hn hext m
        induction m with
        | zero => intro cd a w h; exact h
        | succ m ihm =>
          intro cd a w h
          simp only [hops] at h ⊢
          refine wp_mono h ?_
          intro ex a w hp
          cases ex with
          | goto l =>
            simp only at hp ⊢
            cases hfl : findLabel c l with
            | some rest => rw [hfl] at hp; exact ihm rest a w hp
            | none => rw [hfl] at hp; exact PostC.weaken hn hext hp
          | _ => exact PostC.weaken hn hext hp
      have key : ∀ (m : Nat) (entry : Option Nat) (fr : List Value) (σ : St), hop (hasLabel c) (evC E call k fid c) m entry fr σ = some (e, frf, σf) → σ.next ≤ σf.next ∧ ∀ μ a w, FRel E.old μ fr a → Rel E w0 μ σ w →
          (entry = none → hops E.P c (PostC E w0 μ σ.next e frf σf) m c a w) ∧ (∀ l rest, entry = some l → findLabel c l = some rest → hops E.P c (PostC E w0 μ σ.next e frf σf) m rest a w) := by
        intro m
        induction m with
        | zero => intro entry fr σ h; simp [hop] at h
        | succ m ihm =>
          intro entry fr σ h
          simp only [hop] at h
          have pass : ∀ (e1 : Ex) (fr1 : List Value) (σ1 : St), evC E call k fid c entry fr σ = some (e1, fr1, σ1) →
              ((∃ l, e1 = .goto l ∧ hasLabel c l = true ∧ hop (hasLabel c) (evC E call k fid c) m (some l) fr1 σ1 = some (e, frf, σf)) ∨ (e1 = e ∧ fr1 = frf ∧ σ1 = σf ∧ ∀ l, e1 = .goto l → hasLabel c l = false)) →
              σ.next ≤ σf.next ∧ ∀ μ a w, FRel E.old μ fr a → Rel E w0 μ σ w →
                (entry = none → hops E.P c (PostC E w0 μ σ.next e frf σf) (m + 1) c a w) ∧ (∀ l rest, entry = some l → findLabel c l = some rest → hops E.P c (PostC E w0 μ σ.next e frf σf) (m + 1) rest a w) := by
            intro e1 fr1 σ1 h1 hcase
            obtain ⟨n1, hx⟩ := ih _ _ _ _ _ _ h1
            have post : σ.next ≤ σf.next ∧ ∀ μ ex a1 w1, PostC E w0 μ σ.next e1 fr1 σ1 ex a1 w1 →
                (match ex with | .goto l => (match findLabel c l with | some rest => hops E.P c (PostC E w0 μ σ.next e frf σf) m rest a1 w1 | none => PostC E w0 μ σ.next e frf σf (.goto l) a1 w1) | ex => PostC E w0 μ σ.next e frf σf ex a1 w1) := by
              rcases hcase with ⟨l, rfl, hl, h2⟩ | ⟨rfl, rfl, rfl, hno⟩
              · obtain ⟨n2, hy⟩ := ihm _ _ _ h2
                refine ⟨Nat.le_trans n1 n2, ?_⟩
                rintro μ ex a1 w1 ⟨hx1, μ1, hext, hf1, hr1⟩
                have := hx1.goto_eq
                subst this
                rw [hasLabel_iff] at hl
                obtain ⟨rest, hrest⟩ := Option.isSome_iff_exists.1 hl
                simp only [hrest]
                exact mono n1 hext _ _ _ _ ((hy μ1 a1 w1 hf1 hr1).2 l rest rfl hrest)
              · refine ⟨n1, ?_⟩
                rintro μ ex a1 w1 ⟨hx1, hrest⟩
                cases ex with
                | goto l =>
                  have he : e1 = .goto l := by cases e1 <;> first | exact hx1.elim | (simp only [ExRel] at hx1; rw [hx1])
                  have hl := hno l he
                  rw [hasLabel_iff] at hl
                  have hnone : findLabel c l = none := by cases hq : findLabel c l <;> simp [hq] at hl ⊢
                  simp only [hnone]
                  exact ⟨hx1, hrest⟩
                | _ => exact ⟨hx1, hrest⟩
            refine ⟨post.1, fun μ a w hf hr => ⟨fun he => ?_, fun l rest he hfl => ?_⟩⟩
            · exact wp_mono ((hx μ a w hf hr).1 he) (fun ex a w hp => post.2 μ ex a w hp)
            · exact wp_mono ((hx μ a w hf hr).2 l rest he hfl) (fun ex a w hp => post.2 μ ex a w hp)
          split at h
          · rename_i l fr1 σ1 h1
            split at h
            · rename_i hl
              exact pass _ _ _ h1 (.inl ⟨l, rfl, hl, h⟩)
            · rename_i hl
              cases h
              exact pass _ _ _ h1 (.inr ⟨rfl, rfl, rfl, fun l' e => by cases e; simpa using hl⟩)
          · rename_i hne
            exact pass _ _ _ h (.inr ⟨rfl, rfl, rfl, fun l' he => absurd (by rw [h, he]) (hne l' frf σf)⟩)
      obtain ⟨n1, hx⟩ := key k none fr σ h
      exact ⟨n1, fun μ a w hf hr => ⟨fun _ => wp_scope_hops k ((hx μ a w hf hr).1 rfl), fun l rest h => by cases h⟩⟩
end

/-! ### Functions -/

theorem resV_spec {E : Env} {w0 w : World} {μ : Mu} {σ : St} (hr : Rel E w0 μ σ w) {fr : List Value} {a : Act} (hf : FRel E.old μ fr a) : ∀ (l : List ResultVar) (vs : List Value), resV E fr σ l = some vs →
    ∃ vs', (l.mapM fun (r : ResultVar) => match r with
      | .tmp t => (pure (a.tmps.getD t undef) : Sem Value)
      | .cell x t => do loadVar t (← asAddr (a.tmps.getD x undef))).run E.P w = .ok vs' w ∧ LRel E.old μ vs vs' := by
  intro l
  induction l with
  | nil => intro vs h; simp [resV] at h; subst h; exact ⟨[], by simp, ⟨rfl, fun i x y hx _ => by simp at hx⟩⟩
  | cons r l ih =>
    intro vs h
    have cons_rel : ∀ {v v' : Value} {vs vs' : List Value}, VRel E.old μ v v' → LRel E.old μ vs vs' → LRel E.old μ (v :: vs) (v' :: vs') := by
      intro v v' vs vs' hv hl
      refine ⟨by simp [hl.1], fun i x y hx hy => ?_⟩
      cases i with
      | zero => simp at hx hy; subst hx; subst hy; exact hv
      | succ i => exact hl.2 i x y (by simpa using hx) (by simpa using hy)
    cases r with
    | tmp t =>
      simp only [resV] at h
      cases hl : resV E fr σ l with
      | none => simp [hl] at h
      | some vs1 =>
        simp only [hl, Option.map_some, Option.some.injEq] at h
        subst h
        obtain ⟨vs', h1, h2⟩ := ih vs1 hl
        exact ⟨a.tmps.getD t undef :: vs', by simp only [List.mapM_cons, Sem.run_bind, Sem.run_pure, Result.andThen_ok, h1], cons_rel (hf.get t) h2⟩
    | cell x t =>
      simp only [resV] at h
      split at h
      · rename_i e vs1 he hl
        cases h
        obtain ⟨vs', h1, h2⟩ := ih vs1 hl
        have he0 := he
        unfold evLoad at he0
        split at he0
        · rename_i p hp
          have hx := hf.get x
          rw [hp] at hx he
          obtain ⟨c, hc, ha⟩ := hx.inv_pointer
          obtain ⟨v', q1, q2, _⟩ := load_spec hr ha he
          refine ⟨v' :: vs', ?_, cons_rel q2 h2⟩
          have hstep : (asAddr (a.tmps.getD x undef)).run E.P w = .ok c w := by rw [hc]; rfl
          simp only [List.mapM_cons, Sem.run_bind, hstep, Sem.run_pure, Result.andThen_ok, q1, h1]
        · cases he0
      · cases h

theorem resOf_spec {E : Env} {w0 w : World} {μ : Mu} {σ : St} (hr : Rel E w0 μ σ w) {fr : List Value} {a : Act} (hf : FRel E.old μ fr a) {fn : Func} {v : Value} (h : resOf E fn fr σ = some v) :
    ∃ v', (results fn a.tmps).run E.P w = .ok v' w ∧ VRel E.old μ v v' := by
  unfold resOf at h
  cases hl : resV E fr σ fn.results.toList with
  | none => simp [hl] at h
  | some vs =>
    obtain ⟨vs', h1, h2⟩ := resV_spec hr hf _ _ hl
    have hrun : (results fn a.tmps).run E.P w = .ok (if h : vs'.toArray.size = 1 then vs'.toArray[0] else .tuple vs'.toArray) w := by
      have e : results fn a.tmps = (do
          let vs ← (List.toArray <$> fn.results.toList.mapM fun (r : ResultVar) => match r with
            | .tmp t => (pure (a.tmps.getD t undef) : Sem Value)
            | .cell x t => do loadVar t (← asAddr (a.tmps.getD x undef)))
          pure (if h : vs.size = 1 then vs[0] else .tuple vs)) := by
        unfold results
        rw [Array.mapM_eq_mapM_toList]
        rfl
      rw [e]
      simp only [Sem.run_bind, Sem.run_map, h1, Result.andThen_ok, Sem.run_pure]
    rw [hl] at h
    have hlen := h2.1
    split at h
    · rename_i u hu
      cases hu
      cases h
      match vs', h2, hrun with
      | [u'], h2, hrun => exact ⟨u', by simpa using hrun, h2.2 0 _ _ rfl rfl⟩
      | [], h2, _ => simp [LRel] at h2
      | _ :: _ :: _, h2, _ => simp [LRel] at h2
    · rename_i l hne hll
      cases hll
      cases h
      have hn1 : vs'.length ≠ 1 := by
        intro e
        rw [← hlen] at e
        match vs, e, hne with
        | [u], _, hne => exact hne u rfl
      refine ⟨.tuple vs'.toArray, by rw [hrun]; simp [hn1], .tuple _ _ (by simpa using h2.1) (fun i x y hx hy => h2.2 i x y (by simpa using hx) (by simpa using hy))⟩
    · rename_i hnn
      cases hnn

theorem evBody_sound {E : Env} {w0 : World} {call : CallF} (hcall : CallOK E call) (hmixed : E.P.follows .mixedOrders = true) {k : Nat} {f : FuncId} {fn : Func} {c : Code} (hfn : E.P.funcs[f]? = some fn) (hb : fn.body = some c)
    (hok : codeOk E.P (E.pairs f) c = true) {args : List Value} {σ σ' : St} {v : Value} (h : evBody E call k f fn c args σ = some (v, σ')) :
    σ.next ≤ σ'.next ∧ ∀ (μ : Mu) (w : World) (args' : Array Value), Rel E w0 μ σ w → LRel E.old μ args args'.toList →
      Calls E.P f args' w fun e w' => ∃ v' μ', e = .returned v' ∧ VRel E.old μ' v v' ∧ Rel E w0 μ' σ' w' ∧ ∀ a, a < σ.next → μ' a = μ a := by
  unfold evBody at h
  have fin : ∀ (ex : Ex) (fr : List Value) (σ2 : St), evC E call k f c none (args ++ List.replicate (fn.ntmps - args.length) undef) σ = some (ex, fr, σ2) → (ex = .normal ∨ ex = .ret) → (resOf E fn fr σ2).map (fun v => (v, σ2)) = some (v, σ') →
      σ.next ≤ σ'.next ∧ ∀ (μ : Mu) (w : World) (args' : Array Value), Rel E w0 μ σ w → LRel E.old μ args args'.toList →
        Calls E.P f args' w fun e w' => ∃ v' μ', e = .returned v' ∧ VRel E.old μ' v v' ∧ Rel E w0 μ' σ' w' ∧ ∀ a, a < σ.next → μ' a = μ a := by
    intro ex fr σ2 hev hex hres
    cases hro : resOf E fn fr σ2 with
    | none => simp [hro] at hres
    | some v2 =>
      simp only [hro, Option.map_some, Option.some.injEq, Prod.mk.injEq] at hres
      obtain ⟨rfl, rfl⟩ := hres
      obtain ⟨n1, hx⟩ := evC_sound (w0 := w0) hcall hmixed c hok _ _ _ _ _ _ hev
      refine ⟨n1, fun μ w args' hr ha => ?_⟩
      refine calls_of_wp hfn hb ?_
      have hfr : FRel E.old μ (args ++ List.replicate (fn.ntmps - args.length) undef) { tmps := args' ++ Array.replicate (fn.ntmps - args'.size) undef, defers := [] } := by
        refine ⟨?_, rfl⟩
        have hs : args.length = args'.size := by simpa using ha.1
        have hu : LRel E.old μ (List.replicate (fn.ntmps - args.length) undef) (List.replicate (fn.ntmps - args.length) undef) := by
          refine ⟨rfl, fun i x y hx hy => ?_⟩
          have e1 := List.eq_of_mem_replicate (List.mem_of_getElem? hx)
          have e2 := List.eq_of_mem_replicate (List.mem_of_getElem? hy)
          rw [e1, e2]
          exact .undef _ _
        have := ha.append hu
        simpa [hs] using this
      refine wp_mono ((hx μ _ w hfr hr).1 rfl) ?_
      rintro e a w' ⟨hxe, μ', hext, hf', hr'⟩
      obtain ⟨v', q1, q2⟩ := resOf_spec hr' hf' hro
      have hpost : a.defers = [] ∧ ∃ v, (results fn a.tmps).run E.P w' = .ok v w' ∧ ∃ v' μ', Ending.returned v = .returned v' ∧ VRel E.old μ' v2 v' ∧ Rel E w0 μ' σ2 w' ∧ ∀ a, a < σ.next → μ' a = μ a :=
        ⟨hf'.defers, v', q1, v', μ', rfl, q2, hr', hext⟩
      rcases hex with rfl | rfl
      · have := hxe.refl_normal; subst this; exact hpost
      · have := hxe.ret_eq; subst this; exact hpost
  split at h
  · rename_i fr σ2 hev; exact fin _ _ _ hev (.inl rfl) h
  · rename_i fr σ2 hev; exact fin _ _ _ hev (.inr rfl) h
  · cases h

/-- The program's text, once looked at. -/
structure ProgOk (E : Env) : Prop where
  mixed : E.P.follows .mixedOrders = true
  code : ∀ f fn c, E.P.funcs[f]? = some fn → fn.body = some c → codeOk E.P (E.pairs f) c = true ∧ fn.name ≠ "runtime.NumGoroutine"

/-- The same, of all functions at once: a Bool for the kernel. -/
def progOkB (P : Program) (pairs : FuncId → Nat → List (Nat × Nat)) : Bool :=
  (P.funcs.toList.zipIdx).all fun x => match x.1.body with
    | some c => codeOk P (pairs x.2) c && decide (x.1.name ≠ "runtime.NumGoroutine")
    | none => true

theorem progOk_of {E : Env} (hm : E.P.follows .mixedOrders = true) (h : progOkB E.P E.pairs = true) : ProgOk E := by
  refine ⟨hm, fun f fn c hfn hb => ?_⟩
  have := List.all_eq_true.1 h (fn, f) (by rw [List.mem_zipIdx_iff_getElem?]; simpa using hfn)
  simp only [hb, Bool.and_eq_true, decide_eq_true_eq] at this
  exact this
end Go.Ab
