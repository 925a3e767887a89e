/- Regions in the model. -/
import Derived.Test.YtllffogcdeempaaFwJ
set_option linter.all false
open Go.RowKit
namespace Go.Ab

theorem kind_none {P : Program} {o : Oper} (h : kind P o = 0 ∨ kind P o = 1) : callOf o = none := by
  unfold callOf
  split
  · rename_i f args ats ho
    unfold kind at h
    rw [ho] at h
    simp at h
  · rfl

theorem kind_eff {E : Env} {g : Nat → Option Blk} {nid : Nat} {ρ : Operand → Value} {o : Oper} {e : Eff} (h : evOp E ρ nid g o = some e) :
    (kind E.P o = 0 → e.upd = [] ∧ e.rds = []) ∧ (kind E.P o = 1 → e.upd = []) := by
  obtain ⟨dst, op, ty, pos, after, guard⟩ := o
  cases op
  case move x => cases (show (some (⟨ρ x, [], []⟩ : Eff) = some e) from h); simp
  case assign x => cases (show (some (⟨ρ x, [], []⟩ : Eff) = some e) from h); simp
  case pick c a b =>
    simp only [evOp] at h
    split at h <;> cases h <;> simp
  case alloc t => simp [kind]
  case box t x => simp [kind]
  case build t ps =>
    simp only [evOp, Option.map_eq_some_iff] at h
    obtain ⟨v, _, rfl⟩ := h
    simp
  case buildSlice t n ps => simp [kind]
  case load t a =>
    refine ⟨fun hk => by simp [kind] at hk, fun _ => ?_⟩
    have h' : evLoad E g t (ρ a) = some e := h
    unfold evLoad at h'
    split at h'
    · split at h'
      · split at h'
        · split at h'
          · cases h'; rfl
          · cases h'
        · cases h'
      · split at h'
        · cases h'; rfl
        · cases h'
      · cases h'
    · cases h'
  case store t a x => simp [kind]
  case nilCheck x =>
    simp only [evOp] at h
    split at h <;> cases h <;> simp
  case binOp op t x y t' =>
    simp only [evOp, Option.map_eq_some_iff] at h
    obtain ⟨v, _, rfl⟩ := h
    simp
  case unOp op t x =>
    simp only [evOp] at h
    split at h
    · simp only [Option.map_eq_some_iff] at h
      obtain ⟨v, _, rfl⟩ := h
      simp
    · cases h
  case convert src dst x =>
    have h' : evConvert E g nid src dst (ρ x) = some e := h
    refine ⟨fun hk => ?_, fun hk => ?_⟩
    · unfold evConvert at h'
      simp only [kind] at hk
      have hsl : isSl E.P src = false ∧ isSl E.P dst = false := by
        constructor
        · cases hq : isSl E.P src <;> simp [hq] at hk ⊢
        · cases hq : isSl E.P dst <;> simp [hq] at hk ⊢
      obtain ⟨q1, q2⟩ := hsl
      unfold isSl at q1 q2
      split at h'
      · simp_all
      · simp_all
      · simp_all
      · simp_all
      · split at h'
        · simp only [Option.map_eq_some_iff] at h'
          obtain ⟨v, _, rfl⟩ := h'
          simp
        · cases h'
      · cases h'
    · simp only [kind] at hk
      split at hk <;> simp at hk
  case makeFunc fn f c => cases (show (some (⟨.func fn (f.map ρ) (c.map ρ), [], []⟩ : Eff) = some e) from h); simp
  case makeSlice t l c => simp [kind]
  case slice t x lo hi mx =>
    have h' : evSlice E g t (ρ x) (lo.map ρ) (hi.map ρ) (mx.map ρ) = some e := h
    refine ⟨fun hk => ?_, fun _ => ?_⟩
    · simp only [kind] at hk
      have q1 : isSl E.P t = false := by cases hq : isSl E.P t <;> simp [hq] at hk ⊢
      unfold isSl at q1
      unfold evSlice at h'
      split at h'
      · split at h'
        · split at h'
          · cases h'; simp
          · cases h'
        · cases h'
      · simp_all
      · simp_all
      · split at h'
        · split at h'
          · cases h'; simp
          · cases h'
        · cases h'
      · cases h'
    · unfold evSlice at h'
      split at h'
      · split at h'
        · split at h'
          · cases h'; rfl
          · cases h'
        · cases h'
      · split at h'
        · split at h'
          · cases h'; rfl
          · cases h'
        · split at h'
          · cases h'; rfl
          · cases h'
        · cases h'
      · split at h'
        · split at h'
          · split at h'
            · split at h'
              · cases h'; rfl
              · cases h'
            · cases h'
          · cases h'
        · split at h'
          · split at h'
            · split at h'
              · split at h'
                · cases h'; rfl
                · cases h'
              · cases h'
            · cases h'
          · cases h'
        · cases h'
      · split at h'
        · split at h'
          · cases h'; rfl
          · cases h'
        · cases h'
      · cases h'
  case fieldAddr t x f =>
    simp only [evOp, Option.map_eq_some_iff] at h
    obtain ⟨v, _, rfl⟩ := h
    simp
  case field t x f =>
    simp only [evOp, Option.map_eq_some_iff] at h
    obtain ⟨v, _, rfl⟩ := h
    simp
  case indexAddr t x i =>
    simp only [evOp, Option.map_eq_some_iff] at h
    obtain ⟨v, _, rfl⟩ := h
    simp
  case index t x i =>
    simp only [evOp, Option.map_eq_some_iff] at h
    obtain ⟨v, _, rfl⟩ := h
    simp
  case extract x i =>
    simp only [evOp] at h
    split at h
    · simp only [Option.map_eq_some_iff] at h
      obtain ⟨v, _, rfl⟩ := h
      simp
    · cases h
  case call c =>
    obtain ⟨callee, args, argTypes⟩ := c
    cases callee with
    | value f => exact absurd h (by simp [evOp])
    | invoke r m => exact absurd h (by simp [evOp])
    | builtin b =>
      have h' : evBuiltin E g nid b argTypes ty (args.toList.map ρ) = some e := h
      refine ⟨fun hk => ?_, fun hk => ?_⟩
      · unfold evBuiltin at h'
        split at h'
        · simp [kind] at hk
        · simp [kind] at hk
        · simp [kind] at hk
        · simp only [Option.map_eq_some_iff] at h'
          obtain ⟨v, _, rfl⟩ := h'
          simp
        · simp [kind] at hk
        · split at h'
          · simp only [Option.map_eq_some_iff] at h'
            obtain ⟨v, _, rfl⟩ := h'
            simp
          · cases h'
        · split at h'
          · simp only [Option.map_eq_some_iff] at h'
            obtain ⟨v, _, rfl⟩ := h'
            simp
          · cases h'
        · cases h'
      · simp only [kind] at hk
        split at hk <;> simp at hk
  all_goals exact absurd h (by simp [evOp])

def RecOk (E : Env) (ops : Array Oper) (i : Nat) : Rec → Prop
  | .quiet => True
  | .mem f e => ∃ o ρ nid g, ops[i]? = some o ∧ f = (fun g => evOp E ρ nid g o) ∧ evOp E ρ nid g o = some e
  | .call _ _ => ∃ o, ops[i]? = some o ∧ callOf o ≠ none

theorem step1_ok {E : Env} {call : CallF} {ops : Array Oper} {base i : Nat} {fr fr' : List Value} {σ σ' : St} {r : Rec} (h : step1 E call ops.toList base i fr σ = some (r, fr', σ')) : RecOk E ops i r := by
  cases r with
  | quiet => trivial
  | mem f e =>
    obtain ⟨o, ho, _, _, hf, he, _⟩ := step1_mem h
    exact ⟨o, Opd fr, base + i, σ.heap.get, ho, hf, by rw [hf] at he; exact he⟩
  | call b a =>
    obtain ⟨o, f, args, _, _, _, ho, _, hc, _⟩ := step1_call h
    exact ⟨o, ho, by rw [hc]; simp⟩

theorem runOps_ok {E : Env} {call : CallF} {ops : Array Oper} {base : Nat} : ∀ (l : List Nat) (fr : List Value) (σ : St) (rs : List Rec) (frf : List Value) (σf : St), runOps E call ops.toList base l fr σ = some (rs, frf, σf) →
    rs.length = l.length ∧ ∀ (k i : Nat) (r : Rec), l[k]? = some i → rs[k]? = some r → RecOk E ops i r := by
  intro l
  induction l with
  | nil => intro fr σ rs frf σf h; simp [runOps] at h; obtain ⟨rfl, _, _⟩ := h; simp
  | cons j l ih =>
    intro fr σ rs frf σf h
    obtain ⟨r, fr1, σ1, rs', hs, hr, rfl⟩ := runOps_cons h
    obtain ⟨h1, h2⟩ := ih fr1 σ1 rs' frf σf hr
    refine ⟨by simp [h1], ?_⟩
    intro k i r' hk hr'
    cases k with
    | zero => simp at hk hr'; subst hk; subst hr'; exact step1_ok hs
    | succ k => exact h2 k i r' (by simpa using hk) (by simpa using hr')

theorem harmless_indep {E : Env} {ops : Array Oper} {i j : Nat} {oi oj : Oper} (hi : ops[i]? = some oi) (hj : ops[j]? = some oj) (h : harmless E.P oi oj = true) {r r' : Rec} (hr : RecOk E ops i r) (hr' : RecOk E ops j r') : IndepP r r' := by
  have facts : ∀ {k : Nat} {o : Oper} {f : (Nat → Option Blk) → Option Eff} {e : Eff}, ops[k]? = some o → RecOk E ops k (.mem f e) → (kind E.P o = 0 → e.upd = [] ∧ e.rds = [] ∧ ∀ g, f g = some e) ∧ (kind E.P o = 1 → e.upd = []) := by
    intro k o f e ho ⟨o', ρ, nid, g, ho', hf, he⟩
    rw [ho] at ho'; cases ho'
    obtain ⟨h0, h1⟩ := kind_eff he
    refine ⟨fun hk => ?_, h1⟩
    obtain ⟨q1, q2⟩ := h0 hk
    refine ⟨q1, q2, fun g' => ?_⟩
    rw [hf]
    exact evOp_local he (fun b hb => by rw [q2] at hb; simp at hb)
  have nocall : ∀ {k : Nat} {o : Oper} {b a : St}, ops[k]? = some o → RecOk E ops k (.call b a) → kind E.P o ≠ 0 ∧ kind E.P o ≠ 1 := by
    intro k o b a ho ⟨o', ho', hc⟩
    rw [ho] at ho'; cases ho'
    exact ⟨fun h => hc (kind_none (.inl h)), fun h => hc (kind_none (.inr h))⟩
  unfold harmless at h
  simp only [Bool.or_eq_true, beq_iff_eq, Bool.and_eq_true] at h
  cases r with
  | quiet => trivial
  | mem f e =>
    have fi := facts hi hr
    cases r' with
    | quiet => trivial
    | mem f' e' =>
      have fj := facts hj hr'
      rcases h with (h | h) | ⟨h, h'⟩
      · obtain ⟨q1, q2, _⟩ := fi.1 h; simp [IndepP, q1, q2]
      · obtain ⟨q1, q2, _⟩ := fj.1 h; simp [IndepP, q1, q2]
      · have q1 := fi.2 h; have q2 := fj.2 h'; simp [IndepP, q1, q2]
    | call b a =>
      have nj := nocall hj hr'
      rcases h with (h | h) | ⟨h, h'⟩
      · obtain ⟨q1, q2, q3⟩ := fi.1 h; exact ⟨q1, q3 _, q3 _⟩
      · exact absurd h nj.1
      · exact absurd h' nj.2
  | call b a =>
    have ni := nocall hi hr
    cases r' with
    | quiet => trivial
    | mem f' e' =>
      have fj := facts hj hr'
      rcases h with (h | h) | ⟨h, h'⟩
      · exact absurd h ni.1
      · obtain ⟨q1, q2, q3⟩ := fj.1 h; exact .inr ⟨q1, q3 _, q3 _⟩
      · exact absurd h ni.2
    | call b' a' =>
      rcases h with (h | h) | ⟨h, h'⟩
      · exact absurd h ni.1
      · exact absurd h (nocall hj hr').1
      · exact absurd h ni.2

theorem far_of (ops : Array Oper) : ∀ (l : List Nat) (rs : List Rec), (∀ r ∈ rs, RecMono r) → (∀ (k m i j : Nat) (r r' : Rec), k < m → l[k]? = some i → l[m]? = some j → rs[k]? = some r → rs[m]? = some r' →
    Anc ops i j ∨ (∃ oi oj, ops[i]? = some oi ∧ ops[j]? = some oj ∧ oi.apart ops oj = true ∧ IndepP r r')) → Far ops (l.zip rs) := by
  intro l
  induction l with
  | nil => intro rs _ _; simp [Far]
  | cons i l ih =>
    intro rs hm h
    cases rs with
    | nil => simp [Far]
    | cons r rs =>
      simp only [List.zip_cons_cons, Far]
      refine ⟨⟨hm r (by simp), fun x hx => ?_⟩, ih rs (fun r hr => hm r (by simp [hr])) fun k m i' j' r1 r2 hkm h1 h2 h3 h4 => h (k + 1) (m + 1) i' j' r1 r2 (by omega) (by simpa using h1) (by simpa using h2) (by simpa using h3) (by simpa using h4)⟩
      obtain ⟨m, hm⟩ := List.getElem?_of_mem hx
      rw [List.getElem?_zip_eq_some] at hm
      exact h 0 (m + 1) i x.1 r x.2 (by omega) rfl (by simpa using hm.1) rfl (by simpa using hm.2)

theorem pairsOk_spec (rs : List Rec) : ∀ (ps : List (Nat × Nat)), pairsOk rs ps = true → ∀ i j, (i, j) ∈ ps → ∃ a b, rs[i]? = some a ∧ rs[j]? = some b ∧ IndepP a b := by
  intro ps
  induction ps with
  | nil => intro _ i j h; simp at h
  | cons p ps ih =>
    obtain ⟨x, y⟩ := p
    intro h i j hm
    simp only [pairsOk, Bool.and_eq_true] at h
    obtain ⟨h1, h2⟩ := h
    simp only [List.mem_cons, Prod.mk.injEq] at hm
    rcases hm with ⟨rfl, rfl⟩ | hm
    · split at h1
      · rename_i a b ha hb; exact ⟨a, b, ha, hb, indep_spec h1⟩
      · cases h1
    · exact ih h2 i j hm

theorem runOps_recmono {E : Env} {call : CallF} {ops : Array Oper} {base : Nat} : ∀ (l : List Nat) (fr : List Value) (σ : St) (rs : List Rec) (frf : List Value) (σf : St), runOps E call ops.toList base l fr σ = some (rs, frf, σf) → ∀ r ∈ rs, RecMono r := by
  intro l
  induction l with
  | nil => intro fr σ rs frf σf h; simp [runOps] at h; obtain ⟨rfl, _, _⟩ := h; simp
  | cons j l ih =>
    intro fr σ rs frf σf h
    obtain ⟨r, fr1, σ1, rs', hs, hr, rfl⟩ := runOps_cons h
    intro x hx
    simp only [List.mem_cons] at hx
    rcases hx with rfl | hx
    · exact step1_recmono hs
    · exact ih fr1 σ1 rs' frf σf hr x hx

/-- The whole region in the order of the text: any two of its steps are ordered by the text, or have nothing to do with each other. -/
theorem region_far {E : Env} {call : CallF} {ops : Array Oper} {ps : List (Nat × Nat)} {base : Nat} (hd : drawOk E.P ops ps = true) {fr frf : List Value} {σ σf : St} {rs : List Rec}
    (h : runOps E call ops.toList base (List.range ops.size) fr σ = some (rs, frf, σf)) (hp : pairsOk rs ps = true) : Far ops ((List.range ops.size).zip rs) := by
  obtain ⟨hlen, hok⟩ := runOps_ok _ _ _ _ _ _ h
  unfold drawOk at hd
  simp only [Bool.and_eq_true] at hd
  obtain ⟨_, hd⟩ := hd
  refine far_of ops _ _ (runOps_recmono _ _ _ _ _ _ h) fun k m i j r r' hkm hk hm hr hr' => ?_
  have hk' : k = i ∧ k < ops.size := by
    have := (List.getElem?_eq_some_iff.1 hk); obtain ⟨h1, h2⟩ := this; simp at h1 h2; omega
  have hm' : m = j ∧ m < ops.size := by
    have := (List.getElem?_eq_some_iff.1 hm); obtain ⟨h1, h2⟩ := this; simp at h1 h2; omega
  obtain ⟨rfl, hks⟩ := hk'
  obtain ⟨rfl, hms⟩ := hm'
  have h1 := List.all_eq_true.1 hd m (by simp; exact hms)
  have h2 := List.all_eq_true.1 h1 k (by simp; exact hkm)
  unfold pairOk at h2
  split at h2
  · rename_i x y hx hy
    simp only [Bool.or_eq_true, Bool.and_eq_true] at h2
    rcases h2 with h2 | ⟨hap, h2⟩
    · left
      refine closFrom_spec ops ops.toList [] (fun k => by simp) (fun j i hb => by simp at hb) m k h2
    · right
      refine ⟨x, y, hx, hy, hap, ?_⟩
      rcases h2 with h2 | h2
      · exact harmless_indep hx hy h2 (hok k k r hk hr) (hok m m r' hm hr')
      · obtain ⟨a, b, ha, hb, hi⟩ := pairsOk_spec rs ps hp k m (by simpa using h2)
        rw [hr] at ha; rw [hr'] at hb
        cases ha; cases hb
        exact hi
  · cases h2

/-! ### One more block on the heap -/

section
variable {E : Env} {call : CallF} {n : Nat} {x : Option Blk}

theorem step1_mono (hmono : Mono call) {ops : Array Oper} {base i : Nat} {fr fr' : List Value} {σ σ' : St} {r : Rec} (h : step1 E call ops.toList base i fr σ = some (r, fr', σ')) (hn : σ.heap.get n = none) (hlt : n < σ.next) (hb : n < base) :
    σ'.heap.get n = none ∧ σ.next ≤ σ'.next ∧ ∃ r', step1 E call ops.toList base i fr ⟨σ.heap.set n x, σ.next⟩ = some (r', fr', ⟨σ'.heap.set n x, σ'.next⟩) ∧ Grown n x r r' := by
  obtain ⟨q1, q2⟩ := step1_fresh hmono h hn hlt (by omega)
  refine ⟨q1, q2, ?_⟩
  cases r with
  | quiet =>
    obtain ⟨o, ho, hw, rfl, rfl⟩ := step1_quiet h
    exact ⟨_, mk_quiet ho hw, trivial⟩
  | mem f e =>
    obtain ⟨o, ho, hw, hc, rfl, he, rfl, rfl⟩ := step1_mem h
    have hk := evOp_keys he
    have hnk : n ∉ e.upd.map (·.1) := by
      intro hb
      rcases hk n hb with h | h
      · omega
      · exact h hn
    refine ⟨.mem (fun g => evOp E (Opd fr) (base + i) g o) e, ?_, ⟨rfl, rfl⟩⟩
    have := mk_mem (E := E) (call := call) (base := base) (σ := ⟨σ.heap.set n x, σ.next⟩) ho hw hc (evOp_mono (set_ext hn) he)
    rw [this]
    simp only
    rw [upds_set _ _ _ _ hnk]
  | call b a =>
    obtain ⟨o, f, args, fid, as, v, ho, hw, hc, hce, hcl, rfl, rfl, rfl⟩ := step1_call h
    obtain ⟨m1, m2, m3⟩ := hmono _ _ _ _ _ n x hn hlt hcl
    exact ⟨_, mk_call ho hw hc hce m3, hn, m1, rfl, rfl⟩

inductive GrownL (n : Nat) (x : Option Blk) : List Rec → List Rec → Prop
  | nil : GrownL n x [] []
  | cons {r r' : Rec} {rs rs' : List Rec} (h : Grown n x r r') (hm : RecMono r) (ht : GrownL n x rs rs') : GrownL n x (r :: rs) (r' :: rs')

theorem GrownL.get {rs rs' : List Rec} (h : GrownL n x rs rs') : ∀ (i : Nat) (r : Rec), rs[i]? = some r → ∃ r', rs'[i]? = some r' ∧ Grown n x r r' ∧ RecMono r := by
  induction h with
  | nil => intro i r h; simp at h
  | cons hg hm ht ih =>
    intro i r hr
    cases i with
    | zero => simp at hr; subst hr; exact ⟨_, rfl, hg, hm⟩
    | succ i => exact ih i r (by simpa using hr)

theorem runOps_mono (hmono : Mono call) {ops : Array Oper} {base : Nat} (hb : n < base) : ∀ (l : List Nat) (fr : List Value) (σ : St) (rs : List Rec) (frf : List Value) (σf : St), runOps E call ops.toList base l fr σ = some (rs, frf, σf) → σ.heap.get n = none → n < σ.next →
    σf.heap.get n = none ∧ σ.next ≤ σf.next ∧ ∃ rs', runOps E call ops.toList base l fr ⟨σ.heap.set n x, σ.next⟩ = some (rs', frf, ⟨σf.heap.set n x, σf.next⟩) ∧ GrownL n x rs rs' := by
  intro l
  induction l with
  | nil =>
    intro fr σ rs frf σf h hn hlt
    simp [runOps] at h
    obtain ⟨rfl, rfl, rfl⟩ := h
    exact ⟨hn, Nat.le_refl _, [], rfl, .nil⟩
  | cons j l ih =>
    intro fr σ rs frf σf h hn hlt
    obtain ⟨r, fr1, σ1, rs1, hs, hr, rfl⟩ := runOps_cons h
    obtain ⟨q1, q2, r', hs', hg⟩ := step1_mono (x := x) hmono hs hn hlt hb
    obtain ⟨p1, p2, rs', hr', hgl⟩ := ih fr1 σ1 rs1 frf σf hr q1 (by omega)
    exact ⟨p1, by omega, _, mk_runOps hs' hr', .cons hg (step1_recmono hs) hgl⟩

theorem effSame_mono {e : Eff} {g g' : Nat → Option Blk} {f : (Nat → Option Blk) → Option Eff} (hm : RecMono (.mem f e)) (hg : ∀ b x, g b = some x → g' b = some x) (h : effSame e (f g) = true) : effSame e (f g') = true := by
  cases hf : f g with
  | none => rw [hf] at h; cases h
  | some e' => rw [hm g g' hg e' hf, ← hf]; exact h

theorem indep_grown {r1 r2 r1' r2' : Rec} (h : indep r1 r2 = true) (g1 : Grown n x r1 r1') (g2 : Grown n x r2 r2') (m1 : RecMono r1) (m2 : RecMono r2) : indep r1' r2' = true := by
  cases r1 <;> cases r1' <;> simp only [Grown] at g1 <;> cases r2 <;> cases r2' <;> simp only [Grown] at g2
  all_goals try rfl
  · obtain ⟨rfl, rfl⟩ := g1; obtain ⟨rfl, rfl⟩ := g2; exact h
  · obtain ⟨rfl, rfl⟩ := g1
    obtain ⟨b1, b2, rfl, rfl⟩ := g2
    simp only [indep, Bool.and_eq_true] at h ⊢
    exact ⟨h.1, effSame_mono m1 (set_ext b1) h.2.1, effSame_mono m1 (set_ext b2) h.2.2⟩
  · obtain ⟨rfl, rfl⟩ := g2
    obtain ⟨b1, b2, rfl, rfl⟩ := g1
    simp only [indep, Bool.or_eq_true, Bool.and_eq_true] at h ⊢
    exact h.imp id fun h => ⟨h.1, effSame_mono m2 (set_ext b1) h.2.1, effSame_mono m2 (set_ext b2) h.2.2⟩
  · cases h

theorem pairsOk_grown {rs rs' : List Rec} (hg : GrownL n x rs rs') : ∀ (ps : List (Nat × Nat)), pairsOk rs ps = true → pairsOk rs' ps = true := by
  intro ps
  induction ps with
  | nil => intro _; rfl
  | cons p ps ih =>
    obtain ⟨i, j⟩ := p
    intro h
    simp only [pairsOk, Bool.and_eq_true] at h ⊢
    refine ⟨?_, ih h.2⟩
    have h1 := h.1
    split at h1
    · rename_i a b ha hb
      obtain ⟨a', ha', g1, m1⟩ := hg.get i a ha
      obtain ⟨b', hb', g2, m2⟩ := hg.get j b hb
      rw [ha', hb']
      exact indep_grown h1 g1 g2 m1 m2
    · cases h1

theorem evRegion_mono (hmono : Mono call) {ps : List (Nat × Nat)} {ops : Array Oper} {fr frf : List Value} {σ σf : St} (h : evRegion E call ps ops.toList fr σ = some (frf, σf)) (hn : σ.heap.get n = none) (hlt : n < σ.next) :
    σf.heap.get n = none ∧ σ.next ≤ σf.next ∧ evRegion E call ps ops.toList fr ⟨σ.heap.set n x, σ.next⟩ = some (frf, ⟨σf.heap.set n x, σf.next⟩) := by
  unfold evRegion at h ⊢
  split at h
  case h_2 => cases h
  rename_i rs fr' σ' hrun
  split at h
  case isFalse => cases h
  rename_i hp
  cases h
  obtain ⟨q1, q2, rs', hr', hg⟩ := runOps_mono (x := x) hmono hlt _ _ _ _ _ _ hrun hn (by simp only; omega)
  simp only at hr' q2
  refine ⟨q1, by omega, ?_⟩
  rw [hr']
  simp only [pairsOk_grown hg ps hp, if_true]

/-- What is shown of code. -/
def CMono (E : Env) (n : Nat) (x : Option Blk) (f : List Value → St → Out) : Prop :=
  ∀ (fr : List Value) (σ : St) (e : Ex) (frf : List Value) (σf : St), f fr σ = some (e, frf, σf) → σ.heap.get n = none → n < σ.next →
    σf.heap.get n = none ∧ σ.next ≤ σf.next ∧ f fr ⟨σ.heap.set n x, σ.next⟩ = some (e, frf, ⟨σf.heap.set n x, σf.next⟩)

theorem thenC_mono {a b : List Value → St → Out} (ha : CMono E n x a) (hb : CMono E n x b) : CMono E n x fun fr σ => thenC (a fr σ) b := by
  intro fr σ e frf σf h hn hlt
  simp only [thenC] at h ⊢
  split at h
  · rename_i fr1 σ1 h1
    obtain ⟨q1, q2, q3⟩ := ha _ _ _ _ _ h1 hn hlt
    obtain ⟨p1, p2, p3⟩ := hb _ _ _ _ _ h q1 (by omega)
    rw [q3]
    exact ⟨p1, by omega, p3⟩
  · rename_i hne
    obtain ⟨q1, q2, q3⟩ := ha _ _ _ _ _ h hn hlt
    refine ⟨q1, q2, ?_⟩
    rw [q3]
    cases e with
    | normal => exact absurd h (hne frf σf)
    | _ => rfl

theorem iter_mono {f : List Value → St → Out} (hf : CMono E n x f) : ∀ k, CMono E n x (iter f k) := by
  intro k
  induction k with
  | zero => intro fr σ e frf σf h; cases h
  | succ k ih =>
    intro fr σ e frf σf h hn hlt
    simp only [iter] at h ⊢
    split at h
    · rename_i fr1 σ1 h1
      obtain ⟨q1, q2, q3⟩ := hf _ _ _ _ _ h1 hn hlt
      obtain ⟨p1, p2, p3⟩ := ih _ _ _ _ _ h q1 (by omega)
      rw [q3]
      exact ⟨p1, by omega, p3⟩
    · rename_i hne
      obtain ⟨q1, q2, q3⟩ := hf _ _ _ _ _ h hn hlt
      refine ⟨q1, q2, ?_⟩
      rw [q3]
      cases e with
      | normal => exact absurd h (hne frf σf)
      | _ => rfl

theorem hop_mono {has : Nat → Bool} {f : Option Nat → List Value → St → Out} (hf : ∀ en, CMono E n x (f en)) : ∀ k en, CMono E n x (hop has f k en) := by
  intro k
  induction k with
  | zero => intro en fr σ e frf σf h; cases h
  | succ k ih =>
    intro en fr σ e frf σf h hn hlt
    simp only [hop] at h ⊢
    split at h
    · rename_i l fr1 σ1 h1
      obtain ⟨q1, q2, q3⟩ := hf en _ _ _ _ _ h1 hn hlt
      rw [q3]
      simp only
      split at h
      · rename_i hl
        obtain ⟨p1, p2, p3⟩ := ih _ _ _ _ _ _ h q1 (by omega)
        rw [if_pos hl]
        exact ⟨p1, by omega, p3⟩
      · rename_i hl
        cases h
        rw [if_neg hl]
        exact ⟨q1, q2, rfl⟩
    · rename_i hne
      obtain ⟨q1, q2, q3⟩ := hf en _ _ _ _ _ h hn hlt
      refine ⟨q1, q2, ?_⟩
      rw [q3]
      cases e with
      | goto l => exact absurd h (hne l frf σf)
      | _ => rfl

theorem evC_mono (hmono : Mono call) {k : Nat} {fid : FuncId} : ∀ (c : Code) (en : Option Nat), CMono E n x (evC E call k fid c en)
  | .skip, none => by intro fr σ e frf σf h hn hlt; cases h; exact ⟨hn, Nat.le_refl _, rfl⟩
  | .skip, some l => by intro fr σ e frf σf h; simp [evC] at h
  | .label l', none => by intro fr σ e frf σf h hn hlt; cases h; exact ⟨hn, Nat.le_refl _, rfl⟩
  | .label l', some l => by
    intro fr σ e frf σf h hn hlt
    simp only [evC] at h ⊢
    split at h
    · rename_i hl; cases h; rw [if_pos hl]; exact ⟨hn, Nat.le_refl _, rfl⟩
    · cases h
  | .exit id, none => by intro fr σ e frf σf h hn hlt; cases h; exact ⟨hn, Nat.le_refl _, rfl⟩
  | .exit id, some l => by intro fr σ e frf σf h; simp [evC] at h
  | .goto id, none => by intro fr σ e frf σf h hn hlt; cases h; exact ⟨hn, Nat.le_refl _, rfl⟩
  | .goto id, some l => by intro fr σ e frf σf h; simp [evC] at h
  | .ret, none => by intro fr σ e frf σf h hn hlt; cases h; exact ⟨hn, Nat.le_refl _, rfl⟩
  | .ret, some l => by intro fr σ e frf σf h; simp [evC] at h
  | .rangeFunc .., en => by intro fr σ e frf σf h; cases en <;> simp [evC] at h
  | .refuse _, en => by intro fr σ e frf σf h; cases en <;> simp [evC] at h
  | .region id ops draw, some l => by intro fr σ e frf σf h; simp [evC] at h
  | .region id ops draw, none => by
    intro fr σ e frf σf h hn hlt
    simp only [evC] at h ⊢
    split at h
    · rename_i fr1 σ1 h1
      cases h
      obtain ⟨q1, q2, q3⟩ := evRegion_mono (x := x) hmono h1 hn hlt
      rw [q3]
      exact ⟨q1, q2, rfl⟩
    · cases h
  | .seq a b, none => by
    intro fr σ e frf σf h hn hlt
    simp only [evC] at h ⊢
    exact thenC_mono (evC_mono hmono a none) (evC_mono hmono b none) _ _ _ _ _ h hn hlt
  | .seq a b, some l => by
    intro fr σ e frf σf h hn hlt
    simp only [evC] at h ⊢
    split at h
    · rename_i hl
      rw [if_pos hl]
      exact thenC_mono (evC_mono hmono a (some l)) (evC_mono hmono b none) _ _ _ _ _ h hn hlt
    · rename_i hl
      rw [if_neg hl]
      exact evC_mono hmono b (some l) _ _ _ _ _ h hn hlt
  | .cond c a b, some l => by intro fr σ e frf σf h; simp [evC] at h
  | .cond c a b, none => by
    intro fr σ e frf σf h hn hlt
    simp only [evC] at h ⊢
    split at h
    · split at h
      · rename_i ht; rw [if_pos ht]; exact evC_mono hmono a none _ _ _ _ _ h hn hlt
      · rename_i ht; rw [if_neg ht]; exact evC_mono hmono b none _ _ _ _ _ h hn hlt
    · cases h
  | .block id c, some l => by intro fr σ e frf σf h; simp [evC] at h
  | .block id c, none => by
    intro fr σ e frf σf h hn hlt
    simp only [evC] at h ⊢
    split at h
    · rename_i id' fr1 σ1 h1
      obtain ⟨q1, q2, q3⟩ := evC_mono hmono c none _ _ _ _ _ h1 hn hlt
      rw [q3]
      simp only
      split at h
      · rename_i hi; cases h; rw [if_pos hi]; exact ⟨q1, q2, rfl⟩
      · rename_i hi; cases h; rw [if_neg hi]; exact ⟨q1, q2, rfl⟩
    · rename_i hne
      obtain ⟨q1, q2, q3⟩ := evC_mono hmono c none _ _ _ _ _ h hn hlt
      refine ⟨q1, q2, ?_⟩
      rw [q3]
      cases e with
      | exit l => exact absurd h (hne l frf σf)
      | _ => rfl
  | .loop c, some l => by intro fr σ e frf σf h; simp [evC] at h
  | .loop c, none => by
    intro fr σ e frf σf h hn hlt
    simp only [evC] at h ⊢
    exact iter_mono (evC_mono hmono c none) k _ _ _ _ _ h hn hlt
  | .scope c, some l => by intro fr σ e frf σf h; simp [evC] at h
  | .scope c, none => by
    intro fr σ e frf σf h hn hlt
    simp only [evC] at h ⊢
    exact hop_mono (fun en => evC_mono hmono c en) k none _ _ _ _ _ h hn hlt

theorem resV_mono {fr : List Value} {σ : St} (hn : σ.heap.get n = none) : ∀ (l : List ResultVar) (vs : List Value), resV E fr σ l = some vs → resV E fr ⟨σ.heap.set n x, σ.next⟩ l = some vs := by
  intro l
  induction l with
  | nil => intro vs h; exact h
  | cons r l ih =>
    intro vs h
    cases r with
    | tmp t =>
      simp only [resV, Option.map_eq_some_iff] at h ⊢
      obtain ⟨a, ha, rfl⟩ := h
      exact ⟨a, ih a ha, rfl⟩
    | cell a t =>
      simp only [resV] at h ⊢
      split at h
      · rename_i e l' he hl
        cases h
        rw [evLoad_mono (set_ext hn) he, ih _ hl]
      · cases h

theorem evBody_mono (hmono : Mono call) {k : Nat} {f : FuncId} {fn : Func} {c : Code} {args : List Value} {σ σ' : St} {v : Value} (h : evBody E call k f fn c args σ = some (v, σ')) (hn : σ.heap.get n = none) (hlt : n < σ.next) :
    σ'.heap.get n = none ∧ σ.next ≤ σ'.next ∧ evBody E call k f fn c args ⟨σ.heap.set n x, σ.next⟩ = some (v, ⟨σ'.heap.set n x, σ'.next⟩) := by
  have hres : ∀ {fr : List Value} {σ1 : St}, σ1.heap.get n = none → (resOf E fn fr σ1).map (fun v => (v, σ1)) = some (v, σ') → σ1 = σ' ∧ (resOf E fn fr ⟨σ1.heap.set n x, σ1.next⟩).map (fun v => (v, (⟨σ1.heap.set n x, σ1.next⟩ : St))) = some (v, ⟨σ'.heap.set n x, σ'.next⟩) := by
    intro fr σ1 hn1 h
    simp only [Option.map_eq_some_iff] at h
    obtain ⟨u, hu, he⟩ := h
    simp only [Prod.mk.injEq] at he
    obtain ⟨rfl, rfl⟩ := he
    refine ⟨rfl, ?_⟩
    have : resOf E fn fr ⟨σ1.heap.set n x, σ1.next⟩ = some u := by
      unfold resOf at hu ⊢
      cases hl : resV E fr σ1 fn.results.toList with
      | none => rw [hl] at hu; cases hu
      | some l => rw [resV_mono (x := x) hn1 _ _ hl, ← hl]; exact hu
    rw [this]
    rfl
  unfold evBody at h ⊢
  split at h
  · rename_i fr1 σ1 h1
    obtain ⟨q1, q2, q3⟩ := evC_mono (x := x) hmono c none _ _ _ _ _ h1 hn hlt
    obtain ⟨rfl, p⟩ := hres q1 h
    rw [q3]
    exact ⟨q1, q2, p⟩
  · rename_i fr1 σ1 h1
    obtain ⟨q1, q2, q3⟩ := evC_mono (x := x) hmono c none _ _ _ _ _ h1 hn hlt
    obtain ⟨rfl, p⟩ := hres q1 h
    rw [q3]
    exact ⟨q1, q2, p⟩
  · cases h
end
end Go.Ab
