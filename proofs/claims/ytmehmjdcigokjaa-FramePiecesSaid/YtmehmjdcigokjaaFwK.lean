/- Regions in the model. -/
import Derived.Test.YtmehmjdcigokjaaFwJ
set_option linter.all false
open Go.RowKit
namespace Go.Ab

theorem kind_none {P : Program} {o : Oper} (h : kind P o = 0 ∨ kind P o = 1) : callOf o = none := by
  unfold callOf
  split
  · rename_i f args ats ho
    unfold kind at h
    rw [ho] at h
    simp at h
  · rfl

theorem kind_eff {E : Env} {g : Nat → Option Blk} {nid : Nat} {ρ : Operand → Value} {o : Oper} {e : Eff} (h : evOp E ρ nid g o = some e) :
    (kind E.P o = 0 → e.upd = [] ∧ e.rds = []) ∧ (kind E.P o = 1 → e.upd = []) := by
  obtain ⟨dst, op, ty, pos, after, guard⟩ := o
  cases op
  case move x => cases (show (some (⟨ρ x, [], []⟩ : Eff) = some e) from h); simp
  case assign x => cases (show (some (⟨ρ x, [], []⟩ : Eff) = some e) from h); simp
  case pick c a b =>
    simp only [evOp] at h
    split at h <;> cases h <;> simp
  case alloc t => simp [kind]
  case box t x => simp [kind]
  case build t ps =>
    simp only [evOp, Option.map_eq_some_iff] at h
    obtain ⟨v, _, rfl⟩ := h
    simp
  case buildSlice t n ps => simp [kind]
  case load t a =>
    refine ⟨fun hk => by simp [kind] at hk, fun _ => ?_⟩
    have h' : evLoad E g t (ρ a) = some e := h
    unfold evLoad at h'
    split at h'
    · split at h'
      · split at h'
        · split at h'
          · cases h'; rfl
          · cases h'
        · cases h'
      · split at h'
        · cases h'; rfl
        · cases h'
      · cases h'
    · cases h'
  case store t a x => simp [kind]
  case nilCheck x =>
    simp only [evOp] at h
    split at h <;> cases h <;> simp
  case binOp op t x y t' =>
    simp only [evOp, Option.map_eq_some_iff] at h
    obtain ⟨v, _, rfl⟩ := h
    simp
  case unOp op t x =>
    simp only [evOp] at h
    split at h
    · simp only [Option.map_eq_some_iff] at h
      obtain ⟨v, _, rfl⟩ := h
      simp
    · cases h
  case convert src dst x =>
    have h' : evConvert E g nid src dst (ρ x) = some e := h
    refine ⟨fun hk => ?_, fun hk => ?_⟩
    · unfold evConvert at h'
      simp only [kind] at hk
      have hsl : isSl E.P src = false ∧ isSl E.P dst = false := by
        constructor
        · cases hq : isSl E.P src <;> simp [hq] at hk ⊢
        · cases hq : isSl E.P dst <;> simp [hq] at hk ⊢
      obtain ⟨q1, q2⟩ := hsl
      unfold isSl at q1 q2
      split at h'
      · simp_all
      · simp_all
      · simp_all
      · simp_all
      · split at h'
        · simp only [Option.map_eq_some_iff] at h'
          obtain ⟨v, _, rfl⟩ := h'
          simp
        · cases h'
      · cases h'
    · simp only [kind] at hk
      split at hk <;> simp at hk
  case makeFunc fn f c => cases (show (some (⟨.func fn (f.map ρ) (c.map ρ), [], []⟩ : Eff) = some e) from h); simp
  case makeSlice t l c => simp [kind]
  case slice t x lo hi mx =>
    have h' : evSlice E g t (ρ x) (lo.map ρ) (hi.map ρ) (mx.map ρ) = some e := h
    refine ⟨fun hk => ?_, fun _ => ?_⟩
    · simp only [kind] at hk
      have q1 : isSl E.P t = false := by cases hq : isSl E.P t <;> simp [hq] at hk ⊢
      unfold isSl at q1
      unfold evSlice at h'
      split at h'
      · split at h'
        · split at h'
          · cases h'; simp
          · cases h'
        · cases h'
      · simp_all
      · simp_all
      · split at h'
        · split at h'
          · cases h'; simp
          · cases h'
        · cases h'
      · cases h'
    · unfold evSlice at h'
      split at h'
      · split at h'
        · split at h'
          · cases h'; rfl
          · cases h'
        · cases h'
      · split at h'
        · split at h'
          · cases h'; rfl
          · cases h'
        · cases h'
      · split at h'
        · split at h'
          · split at h'
            · split at h'
              · cases h'; rfl
              · cases h'
            · cases h'
          · cases h'
        · split at h'
          · split at h'
            · split at h'
              · split at h'
                · cases h'; rfl
                · cases h'
              · cases h'
            · cases h'
          · cases h'
        · cases h'
      · split at h'
        · split at h'
          · cases h'; rfl
          · cases h'
        · cases h'
      · cases h'
  case fieldAddr t x f =>
    simp only [evOp, Option.map_eq_some_iff] at h
    obtain ⟨v, _, rfl⟩ := h
    simp
  case field t x f =>
    simp only [evOp, Option.map_eq_some_iff] at h
    obtain ⟨v, _, rfl⟩ := h
    simp
  case indexAddr t x i =>
    simp only [evOp, Option.map_eq_some_iff] at h
    obtain ⟨v, _, rfl⟩ := h
    simp
  case index t x i =>
    simp only [evOp, Option.map_eq_some_iff] at h
    obtain ⟨v, _, rfl⟩ := h
    simp
  case extract x i =>
    simp only [evOp] at h
    split at h
    · simp only [Option.map_eq_some_iff] at h
      obtain ⟨v, _, rfl⟩ := h
      simp
    · cases h
  case call c =>
    obtain ⟨callee, args, argTypes⟩ := c
    cases callee with
    | value f => exact absurd h (by simp [evOp])
    | invoke r m => exact absurd h (by simp [evOp])
    | builtin b =>
      have h' : evBuiltin E g nid b argTypes ty (args.toList.map ρ) = some e := h
      refine ⟨fun hk => ?_, fun hk => ?_⟩
      · unfold evBuiltin at h'
        split at h'
        · simp [kind] at hk
        · simp [kind] at hk
        · simp [kind] at hk
        · simp only [Option.map_eq_some_iff] at h'
          obtain ⟨v, _, rfl⟩ := h'
          simp
        · split at h'
          · simp only [Option.map_eq_some_iff] at h'
            obtain ⟨v, _, rfl⟩ := h'
            simp
          · cases h'
        · split at h'
          · simp only [Option.map_eq_some_iff] at h'
            obtain ⟨v, _, rfl⟩ := h'
            simp
          · cases h'
        · cases h'
      · simp only [kind] at hk
        split at hk <;> simp at hk
  all_goals exact absurd h (by simp [evOp])

def RecOk (E : Env) (ops : Array Oper) (i : Nat) : Rec → Prop
  | .quiet => True
  | .mem f e => ∃ o ρ nid g, ops[i]? = some o ∧ f = (fun g => evOp E ρ nid g o) ∧ evOp E ρ nid g o = some e
  | .call _ _ => ∃ o, ops[i]? = some o ∧ callOf o ≠ none

theorem step1_ok {E : Env} {call : CallF} {ops : Array Oper} {base i : Nat} {fr fr' : List Value} {σ σ' : St} {r : Rec} (h : step1 E call ops.toList base i fr σ = some (r, fr', σ')) : RecOk E ops i r := by
  cases r with
  | quiet => trivial
  | mem f e =>
    obtain ⟨o, ho, _, _, hf, he, _⟩ := step1_mem h
    exact ⟨o, Opd fr, base + i, σ.heap.get, ho, hf, by rw [hf] at he; exact he⟩
  | call b a =>
    obtain ⟨o, f, args, _, _, _, ho, _, hc, _⟩ := step1_call h
    exact ⟨o, ho, by rw [hc]; simp⟩

theorem runOps_ok {E : Env} {call : CallF} {ops : Array Oper} {base : Nat} : ∀ (l : List Nat) (fr : List Value) (σ : St) (rs : List Rec) (frf : List Value) (σf : St), runOps E call ops.toList base l fr σ = some (rs, frf, σf) →
    rs.length = l.length ∧ ∀ (k i : Nat) (r : Rec), l[k]? = some i → rs[k]? = some r → RecOk E ops i r := by
  intro l
  induction l with
  | nil => intro fr σ rs frf σf h; simp [runOps] at h; obtain ⟨rfl, _, _⟩ := h; simp
  | cons j l ih =>
    intro fr σ rs frf σf h
    obtain ⟨r, fr1, σ1, rs', hs, hr, rfl⟩ := runOps_cons h
    obtain ⟨h1, h2⟩ := ih fr1 σ1 rs' frf σf hr
    refine ⟨by simp [h1], ?_⟩
    intro k i r' hk hr'
    cases k with
    | zero => simp at hk hr'; subst hk; subst hr'; exact step1_ok hs
    | succ k => exact h2 k i r' (by simpa using hk) (by simpa using hr')

theorem harmless_indep {E : Env} {ops : Array Oper} {i j : Nat} {oi oj : Oper} (hi : ops[i]? = some oi) (hj : ops[j]? = some oj) (h : harmless E.P oi oj = true) {r r' : Rec} (hr : RecOk E ops i r) (hr' : RecOk E ops j r') : IndepP r r' := by
  have facts : ∀ {k : Nat} {o : Oper} {f : (Nat → Option Blk) → Option Eff} {e : Eff}, ops[k]? = some o → RecOk E ops k (.mem f e) → (kind E.P o = 0 → e.upd = [] ∧ e.rds = [] ∧ ∀ g, f g = some e) ∧ (kind E.P o = 1 → e.upd = []) := by
    intro k o f e ho ⟨o', ρ, nid, g, ho', hf, he⟩
    rw [ho] at ho'; cases ho'
    obtain ⟨h0, h1⟩ := kind_eff he
    refine ⟨fun hk => ?_, h1⟩
    obtain ⟨q1, q2⟩ := h0 hk
    refine ⟨q1, q2, fun g' => ?_⟩
    rw [hf]
    exact evOp_local he (fun b hb => by rw [q2] at hb; simp at hb)
  have nocall : ∀ {k : Nat} {o : Oper} {b a : St}, ops[k]? = some o → RecOk E ops k (.call b a) → kind E.P o ≠ 0 ∧ kind E.P o ≠ 1 := by
    intro k o b a ho ⟨o', ho', hc⟩
    rw [ho] at ho'; cases ho'
    exact ⟨fun h => hc (kind_none (.inl h)), fun h => hc (kind_none (.inr h))⟩
  unfold harmless at h
  simp only [Bool.or_eq_true, beq_iff_eq, Bool.and_eq_true] at h
  cases r with
  | quiet => trivial
  | mem f e =>
    have fi := facts hi hr
    cases r' with
    | quiet => trivial
    | mem f' e' =>
      have fj := facts hj hr'
      rcases h with (h | h) | ⟨h, h'⟩
      · obtain ⟨q1, q2, _⟩ := fi.1 h; simp [IndepP, q1, q2]
      · obtain ⟨q1, q2, _⟩ := fj.1 h; simp [IndepP, q1, q2]
      · have q1 := fi.2 h; have q2 := fj.2 h'; simp [IndepP, q1, q2]
    | call b a =>
      have nj := nocall hj hr'
      rcases h with (h | h) | ⟨h, h'⟩
      · obtain ⟨q1, q2, q3⟩ := fi.1 h; exact ⟨q1, q3 _, q3 _⟩
      · exact absurd h nj.1
      · exact absurd h' nj.2
  | call b a =>
    have ni := nocall hi hr
    cases r' with
    | quiet => trivial
    | mem f' e' =>
      have fj := facts hj hr'
      rcases h with (h | h) | ⟨h, h'⟩
      · exact absurd h ni.1
      · obtain ⟨q1, q2, q3⟩ := fj.1 h; exact ⟨q1, q3 _, q3 _⟩
      · exact absurd h ni.2
    | call b' a' =>
      rcases h with (h | h) | ⟨h, h'⟩
      · exact absurd h ni.1
      · exact absurd h (nocall hj hr').1
      · exact absurd h ni.2

theorem far_of (ops : Array Oper) : ∀ (l : List Nat) (rs : List Rec), (∀ (k m i j : Nat) (r r' : Rec), k < m → l[k]? = some i → l[m]? = some j → rs[k]? = some r → rs[m]? = some r' →
    Anc ops i j ∨ (∃ oi oj, ops[i]? = some oi ∧ ops[j]? = some oj ∧ oi.apart ops oj = true ∧ IndepP r r')) → Far ops (l.zip rs) := by
  intro l
  induction l with
  | nil => intro rs _; simp [Far]
  | cons i l ih =>
    intro rs h
    cases rs with
    | nil => simp [Far]
    | cons r rs =>
      simp only [List.zip_cons_cons, Far]
      refine ⟨fun x hx => ?_, ih rs fun k m i' j' r1 r2 hkm h1 h2 h3 h4 => h (k + 1) (m + 1) i' j' r1 r2 (by omega) (by simpa using h1) (by simpa using h2) (by simpa using h3) (by simpa using h4)⟩
      obtain ⟨m, hm⟩ := List.getElem?_of_mem hx
      rw [List.getElem?_zip_eq_some] at hm
      exact h 0 (m + 1) i x.1 r x.2 (by omega) rfl (by simpa using hm.1) rfl (by simpa using hm.2)

theorem pairsOk_spec (rs : List Rec) : ∀ (ps : List (Nat × Nat)), pairsOk rs ps = true → ∀ i j, (i, j) ∈ ps → ∃ a b, rs[i]? = some a ∧ rs[j]? = some b ∧ IndepP a b := by
  intro ps
  induction ps with
  | nil => intro _ i j h; simp at h
  | cons p ps ih =>
    obtain ⟨x, y⟩ := p
    intro h i j hm
    simp only [pairsOk, Bool.and_eq_true] at h
    obtain ⟨h1, h2⟩ := h
    simp only [List.mem_cons, Prod.mk.injEq] at hm
    rcases hm with ⟨rfl, rfl⟩ | hm
    · split at h1
      · rename_i a b ha hb; exact ⟨a, b, ha, hb, indep_spec h1⟩
      · cases h1
    · exact ih h2 i j hm

/-- The whole region in the order of the text: any two of its steps are ordered by the text, or have nothing to do with each other. -/
theorem region_far {E : Env} {call : CallF} {ops : Array Oper} {ps : List (Nat × Nat)} {base : Nat} (hd : drawOk E.P ops ps = true) {fr frf : List Value} {σ σf : St} {rs : List Rec}
    (h : runOps E call ops.toList base (List.range ops.size) fr σ = some (rs, frf, σf)) (hp : pairsOk rs ps = true) : Far ops ((List.range ops.size).zip rs) := by
  obtain ⟨hlen, hok⟩ := runOps_ok _ _ _ _ _ _ h
  unfold drawOk at hd
  simp only [Bool.and_eq_true] at hd
  obtain ⟨_, hd⟩ := hd
  refine far_of ops _ _ fun k m i j r r' hkm hk hm hr hr' => ?_
  have hk' : k = i ∧ k < ops.size := by
    have := (List.getElem?_eq_some_iff.1 hk); obtain ⟨h1, h2⟩ := this; simp at h1 h2; omega
  have hm' : m = j ∧ m < ops.size := by
    have := (List.getElem?_eq_some_iff.1 hm); obtain ⟨h1, h2⟩ := this; simp at h1 h2; omega
  obtain ⟨rfl, hks⟩ := hk'
  obtain ⟨rfl, hms⟩ := hm'
  have h1 := List.all_eq_true.1 hd m (by simp; exact hms)
  have h2 := List.all_eq_true.1 h1 k (by simp; exact hkm)
  unfold pairOk at h2
  split at h2
  · rename_i x y hx hy
    simp only [Bool.or_eq_true, Bool.and_eq_true] at h2
    rcases h2 with h2 | ⟨hap, h2⟩
    · left
      refine closFrom_spec ops ops.toList [] (fun k => by simp) (fun j i hb => by simp at hb) m k h2
    · right
      refine ⟨x, y, hx, hy, hap, ?_⟩
      rcases h2 with h2 | h2
      · exact harmless_indep hx hy h2 (hok k k r hk hr) (hok m m r' hm hr')
      · obtain ⟨a, b, ha, hb, hi⟩ := pairsOk_spec rs ps hp k m (by simpa using h2)
        rw [hr] at ha; rw [hr'] at hb
        cases ha; cases hb
        exact hi
  · cases h2
end Go.Ab
