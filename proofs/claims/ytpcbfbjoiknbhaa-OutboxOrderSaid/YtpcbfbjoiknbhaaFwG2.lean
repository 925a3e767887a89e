/- A part of the framework: an abstract evaluator of the model's code and its soundness. -/
import Derived.Test.YtpcbfbjoiknbhaaFwG1
import Derived.Deep.Slices
import Derived.ChangeArms
import Derived.DataReads
import Derived.WideShapes
/- Regions in the model. -/
set_option linter.all false
open Go.RowKit
namespace Go.Ab

theorem kind_none {P : Program} {o : Oper} (h : kind P o = 0 ∨ kind P o = 1) : callOf o = none := by
  unfold callOf
  split
  · rename_i f args ats ho
    unfold kind at h
    rw [ho] at h
    simp at h
  · rfl

theorem kind_eff {E : Env} {g : Nat → Option Blk} {nid : Nat} {ρ : Operand → Value} {o : Oper} {e : Eff} (h : evOp E ρ nid g o = some e) :
    (kind E.P o = 0 → e.upd = [] ∧ e.rds = []) ∧ (kind E.P o = 1 → e.upd = []) := by
  obtain ⟨dst, op, ty, pos, after, guard⟩ := o
  cases op
  case move x => cases (show (some (⟨ρ x, [], []⟩ : Eff) = some e) from h); simp
  case assign x => cases (show (some (⟨ρ x, [], []⟩ : Eff) = some e) from h); simp
  case pick c a b =>
    simp only [evOp] at h
    split at h <;> cases h <;> simp
  case alloc t => simp [kind]
  case box t x => simp [kind]
  case build t ps =>
    simp only [evOp, Option.map_eq_some_iff] at h
    obtain ⟨v, _, rfl⟩ := h
    simp
  case buildSlice t n ps => simp [kind]
  case load t a =>
    refine ⟨fun hk => by simp [kind] at hk, fun _ => ?_⟩
    have h' : evLoad E g t (ρ a) = some e := h
    unfold evLoad at h'
    split at h'
    · split at h'
      · split at h'
        · split at h'
          · cases h'; rfl
          · cases h'
        · cases h'
      · split at h'
        · cases h'; rfl
        · cases h'
      · cases h'
    · cases h'
  case store t a x => simp [kind]
  case nilCheck x =>
    simp only [evOp] at h
    split at h <;> cases h <;> simp
  case binOp op t x y t' =>
    simp only [evOp, Option.map_eq_some_iff] at h
    obtain ⟨v, _, rfl⟩ := h
    simp
  case unOp op t x =>
    simp only [evOp] at h
    split at h
    · simp only [Option.map_eq_some_iff] at h
      obtain ⟨v, _, rfl⟩ := h
      simp
    · cases h
  case convert src dst x =>
    have h' : evConvert E g nid src dst (ρ x) = some e := h
    refine ⟨fun hk => ?_, fun hk => ?_⟩
    · unfold evConvert at h'
      simp only [kind] at hk
      have hsl : isSl E.P src = false ∧ isSl E.P dst = false := by
        constructor
        · cases hq : isSl E.P src <;> simp [hq] at hk ⊢
        · cases hq : isSl E.P dst <;> simp [hq] at hk ⊢
      obtain ⟨q1, q2⟩ := hsl
      unfold isSl at q1 q2
      split at h'
      · simp_all
      · simp_all
      · simp_all
      · simp_all
      · split at h'
        · simp only [Option.map_eq_some_iff] at h'
          obtain ⟨v, _, rfl⟩ := h'
          simp
        · cases h'
      · cases h'
    · simp only [kind] at hk
      split at hk <;> simp at hk
  case makeFunc fn f c => cases (show (some (⟨.func fn (f.map ρ) (c.map ρ), [], []⟩ : Eff) = some e) from h); simp
  case makeSlice t l c => simp [kind]
  case slice t x lo hi mx =>
    have h' : evSlice E g t (ρ x) (lo.map ρ) (hi.map ρ) (mx.map ρ) = some e := h
    refine ⟨fun hk => ?_, fun _ => ?_⟩
    · simp only [kind] at hk
      have q1 : isSl E.P t = false := by cases hq : isSl E.P t <;> simp [hq] at hk ⊢
      unfold isSl at q1
      unfold evSlice at h'
      split at h'
      · split at h'
        · split at h'
          · cases h'; simp
          · cases h'
        · cases h'
      · simp_all
      · simp_all
      · split at h'
        · split at h'
          · cases h'; simp
          · cases h'
        · cases h'
      · cases h'
    · unfold evSlice at h'
      split at h'
      · split at h'
        · split at h'
          · cases h'; rfl
          · cases h'
        · cases h'
      · split at h'
        · split at h'
          · cases h'; rfl
          · cases h'
        · split at h'
          · cases h'; rfl
          · cases h'
        · cases h'
      · split at h'
        · split at h'
          · split at h'
            · split at h'
              · cases h'; rfl
              · cases h'
            · cases h'
          · cases h'
        · split at h'
          · split at h'
            · split at h'
              · split at h'
                · cases h'; rfl
                · cases h'
              · cases h'
            · cases h'
          · cases h'
        · cases h'
      · split at h'
        · split at h'
          · cases h'; rfl
          · cases h'
        · cases h'
      · cases h'
  case fieldAddr t x f =>
    simp only [evOp, Option.map_eq_some_iff] at h
    obtain ⟨v, _, rfl⟩ := h
    simp
  case field t x f =>
    simp only [evOp, Option.map_eq_some_iff] at h
    obtain ⟨v, _, rfl⟩ := h
    simp
  case indexAddr t x i =>
    simp only [evOp, Option.map_eq_some_iff] at h
    obtain ⟨v, _, rfl⟩ := h
    simp
  case index t x i =>
    simp only [evOp, Option.map_eq_some_iff] at h
    obtain ⟨v, _, rfl⟩ := h
    simp
  case extract x i =>
    simp only [evOp] at h
    split at h
    · simp only [Option.map_eq_some_iff] at h
      obtain ⟨v, _, rfl⟩ := h
      simp
    · cases h
  case call c =>
    obtain ⟨callee, args, argTypes⟩ := c
    cases callee with
    | value f => exact absurd h (by simp [evOp])
    | invoke r m => exact absurd h (by simp [evOp])
    | builtin b =>
      have h' : evBuiltin E g nid b argTypes ty (args.toList.map ρ) = some e := h
      refine ⟨fun hk => ?_, fun hk => ?_⟩
      · unfold evBuiltin at h'
        split at h'
        · simp [kind] at hk
        · simp [kind] at hk
        · simp [kind] at hk
        · refine ⟨evLenE_upd h', evLenE_rds h' ?_⟩
          simp only [kind] at hk
          unfold isMp at hk
          cases hq : ((argTypes[0]?).bind fun t => mapT E.P t).isSome with
          | false => rfl
          | true => simp [hq] at hk
        · simp [kind] at hk
        · simp [kind] at hk
        · split at h'
          · simp only [Option.map_eq_some_iff] at h'
            obtain ⟨v, _, rfl⟩ := h'
            simp
          · cases h'
        · split at h'
          · simp only [Option.map_eq_some_iff] at h'
            obtain ⟨v, _, rfl⟩ := h'
            simp
          · cases h'
        · split at h'
          · simp only [Option.map_eq_some_iff] at h'
            obtain ⟨v, _, rfl⟩ := h'
            simp
          · cases h'
        · split at h'
          · simp only [Option.map_eq_some_iff] at h'
            obtain ⟨v, _, rfl⟩ := h'
            simp
          · cases h'
        · split at h'
          · simp only [Option.map_eq_some_iff] at h'
            obtain ⟨v, _, rfl⟩ := h'
            simp
          · cases h'
        · cases h'
      · simp only [kind] at hk
        split at hk
        · simp at hk
        · simp at hk
        · exact evBuiltin_len_upd h'
        · simp at hk
  case makeMap t r => simp [kind]
  case lookup t x k ok => exact ⟨fun hk => by simp [kind] at hk, fun _ => evLookup_upd (E := E) (g := g) (t := t) (x := ρ x) (k := ρ k) (ok := ok) h⟩
  case mapUpdate t x k v => simp [kind]
  all_goals exact absurd h (by simp [evOp])

def RecOk (E : Env) (ops : Array Oper) (i : Nat) : Rec → Prop
  | .quiet => True
  | .mem f e => ∃ o ρ nid g, ops[i]? = some o ∧ f = (fun g => evOp E ρ nid g o) ∧ evOp E ρ nid g o = some e
  | .call _ _ => ∃ o, ops[i]? = some o ∧ callOf o ≠ none

theorem step1_ok {E : Env} {call : CallF} {ops : Array Oper} {base i : Nat} {fr fr' : List Value} {σ σ' : St} {r : Rec} (h : step1 E call ops.toList base i fr σ = some (r, fr', σ')) : RecOk E ops i r := by
  cases r with
  | quiet => trivial
  | mem f e =>
    obtain ⟨o, ho, _, _, hf, he, _⟩ := step1_mem h
    exact ⟨o, Opd fr, base + i, σ.heap.get, ho, hf, by rw [hf] at he; exact he⟩
  | call b a =>
    obtain ⟨o, f, args, _, _, _, ho, _, hc, _⟩ := step1_call h
    exact ⟨o, ho, by rw [hc]; simp⟩

theorem runOps_ok {E : Env} {call : CallF} {ops : Array Oper} {base : Nat} : ∀ (l : List Nat) (fr : List Value) (σ : St) (rs : List Rec) (frf : List Value) (σf : St), runOps E call ops.toList base l fr σ = some (rs, frf, σf) →
    rs.length = l.length ∧ ∀ (k i : Nat) (r : Rec), l[k]? = some i → rs[k]? = some r → RecOk E ops i r := by
  intro l
  induction l with
  | nil => intro fr σ rs frf σf h; simp [runOps] at h; obtain ⟨rfl, _, _⟩ := h; simp
  | cons j l ih =>
    intro fr σ rs frf σf h
    obtain ⟨r, fr1, σ1, rs', hs, hr, rfl⟩ := runOps_cons h
    obtain ⟨h1, h2⟩ := ih fr1 σ1 rs' frf σf hr
    refine ⟨by simp [h1], ?_⟩
    intro k i r' hk hr'
    cases k with
    | zero => simp at hk hr'; subst hk; subst hr'; exact step1_ok hs
    | succ k => exact h2 k i r' (by simpa using hk) (by simpa using hr')

theorem harmless_indep {E : Env} {ops : Array Oper} {i j : Nat} {oi oj : Oper} (hi : ops[i]? = some oi) (hj : ops[j]? = some oj) (h : harmless E.P oi oj = true) {r r' : Rec} (hr : RecOk E ops i r) (hr' : RecOk E ops j r') : IndepP r r' := by
  have facts : ∀ {k : Nat} {o : Oper} {f : (Nat → Option Blk) → Option Eff} {e : Eff}, ops[k]? = some o → RecOk E ops k (.mem f e) → (kind E.P o = 0 → e.upd = [] ∧ e.rds = [] ∧ ∀ g, f g = some e) ∧ (kind E.P o = 1 → e.upd = []) := by
    intro k o f e ho ⟨o', ρ, nid, g, ho', hf, he⟩
    rw [ho] at ho'; cases ho'
    obtain ⟨h0, h1⟩ := kind_eff he
    refine ⟨fun hk => ?_, h1⟩
    obtain ⟨q1, q2⟩ := h0 hk
    refine ⟨q1, q2, fun g' => ?_⟩
    rw [hf]
    exact evOp_local he (fun b hb => by rw [q2] at hb; simp at hb)
  have nocall : ∀ {k : Nat} {o : Oper} {b a : St}, ops[k]? = some o → RecOk E ops k (.call b a) → kind E.P o ≠ 0 ∧ kind E.P o ≠ 1 := by
    intro k o b a ho ⟨o', ho', hc⟩
    rw [ho] at ho'; cases ho'
    exact ⟨fun h => hc (kind_none (.inl h)), fun h => hc (kind_none (.inr h))⟩
  unfold harmless at h
  simp only [Bool.or_eq_true, beq_iff_eq, Bool.and_eq_true] at h
  cases r with
  | quiet => trivial
  | mem f e =>
    have fi := facts hi hr
    cases r' with
    | quiet => trivial
    | mem f' e' =>
      have fj := facts hj hr'
      rcases h with (h | h) | ⟨h, h'⟩
      · obtain ⟨q1, q2, _⟩ := fi.1 h; simp [IndepP, q1, q2]
      · obtain ⟨q1, q2, _⟩ := fj.1 h; simp [IndepP, q1, q2]
      · have q1 := fi.2 h; have q2 := fj.2 h'; simp [IndepP, q1, q2]
    | call b a =>
      have nj := nocall hj hr'
      rcases h with (h | h) | ⟨h, h'⟩
      · obtain ⟨q1, q2, q3⟩ := fi.1 h; exact ⟨q1, q3 _, q3 _⟩
      · exact absurd h nj.1
      · exact absurd h' nj.2
  | call b a =>
    have ni := nocall hi hr
    cases r' with
    | quiet => trivial
    | mem f' e' =>
      have fj := facts hj hr'
      rcases h with (h | h) | ⟨h, h'⟩
      · exact absurd h ni.1
      · obtain ⟨q1, q2, q3⟩ := fj.1 h; exact .inr (.inl ⟨q1, q3 _, q3 _⟩)
      · exact absurd h ni.2
    | call b' a' =>
      rcases h with (h | h) | ⟨h, h'⟩
      · exact absurd h ni.1
      · exact absurd h (nocall hj hr').1
      · exact absurd h ni.2

theorem far_of (ops : Array Oper) : ∀ (l : List Nat) (rs : List Rec), (∀ r ∈ rs, RecMono r) → (∀ (k m i j : Nat) (r r' : Rec), k < m → l[k]? = some i → l[m]? = some j → rs[k]? = some r → rs[m]? = some r' →
    Anc ops i j ∨ (∃ oi oj, ops[i]? = some oi ∧ ops[j]? = some oj ∧ oi.apart ops oj = true ∧ IndepP r r')) → Far ops (l.zip rs) := by
  intro l
  induction l with
  | nil => intro rs _ _; simp [Far]
  | cons i l ih =>
    intro rs hm h
    cases rs with
    | nil => simp [Far]
    | cons r rs =>
      simp only [List.zip_cons_cons, Far]
      refine ⟨⟨hm r (by simp), fun x hx => ?_⟩, ih rs (fun r hr => hm r (by simp [hr])) fun k m i' j' r1 r2 hkm h1 h2 h3 h4 => h (k + 1) (m + 1) i' j' r1 r2 (by omega) (by simpa using h1) (by simpa using h2) (by simpa using h3) (by simpa using h4)⟩
      obtain ⟨m, hm⟩ := List.getElem?_of_mem hx
      rw [List.getElem?_zip_eq_some] at hm
      exact h 0 (m + 1) i x.1 r x.2 (by omega) rfl (by simpa using hm.1) rfl (by simpa using hm.2)

theorem pairsOk_spec (base : Nat) (rs : List Rec) : ∀ (ps : List (Nat × Nat)), pairsOk base rs ps = true → ∀ i j, (i, j) ∈ ps → ∃ a b, rs[i]? = some a ∧ rs[j]? = some b ∧ (IndepP a b ∨ late base rs.length i a b = true) := by
  intro ps
  induction ps with
  | nil => intro _ i j h; simp at h
  | cons p ps ih =>
    obtain ⟨x, y⟩ := p
    intro h i j hm
    simp only [pairsOk, Bool.and_eq_true] at h
    obtain ⟨h1, h2⟩ := h
    simp only [List.mem_cons, Prod.mk.injEq] at hm
    rcases hm with ⟨rfl, rfl⟩ | hm
    · split at h1
      · rename_i a b ha hb
        simp only [Bool.or_eq_true] at h1
        exact ⟨a, b, ha, hb, h1.imp indep_spec id⟩
      · cases h1
    · exact ih h2 i j hm

theorem runOps_recmono {E : Env} {call : CallF} {ops : Array Oper} {base : Nat} : ∀ (l : List Nat) (fr : List Value) (σ : St) (rs : List Rec) (frf : List Value) (σf : St), runOps E call ops.toList base l fr σ = some (rs, frf, σf) → ∀ r ∈ rs, RecMono r := by
  intro l
  induction l with
  | nil => intro fr σ rs frf σf h; simp [runOps] at h; obtain ⟨rfl, _, _⟩ := h; simp
  | cons j l ih =>
    intro fr σ rs frf σf h
    obtain ⟨r, fr1, σ1, rs', hs, hr, rfl⟩ := runOps_cons h
    intro x hx
    simp only [List.mem_cons] at hx
    rcases hx with rfl | hx
    · exact step1_recmono hs
    · exact ih fr1 σ1 rs' frf σf hr x hx

/-- Where a call is, the blocks of the operations behind it aren't yet. -/
theorem runOps_absent {E : Env} {call : CallF} (hmono : Mono call) {ops : Array Oper} {base n : Nat} : ∀ (len m0 : Nat) (fr : List Value) (σ : St) (rs : List Rec) (frf : List Value) (σf : St), runOps E call ops.toList base (List.range' m0 len) fr σ = some (rs, frf, σf) →
    (∀ q, base + m0 ≤ q → q < base + n → σ.heap.get q = none ∧ q < σ.next) → ∀ (k : Nat) (b a : St), rs[k]? = some (.call b a) → ∀ q, base + (m0 + k) < q → q < base + n → b.heap.get q = none ∧ a.heap.get q = none := by
  intro len
  induction len with
  | zero =>
    intro m0 fr σ rs frf σf h _ k b a hk
    simp [runOps] at h
    obtain ⟨rfl, _, _⟩ := h
    simp at hk
  | succ len ih =>
    intro m0 fr σ rs frf σf h hfree k b a hk q hq hqn
    rw [List.range'_succ] at h
    obtain ⟨r, fr1, σ1, rs', hs, hr, rfl⟩ := runOps_cons h
    cases k with
    | zero =>
      simp at hk
      subst hk
      obtain ⟨h1, h2⟩ := hfree q (by omega) hqn
      obtain ⟨p1, _⟩ := step1_fresh hmono hs h1 h2 (by omega)
      obtain ⟨_, _, _, _, _, _, _, _, _, _, _, rfl, rfl, _⟩ := step1_call hs
      exact ⟨h1, p1⟩
    | succ k =>
      refine ih (m0 + 1) fr1 σ1 rs' frf σf hr (fun q' hq' hqn' => ?_) k b a (by simpa using hk) q (by omega) hqn
      obtain ⟨h1, h2⟩ := hfree q' (by omega) hqn'
      obtain ⟨p1, p2⟩ := step1_fresh hmono hs h1 h2 (by omega)
      exact ⟨p1, by omega⟩

/-- The whole region in the order of the text: any two of its steps are ordered by the text, or have nothing to do with each other. -/
theorem region_far {E : Env} {call : CallF} {ops : Array Oper} {ps : List (Nat × Nat)} {base : Nat} (hmono : Mono call) (hd : drawOk E.P ops ps = true) {fr frf : List Value} {σ σf : St} {rs : List Rec}
    (h : runOps E call ops.toList base (List.range ops.size) fr σ = some (rs, frf, σf)) (hfree : ∀ q, base ≤ q → q < base + ops.size → σ.heap.get q = none ∧ q < σ.next) (hp : pairsOk base rs ps = true) : Far ops ((List.range ops.size).zip rs) := by
  obtain ⟨hlen, hok⟩ := runOps_ok _ _ _ _ _ _ h
  unfold drawOk at hd
  simp only [Bool.and_eq_true] at hd
  obtain ⟨_, hd⟩ := hd
  refine far_of ops _ _ (runOps_recmono _ _ _ _ _ _ h) fun k m i j r r' hkm hk hm hr hr' => ?_
  have hk' : k = i ∧ k < ops.size := by
    have := (List.getElem?_eq_some_iff.1 hk); obtain ⟨h1, h2⟩ := this; simp at h1 h2; omega
  have hm' : m = j ∧ m < ops.size := by
    have := (List.getElem?_eq_some_iff.1 hm); obtain ⟨h1, h2⟩ := this; simp at h1 h2; omega
  obtain ⟨rfl, hks⟩ := hk'
  obtain ⟨rfl, hms⟩ := hm'
  have h1 := List.all_eq_true.1 hd m (by simp; exact hms)
  have h2 := List.all_eq_true.1 h1 k (by simp; exact hkm)
  unfold pairOk at h2
  split at h2
  · rename_i x y hx hy
    simp only [Bool.or_eq_true, Bool.and_eq_true] at h2
    rcases h2 with h2 | ⟨hap, h2⟩
    · left
      refine closFrom_spec ops ops.toList [] (fun k => by simp) (fun j i hb => by simp at hb) m k h2
    · right
      refine ⟨x, y, hx, hy, hap, ?_⟩
      rcases h2 with h2 | h2
      · exact harmless_indep hx hy h2 (hok k k r hk hr) (hok m m r' hm hr')
      · obtain ⟨a, b, ha, hb, hi⟩ := pairsOk_spec base rs ps hp k m (by simpa using h2)
        rw [hr] at ha; rw [hr'] at hb
        cases ha; cases hb
        rcases hi with hi | hi
        · exact hi
        · rw [List.range_eq_range'] at h
          have habs := runOps_absent hmono (n := ops.size) _ _ _ _ _ _ _ h (fun q h1 h2 => hfree q (by omega) h2) k
          cases r with
          | quiet => cases hi
          | mem _ _ => cases hi
          | call b a =>
            cases r' with
            | quiet => cases hi
            | call _ _ => cases hi
            | mem f e =>
              simp only [late, Bool.and_eq_true, List.all_eq_true, decide_eq_true_eq] at hi
              refine .inr (.inr ⟨List.isEmpty_iff.1 hi.1, fun q hq => ?_⟩)
              have h3 := hi.2 q hq
              have hl : rs.length = ops.size := by simpa using hlen
              obtain ⟨h4, h5⟩ := habs b a hr q (by omega) (by omega)
              rw [h4, h5]
  · cases h2

/-! ### One more block on the heap -/

section
variable {E : Env} {call : CallF} {n : Nat} {x : Option Blk}

theorem step1_mono (hmono : Mono call) {ops : Array Oper} {base i : Nat} {fr fr' : List Value} {σ σ' : St} {r : Rec} (h : step1 E call ops.toList base i fr σ = some (r, fr', σ')) (hn : σ.heap.get n = none) (hlt : n < σ.next) (hb : n < base) :
    σ'.heap.get n = none ∧ σ.next ≤ σ'.next ∧ ∃ r', step1 E call ops.toList base i fr ⟨σ.heap.set n x, σ.next⟩ = some (r', fr', ⟨σ'.heap.set n x, σ'.next⟩) ∧ Grown n x r r' := by
  obtain ⟨q1, q2⟩ := step1_fresh hmono h hn hlt (by omega)
  refine ⟨q1, q2, ?_⟩
  cases r with
  | quiet =>
    obtain ⟨o, ho, hw, rfl, rfl⟩ := step1_quiet h
    exact ⟨_, mk_quiet ho hw, trivial⟩
  | mem f e =>
    obtain ⟨o, ho, hw, hc, rfl, he, rfl, rfl⟩ := step1_mem h
    have hk := evOp_keys he
    have hnk : n ∉ e.upd.map (·.1) := by
      intro hb
      rcases hk n hb with h | h
      · omega
      · exact h hn
    refine ⟨.mem (fun g => evOp E (Opd fr) (base + i) g o) e, ?_, ⟨rfl, rfl⟩⟩
    have := mk_mem (E := E) (call := call) (base := base) (σ := ⟨σ.heap.set n x, σ.next⟩) ho hw hc (evOp_mono (set_ext hn) he)
    rw [this]
    simp only
    rw [upds_set _ _ _ _ hnk]
  | call b a =>
    obtain ⟨o, f, args, fid, as, v, ho, hw, hc, hce, hcl, rfl, rfl, rfl⟩ := step1_call h
    obtain ⟨m1, m2, m3⟩ := hmono _ _ _ _ _ n x hn hlt hcl
    exact ⟨_, mk_call ho hw hc hce m3, hn, m1, rfl, rfl⟩

inductive GrownL (n : Nat) (x : Option Blk) : List Rec → List Rec → Prop
  | nil : GrownL n x [] []
  | cons {r r' : Rec} {rs rs' : List Rec} (h : Grown n x r r') (hm : RecMono r) (ht : GrownL n x rs rs') : GrownL n x (r :: rs) (r' :: rs')

theorem GrownL.get {rs rs' : List Rec} (h : GrownL n x rs rs') : ∀ (i : Nat) (r : Rec), rs[i]? = some r → ∃ r', rs'[i]? = some r' ∧ Grown n x r r' ∧ RecMono r := by
  induction h with
  | nil => intro i r h; simp at h
  | cons hg hm ht ih =>
    intro i r hr
    cases i with
    | zero => simp at hr; subst hr; exact ⟨_, rfl, hg, hm⟩
    | succ i => exact ih i r (by simpa using hr)

theorem runOps_mono (hmono : Mono call) {ops : Array Oper} {base : Nat} (hb : n < base) : ∀ (l : List Nat) (fr : List Value) (σ : St) (rs : List Rec) (frf : List Value) (σf : St), runOps E call ops.toList base l fr σ = some (rs, frf, σf) → σ.heap.get n = none → n < σ.next →
    σf.heap.get n = none ∧ σ.next ≤ σf.next ∧ ∃ rs', runOps E call ops.toList base l fr ⟨σ.heap.set n x, σ.next⟩ = some (rs', frf, ⟨σf.heap.set n x, σf.next⟩) ∧ GrownL n x rs rs' := by
  intro l
  induction l with
  | nil =>
    intro fr σ rs frf σf h hn hlt
    simp [runOps] at h
    obtain ⟨rfl, rfl, rfl⟩ := h
    exact ⟨hn, Nat.le_refl _, [], rfl, .nil⟩
  | cons j l ih =>
    intro fr σ rs frf σf h hn hlt
    obtain ⟨r, fr1, σ1, rs1, hs, hr, rfl⟩ := runOps_cons h
    obtain ⟨q1, q2, r', hs', hg⟩ := step1_mono (x := x) hmono hs hn hlt hb
    obtain ⟨p1, p2, rs', hr', hgl⟩ := ih fr1 σ1 rs1 frf σf hr q1 (by omega)
    exact ⟨p1, by omega, _, mk_runOps hs' hr', .cons hg (step1_recmono hs) hgl⟩

theorem effSame_mono {e : Eff} {g g' : Nat → Option Blk} {f : (Nat → Option Blk) → Option Eff} (hm : RecMono (.mem f e)) (hg : ∀ b x, g b = some x → g' b = some x) (h : effSame e (f g) = true) : effSame e (f g') = true := by
  cases hf : f g with
  | none => rw [hf] at h; cases h
  | some e' => rw [hm g g' hg e' hf, ← hf]; exact h

theorem indep_grown {r1 r2 r1' r2' : Rec} (h : indep r1 r2 = true) (g1 : Grown n x r1 r1') (g2 : Grown n x r2 r2') (m1 : RecMono r1) (m2 : RecMono r2) : indep r1' r2' = true := by
  cases r1 <;> cases r1' <;> simp only [Grown] at g1 <;> cases r2 <;> cases r2' <;> simp only [Grown] at g2
  all_goals try rfl
  · obtain ⟨rfl, rfl⟩ := g1; obtain ⟨rfl, rfl⟩ := g2; exact h
  · obtain ⟨rfl, rfl⟩ := g1
    obtain ⟨b1, b2, rfl, rfl⟩ := g2
    simp only [indep, Bool.and_eq_true] at h ⊢
    exact ⟨h.1, effSame_mono m1 (set_ext b1) h.2.1, effSame_mono m1 (set_ext b2) h.2.2⟩
  · obtain ⟨rfl, rfl⟩ := g2
    obtain ⟨b1, b2, rfl, rfl⟩ := g1
    simp only [indep, Bool.or_eq_true, Bool.and_eq_true] at h ⊢
    exact h.imp id fun h => ⟨h.1, effSame_mono m2 (set_ext b1) h.2.1, effSame_mono m2 (set_ext b2) h.2.2⟩
  · cases h

theorem GrownL.len {rs rs' : List Rec} (h : GrownL n x rs rs') : rs'.length = rs.length := by
  induction h with
  | nil => rfl
  | cons _ _ _ ih => simp [ih]

theorem late_grown {base m i : Nat} {r1 r2 r1' r2' : Rec} (h : late base m i r1 r2 = true) (g1 : Grown n x r1 r1') (g2 : Grown n x r2 r2') : late base m i r1' r2' = true := by
  cases r1 <;> cases r1' <;> simp only [Grown] at g1 <;> cases r2 <;> cases r2' <;> simp only [Grown] at g2 <;> try (first | rfl | cases h)
  obtain ⟨rfl, rfl⟩ := g2
  exact h

theorem pairsOk_grown {base : Nat} {rs rs' : List Rec} (hg : GrownL n x rs rs') : ∀ (ps : List (Nat × Nat)), pairsOk base rs ps = true → pairsOk base rs' ps = true := by
  intro ps
  induction ps with
  | nil => intro _; rfl
  | cons p ps ih =>
    obtain ⟨i, j⟩ := p
    intro h
    simp only [pairsOk, Bool.and_eq_true] at h ⊢
    refine ⟨?_, ih h.2⟩
    have h1 := h.1
    split at h1
    · rename_i a b ha hb
      obtain ⟨a', ha', g1, m1⟩ := hg.get i a ha
      obtain ⟨b', hb', g2, m2⟩ := hg.get j b hb
      rw [ha', hb']
      simp only [Bool.or_eq_true] at h1 ⊢
      rw [hg.len]
      exact h1.imp (fun h => indep_grown h g1 g2 m1 m2) fun h => late_grown h g1 g2
    · cases h1

theorem evRegion_mono (hmono : Mono call) {ps : List (Nat × Nat)} {ops : Array Oper} {fr frf : List Value} {σ σf : St} (h : evRegion E call ps ops.toList fr σ = some (frf, σf)) (hn : σ.heap.get n = none) (hlt : n < σ.next) :
    σf.heap.get n = none ∧ σ.next ≤ σf.next ∧ evRegion E call ps ops.toList fr ⟨σ.heap.set n x, σ.next⟩ = some (frf, ⟨σf.heap.set n x, σf.next⟩) := by
  unfold evRegion at h ⊢
  split at h
  case h_2 => cases h
  rename_i rs fr' σ' hrun
  split at h
  case isFalse => cases h
  rename_i hp
  cases h
  obtain ⟨q1, q2, rs', hr', hg⟩ := runOps_mono (x := x) hmono hlt _ _ _ _ _ _ hrun hn (by simp only; omega)
  simp only at hr' q2
  refine ⟨q1, by omega, ?_⟩
  rw [hr']
  simp only [pairsOk_grown hg ps hp, if_true]

/-- What is shown of code. -/
def CMono (E : Env) (n : Nat) (x : Option Blk) (f : List Value → St → Out) : Prop :=
  ∀ (fr : List Value) (σ : St) (e : Ex) (frf : List Value) (σf : St), f fr σ = some (e, frf, σf) → σ.heap.get n = none → n < σ.next →
    σf.heap.get n = none ∧ σ.next ≤ σf.next ∧ f fr ⟨σ.heap.set n x, σ.next⟩ = some (e, frf, ⟨σf.heap.set n x, σf.next⟩)

theorem thenC_mono {a b : List Value → St → Out} (ha : CMono E n x a) (hb : CMono E n x b) : CMono E n x fun fr σ => thenC (a fr σ) b := by
  intro fr σ e frf σf h hn hlt
  simp only [thenC] at h ⊢
  split at h
  · rename_i fr1 σ1 h1
    obtain ⟨q1, q2, q3⟩ := ha _ _ _ _ _ h1 hn hlt
    obtain ⟨p1, p2, p3⟩ := hb _ _ _ _ _ h q1 (by omega)
    rw [q3]
    exact ⟨p1, by omega, p3⟩
  · rename_i hne
    obtain ⟨q1, q2, q3⟩ := ha _ _ _ _ _ h hn hlt
    refine ⟨q1, q2, ?_⟩
    rw [q3]
    cases e with
    | normal => exact absurd h (hne frf σf)
    | _ => rfl

theorem iter_mono {f : List Value → St → Out} (hf : CMono E n x f) : ∀ k, CMono E n x (iter f k) := by
  intro k
  induction k with
  | zero => intro fr σ e frf σf h; cases h
  | succ k ih =>
    intro fr σ e frf σf h hn hlt
    simp only [iter] at h ⊢
    split at h
    · rename_i fr1 σ1 h1
      obtain ⟨q1, q2, q3⟩ := hf _ _ _ _ _ h1 hn hlt
      obtain ⟨p1, p2, p3⟩ := ih _ _ _ _ _ h q1 (by omega)
      rw [q3]
      exact ⟨p1, by omega, p3⟩
    · rename_i hne
      obtain ⟨q1, q2, q3⟩ := hf _ _ _ _ _ h hn hlt
      refine ⟨q1, q2, ?_⟩
      rw [q3]
      cases e with
      | normal => exact absurd h (hne frf σf)
      | _ => rfl

theorem hop_mono {has : Nat → Bool} {f : Option Nat → List Value → St → Out} (hf : ∀ en, CMono E n x (f en)) : ∀ k en, CMono E n x (hop has f k en) := by
  intro k
  induction k with
  | zero => intro en fr σ e frf σf h; cases h
  | succ k ih =>
    intro en fr σ e frf σf h hn hlt
    simp only [hop] at h ⊢
    split at h
    · rename_i l fr1 σ1 h1
      obtain ⟨q1, q2, q3⟩ := hf en _ _ _ _ _ h1 hn hlt
      rw [q3]
      simp only
      split at h
      · rename_i hl
        obtain ⟨p1, p2, p3⟩ := ih _ _ _ _ _ _ h q1 (by omega)
        rw [if_pos hl]
        exact ⟨p1, by omega, p3⟩
      · rename_i hl
        cases h
        rw [if_neg hl]
        exact ⟨q1, q2, rfl⟩
    · rename_i hne
      obtain ⟨q1, q2, q3⟩ := hf en _ _ _ _ _ h hn hlt
      refine ⟨q1, q2, ?_⟩
      rw [q3]
      cases e with
      | goto l => exact absurd h (hne l frf σf)
      | _ => rfl

theorem evC_mono (hmono : Mono call) {k : Nat} {fid : FuncId} : ∀ (c : Code) (en : Option Nat), CMono E n x (evC E call k fid c en)
  | .skip, none => by intro fr σ e frf σf h hn hlt; cases h; exact ⟨hn, Nat.le_refl _, rfl⟩
  | .skip, some l => by intro fr σ e frf σf h; simp [evC] at h
  | .label l', none => by intro fr σ e frf σf h hn hlt; cases h; exact ⟨hn, Nat.le_refl _, rfl⟩
  | .label l', some l => by
    intro fr σ e frf σf h hn hlt
    simp only [evC] at h ⊢
    split at h
    · rename_i hl; cases h; rw [if_pos hl]; exact ⟨hn, Nat.le_refl _, rfl⟩
    · cases h
  | .exit id, none => by intro fr σ e frf σf h hn hlt; cases h; exact ⟨hn, Nat.le_refl _, rfl⟩
  | .exit id, some l => by intro fr σ e frf σf h; simp [evC] at h
  | .goto id, none => by intro fr σ e frf σf h hn hlt; cases h; exact ⟨hn, Nat.le_refl _, rfl⟩
  | .goto id, some l => by intro fr σ e frf σf h; simp [evC] at h
  | .ret, none => by intro fr σ e frf σf h hn hlt; cases h; exact ⟨hn, Nat.le_refl _, rfl⟩
  | .ret, some l => by intro fr σ e frf σf h; simp [evC] at h
  | .rangeFunc .., en => by intro fr σ e frf σf h; cases en <;> simp [evC] at h
  | .refuse _, en => by intro fr σ e frf σf h; cases en <;> simp [evC] at h
  | .region id ops draw, some l => by intro fr σ e frf σf h; simp [evC] at h
  | .region id ops draw, none => by
    intro fr σ e frf σf h hn hlt
    simp only [evC] at h ⊢
    split at h
    · rename_i fr1 σ1 h1
      cases h
      obtain ⟨q1, q2, q3⟩ := evRegion_mono (x := x) hmono h1 hn hlt
      rw [q3]
      exact ⟨q1, q2, rfl⟩
    · cases h
  | .seq a b, none => by
    intro fr σ e frf σf h hn hlt
    simp only [evC] at h ⊢
    exact thenC_mono (evC_mono hmono a none) (evC_mono hmono b none) _ _ _ _ _ h hn hlt
  | .seq a b, some l => by
    intro fr σ e frf σf h hn hlt
    simp only [evC] at h ⊢
    split at h
    · rename_i hl
      rw [if_pos hl]
      exact thenC_mono (evC_mono hmono a (some l)) (evC_mono hmono b none) _ _ _ _ _ h hn hlt
    · rename_i hl
      rw [if_neg hl]
      exact evC_mono hmono b (some l) _ _ _ _ _ h hn hlt
  | .cond c a b, some l => by intro fr σ e frf σf h; simp [evC] at h
  | .cond c a b, none => by
    intro fr σ e frf σf h hn hlt
    simp only [evC] at h ⊢
    split at h
    · split at h
      · rename_i ht; rw [if_pos ht]; exact evC_mono hmono a none _ _ _ _ _ h hn hlt
      · rename_i ht; rw [if_neg ht]; exact evC_mono hmono b none _ _ _ _ _ h hn hlt
    · cases h
  | .block id c, some l => by intro fr σ e frf σf h; simp [evC] at h
  | .block id c, none => by
    intro fr σ e frf σf h hn hlt
    simp only [evC] at h ⊢
    split at h
    · rename_i id' fr1 σ1 h1
      obtain ⟨q1, q2, q3⟩ := evC_mono hmono c none _ _ _ _ _ h1 hn hlt
      rw [q3]
      simp only
      split at h
      · rename_i hi; cases h; rw [if_pos hi]; exact ⟨q1, q2, rfl⟩
      · rename_i hi; cases h; rw [if_neg hi]; exact ⟨q1, q2, rfl⟩
    · rename_i hne
      obtain ⟨q1, q2, q3⟩ := evC_mono hmono c none _ _ _ _ _ h hn hlt
      refine ⟨q1, q2, ?_⟩
      rw [q3]
      cases e with
      | exit l => exact absurd h (hne l frf σf)
      | _ => rfl
  | .loop c, some l => by intro fr σ e frf σf h; simp [evC] at h
  | .loop c, none => by
    intro fr σ e frf σf h hn hlt
    simp only [evC] at h ⊢
    exact iter_mono (evC_mono hmono c none) k _ _ _ _ _ h hn hlt
  | .scope c, some l => by intro fr σ e frf σf h; simp [evC] at h
  | .scope c, none => by
    intro fr σ e frf σf h hn hlt
    simp only [evC] at h ⊢
    exact hop_mono (fun en => evC_mono hmono c en) k none _ _ _ _ _ h hn hlt

theorem resV_mono {fr : List Value} {σ : St} (hn : σ.heap.get n = none) : ∀ (l : List ResultVar) (vs : List Value), resV E fr σ l = some vs → resV E fr ⟨σ.heap.set n x, σ.next⟩ l = some vs := by
  intro l
  induction l with
  | nil => intro vs h; exact h
  | cons r l ih =>
    intro vs h
    cases r with
    | tmp t =>
      simp only [resV, Option.map_eq_some_iff] at h ⊢
      obtain ⟨a, ha, rfl⟩ := h
      exact ⟨a, ih a ha, rfl⟩
    | cell a t =>
      simp only [resV] at h ⊢
      split at h
      · rename_i e l' he hl
        cases h
        rw [evLoad_mono (set_ext hn) he, ih _ hl]
      · cases h

theorem evBody_mono (hmono : Mono call) {k : Nat} {f : FuncId} {fn : Func} {c : Code} {args : List Value} {σ σ' : St} {v : Value} (h : evBody E call k f fn c args σ = some (v, σ')) (hn : σ.heap.get n = none) (hlt : n < σ.next) :
    σ'.heap.get n = none ∧ σ.next ≤ σ'.next ∧ evBody E call k f fn c args ⟨σ.heap.set n x, σ.next⟩ = some (v, ⟨σ'.heap.set n x, σ'.next⟩) := by
  have hres : ∀ {fr : List Value} {σ1 : St}, σ1.heap.get n = none → (resOf E fn fr σ1).map (fun v => (v, σ1)) = some (v, σ') → σ1 = σ' ∧ (resOf E fn fr ⟨σ1.heap.set n x, σ1.next⟩).map (fun v => (v, (⟨σ1.heap.set n x, σ1.next⟩ : St))) = some (v, ⟨σ'.heap.set n x, σ'.next⟩) := by
    intro fr σ1 hn1 h
    simp only [Option.map_eq_some_iff] at h
    obtain ⟨u, hu, he⟩ := h
    simp only [Prod.mk.injEq] at he
    obtain ⟨rfl, rfl⟩ := he
    refine ⟨rfl, ?_⟩
    have : resOf E fn fr ⟨σ1.heap.set n x, σ1.next⟩ = some u := by
      unfold resOf at hu ⊢
      cases hl : resV E fr σ1 fn.results.toList with
      | none => rw [hl] at hu; cases hu
      | some l => rw [resV_mono (x := x) hn1 _ _ hl, ← hl]; exact hu
    rw [this]
    rfl
  unfold evBody at h ⊢
  split at h
  · rename_i fr1 σ1 h1
    obtain ⟨q1, q2, q3⟩ := evC_mono (x := x) hmono c none _ _ _ _ _ h1 hn hlt
    obtain ⟨rfl, p⟩ := hres q1 h
    rw [q3]
    exact ⟨q1, q2, p⟩
  · rename_i fr1 σ1 h1
    obtain ⟨q1, q2, q3⟩ := evC_mono (x := x) hmono c none _ _ _ _ _ h1 hn hlt
    obtain ⟨rfl, p⟩ := hres q1 h
    rw [q3]
    exact ⟨q1, q2, p⟩
  · cases h
end
end Go.Ab

/- The abstract evaluator's regions and code, in the model. -/
set_option linter.all false
open Go.RowKit
namespace Go.Ab

structure FRel (old : Nat) (μ : Mu) (fr : List Value) (a : Act) : Prop where
  vals : LRel old μ fr a.tmps.toList
  defers : a.defers = []

theorem FRel.mono {old : Nat} {μ μ' : Mu} (hl : Le μ μ') {fr : List Value} {a : Act} (h : FRel old μ fr a) : FRel old μ' fr a := ⟨h.vals.mono hl, h.defers⟩

theorem FRel.get {old : Nat} {μ : Mu} {fr : List Value} {a : Act} (h : FRel old μ fr a) (t : Nat) : VRel old μ (fr.getD t undef) (a.tmps.getD t undef) := by
  have hs : fr.length = a.tmps.size := by simpa using h.vals.1
  by_cases ht : t < fr.length
  · have ht' : t < a.tmps.size := by omega
    have e1 : fr.getD t undef = fr[t] := by simp [List.getD, ht]
    have e2 : a.tmps.getD t undef = a.tmps[t] := by simp [Array.getD, ht']
    rw [e1, e2]
    exact h.vals.2 t _ _ (by simp [ht]) (by simp [ht'])
  · have e1 : fr.getD t undef = undef := by simp [List.getD, List.getElem?_eq_none (Nat.le_of_not_lt ht)]
    have ht' : ¬ t < a.tmps.size := by omega
    have e2 : a.tmps.getD t undef = undef := by simp [Array.getD, ht']
    rw [e1, e2]
    exact .undef _ _

theorem FRel.opd {old : Nat} {μ : Mu} {fr : List Value} {a : Act} (h : FRel old μ fr a) {x : Operand} (hx : okOpd x = true) : VRel old μ (Opd fr x) (a.eval x) := by
  cases x with
  | tmp t => simpa [Opd, Act.eval] using h.get t
  | const v => exact .of_scalar hx
  | func f => exact .func _ _ _ _ _ rfl (fun i x y hx _ => by simp at hx) rfl (fun i x y hx _ => by simp at hx)
  | global g => cases hx

theorem LRel.set {old : Nat} {μ : Mu} {l l' : List Value} (h : LRel old μ l l') {v v' : Value} (hv : VRel old μ v v') (d : Nat) : LRel old μ (l.set d v) (l'.set d v') := by
  refine ⟨by simp [h.1], fun i x y hx hy => ?_⟩
  rw [List.getElem?_set] at hx hy
  rw [← h.1] at hy
  split at hx
  · rename_i hd
    rw [if_pos hd] at hy
    split at hx
    · rename_i hlt
      rw [if_pos hlt] at hy
      cases hx; cases hy
      exact hv
    · cases hx
  · rename_i hd
    rw [if_neg hd] at hy
    exact h.2 i x y hx hy

theorem FRel.put {old : Nat} {μ : Mu} {fr : List Value} {a : Act} (h : FRel old μ fr a) {v v' : Value} (hv : VRel old μ v v') (dst : Option Tmp) : FRel old μ (Ab.put fr dst v) (a.put dst v') := by
  cases dst with
  | none => exact h
  | some d => exact ⟨by simpa [Ab.put, Act.put] using h.vals.set hv d, h.defers⟩

theorem FRel.yields {old : Nat} {μ : Mu} {fr : List Value} {a : Act} (h : FRel old μ fr a) (ops : Array Oper) (j : Nat) : yieldA ops.toList fr j = yielded ops a.tmps j := by
  unfold yieldA yielded
  simp only [Array.getElem?_toList]
  cases hd : (ops[j]?).bind (·.dst) with
  | none => rfl
  | some t =>
    simp only [Option.bind_some]
    have hs : fr.length = a.tmps.size := by simpa using h.vals.1
    by_cases ht : t < fr.length
    · have ht' : t < a.tmps.size := hs ▸ ht
      have hv := h.vals.2 t fr[t] a.tmps[t] (by simp [ht]) (by simp [ht'])
      simp only [List.getElem?_eq_getElem ht, Array.getElem?_eq_getElem ht']
      generalize fr[t] = x at hv
      generalize a.tmps[t] = y at hv
      cases hv with
      | flat v h => rfl
      | _ => rfl
    · rw [List.getElem?_eq_none (Nat.le_of_not_lt ht), Array.getElem?_eq_none (by rw [← hs]; exact Nat.le_of_not_lt ht)]

theorem FRel.wanted {old : Nat} {μ : Mu} {fr : List Value} {a : Act} (h : FRel old μ fr a) (ops : Array Oper) (o : Oper) : Region.wanted o (yieldA ops.toList fr) = Region.wanted o (yielded ops a.tmps) := by
  congr 1
  funext j
  exact h.yields ops j

/-- A function without code, that touches nothing. -/
def ExtOK (E : Env) (w0 : World) (f : FuncId) (args : List Value) (σ : St) (v : Value) (σ' : St) : Prop :=
  σ' = σ ∧ (∃ fn, E.P.funcs[f]? = some fn ∧ fn.body = none) ∧
    ∀ (μ : Mu) (w : World) (args' : Array Value), Rel E w0 μ σ w → LRel E.old μ args args'.toList → ∃ v', (callFunc f args').run E.P w = .ok (.value v') w ∧ VRel E.old μ v v'

/-- What a call must come to. -/
def CallSound (E : Env) (call : CallF) : Prop :=
  ∀ (w0 : World) (f : FuncId) (args : List Value) (σ : St) (v : Value) (σ' : St), call f args σ = some (v, σ') →
    ((∃ fn, E.P.funcs[f]? = some fn ∧ fn.body.isSome = true ∧ fn.name ≠ "runtime.NumGoroutine") ∧ σ.next ≤ σ'.next ∧
    ∀ (μ : Mu) (w : World) (args' : Array Value), Rel E w0 μ σ w → LRel E.old μ args args'.toList →
      Calls E.P f args' w fun e w' => ∃ v' μ', e = .returned v' ∧ VRel E.old μ' v v' ∧ Rel E w0 μ' σ' w' ∧ ∀ a, a < σ.next → μ' a = μ a) ∨ ExtOK E w0 f args σ v σ'
structure CallOK (E : Env) (call : CallF) : Prop where
  ok : CallSound E call
  mono : Mono call

section
variable {E : Env} {w0 w : World} {μ : Mu} {σ : St}

theorem ext_le {μ μ' : Mu} {n : Nat} (hd : ∀ a p, μ a = some p → a < n) (h : ∀ a, a < n → μ' a = μ a) : Le μ μ' := fun a p hp => by rw [h a (hd a p hp)]; exact hp

/-- One step in the model. -/
theorem step_sim {call : CallF} (hcall : CallOK E call) {ops : Array Oper} (hok : ∀ o ∈ ops.toList, okOper o = true) {Q : Exit → Act → World → Prop} {base i : Nat} {fr fr' : List Value} {σ' : St} {r : Rec}
    (h : step1 E call ops.toList base i fr σ = some (r, fr', σ')) {a : Act} (hf : FRel E.old μ fr a) (hr : Rel E w0 μ σ w) (ho : E.old ≤ base) (hn : base + i < σ.next) (hm : μ (base + i) = none)
    {K : Act → World → Prop} (hK : ∀ μ' a' w', (∀ a, a < σ.next → a ≠ base + i → μ' a = μ a) → FRel E.old μ' fr' a' → Rel E w0 μ' σ' w' → K a' w') :
    wpOp E.P ops Q i K a w := by
  unfold wpOp
  cases r with
  | quiet =>
    obtain ⟨o, hoi, hw, rfl, rfl⟩ := step1_quiet h
    rw [hf.wanted] at hw
    simp only [hoi, hw]
    exact hK μ _ w (fun _ _ _ => rfl) (hf.put (.undef _ _) _) hr
  | mem f e =>
    obtain ⟨o, hoi, hw, hc, rfl, he, rfl, rfl⟩ := step1_mem h
    rw [hf.wanted] at hw
    simp only [hoi, hw, if_true]
    have hoo := hok o (by simpa using Array.mem_of_getElem? hoi)
    left
    obtain ⟨r, v', w', μ', h1, h2, h3, h4, h5⟩ := op_sound (nid := base + i) hr (by omega) hn hm (o := o) (ρ := Opd fr) (ρ' := a.eval) (fun x hx => hf.opd (List.all_eq_true.1 hoo x (by simpa using hx))) he
    have hle : Le μ μ' := by
      intro x p hp
      by_cases hx : x = base + i
      · subst hx; rw [hm] at hp; cases hp
      · rw [h5 x hx]; exact hp
    unfold Oper.wp
    rw [h1]
    rcases h2 with rfl | ⟨rfl, rfl⟩
    · exact hK μ' _ w' (fun x _ hx => h5 x hx) ((hf.mono hle).put h3 _) h4
    · exact hK μ' _ w' (fun x _ hx => h5 x hx) ((hf.mono hle).put h3 _) h4
  | call b a' =>
    obtain ⟨o, f, args, fid, as, v, hoi, hw, hc, hce, hcl, rfl, rfl, rfl⟩ := step1_call h
    rw [hf.wanted] at hw
    simp only [hoi, hw, if_true]
    have hoo := hok o (by simpa using Array.mem_of_getElem? hoi)
    obtain ⟨ats, aarr, hoc, rfl⟩ : ∃ ats aarr, o.op = .call { callee := .value f, args := aarr, argTypes := ats } ∧ args = aarr.toList := by
      unfold callOf at hc
      split at hc
      · rename_i f' as' ats hoc; cases hc; exact ⟨ats, as', hoc, rfl⟩
      · cases hc
    left
    have hfv : VRel E.old μ (Opd fr f) (a.eval f) := hf.opd (List.all_eq_true.1 hoo f (by simp [hoc, Op.operands, Call.operands]))
    have hav : LRel E.old μ (aarr.toList.map (Opd fr)) (aarr.toList.map a.eval) := LRel.map _ fun x hx => hf.opd (List.all_eq_true.1 hoo x (by simp at hx; simp [hoc, Op.operands, Call.operands, hx]))
    unfold callee? at hce
    split at hce
    · rename_i fid' first captured hfo
      cases hce
      rw [hfo] at hfv
      obtain ⟨f2, c2, hfe, q1, q2⟩ := hfv.inv_func
      have hargs0 : LRel E.old μ (first.toList ++ aarr.toList.map (Opd fr) ++ captured.toList) (f2 ++ aarr.map a.eval ++ c2).toList := by
        simpa using (q1.append hav).append q2
      rcases hcall.ok w0 _ _ _ _ _ hcl with ⟨⟨fn, hfn, hbody, hname⟩, hnx, hcalls⟩ | ⟨rfl, _, hext⟩
      case inr =>
        obtain ⟨v', hcf, hv⟩ := hext μ w (f2 ++ aarr.map a.eval ++ c2) hr hargs0
        have hrun : (execOp a.eval o).run E.P w = .ok (.value v') w := by
          unfold execOp
          rw [hoc]
          simp [resolve, hfe, Deferred.ofValue, invoke]
          simpa using hcf
        unfold Oper.wp
        rw [hrun]
        exact hK μ _ w (fun _ _ _ => rfl) (hf.put hv _) hr
      have hargs : LRel E.old μ (first.toList ++ aarr.toList.map (Opd fr) ++ captured.toList) (f2 ++ aarr.map a.eval ++ c2).toList := by
        simpa using (q1.append hav).append q2
      have hC := hcalls μ w (f2 ++ aarr.map a.eval ++ c2) hr hargs
      have hrun : (execOp a.eval o).run E.P w = .ok (.enter fid (f2 ++ aarr.map a.eval ++ c2)) w := by
        unfold execOp
        rw [hoc]
        obtain ⟨bc, hbc⟩ := Option.isSome_iff_exists.1 hbody
        simp [resolve, hfe, Deferred.ofValue, invoke, callFunc, hfn, hbc, hname]
      unfold Oper.wp
      rw [hrun]
      refine hC.mono ?_
      rintro e w' ⟨v', μ', rfl, hv, hr', hext⟩
      have hle : Le μ μ' := ext_le (fun a p hp => (hr.dom a p hp).1) hext
      exact hK μ' _ w' (fun x hx _ => hext x hx) ((hf.mono hle).put hv _) hr'
    · cases hce

theorem step1_next {call : CallF} (hcall : CallOK E call) {ops : Array Oper} {base i : Nat} {fr fr' : List Value} {σ σ' : St} {r : Rec} (h : step1 E call ops.toList base i fr σ = some (r, fr', σ')) : σ.next ≤ σ'.next := by
  cases r with
  | quiet => obtain ⟨_, _, _, _, rfl⟩ := step1_quiet h; exact Nat.le_refl _
  | mem f e => obtain ⟨_, _, _, _, _, _, _, rfl⟩ := step1_mem h; exact Nat.le_refl _
  | call b a => obtain ⟨_, _, _, _, _, _, _, _, _, _, hc, _⟩ := step1_call h; exact (hcall.ok default _ _ _ _ _ hc).elim (fun h => h.2.1) (fun h => by rw [h.1]; exact Nat.le_refl _)

/-- In the order of the text. -/
theorem seq_sim {call : CallF} (hcall : CallOK E call) {ops : Array Oper} (hok : ∀ o ∈ ops.toList, okOper o = true) {Q : Exit → Act → World → Prop} {base : Nat} (ho : E.old ≤ base) {frf : List Value} {σf : St} :
    ∀ (l : List Nat) (rs : List Rec) (fr : List Value) (σ : St) (μ : Mu) (a : Act) (w : World), l.Nodup → runOps E call ops.toList base l fr σ = some (rs, frf, σf) → FRel E.old μ fr a → Rel E w0 μ σ w →
      (∀ i ∈ l, base + i < σ.next) → (∀ i ∈ l, μ (base + i) = none) →
      (∀ μ' a' w', (∀ x, x < σ.next → (∀ i ∈ l, x ≠ base + i) → μ' x = μ x) → FRel E.old μ' frf a' → Rel E w0 μ' σf w' → Q .normal a' w') → wpOps E.P ops Q l a w := by
  intro l
  induction l with
  | nil =>
    intro rs fr σ μ a w _ h hf hr _ _ hQ
    simp [runOps] at h
    obtain ⟨_, rfl, rfl⟩ := h
    exact hQ μ a w (fun _ _ _ => rfl) hf hr
  | cons i l ih =>
    intro rs fr σ μ a w hnd h hf hr hn hm hQ
    obtain ⟨r, fr1, σ1, rs', hs, hrr, rfl⟩ := runOps_cons h
    rw [wpOps_cons]
    rw [List.nodup_cons] at hnd
    have hnx := step1_next hcall hs
    refine step_sim hcall hok hs hf hr ho (hn i (by simp)) (hm i (by simp)) ?_
    intro μ1 a1 w1 hext hf1 hr1
    refine ih rs' fr1 σ1 μ1 a1 w1 hnd.2 hrr hf1 hr1 (fun k hk => by have := hn k (by simp [hk]); omega) ?_ ?_
    · intro k hk
      have hne : k ≠ i := fun e => hnd.1 (e ▸ hk)
      rw [hext _ (hn k (by simp [hk])) (by omega)]
      exact hm k (by simp [hk])
    · intro μ' a' w' hext' hf' hr'
      refine hQ μ' a' w' ?_ hf' hr'
      intro x hx hxi
      rw [hext' x (by omega) (fun k hk => hxi k (by simp [hk])), hext x hx (hxi i (by simp))]

/-- In whatever order. -/
theorem any_sim {call : CallF} (hcall : CallOK E call) {ops : Array Oper} (hok : ∀ o ∈ ops.toList, okOper o = true) (hedges : ∀ i o, ops[i]? = some o → ∀ e ∈ o.after, Region.binds .any e = true → e.on < i)
    {Q : Exit → Act → World → Prop} {base : Nat} (ho : E.old ≤ base) {frf : List Value} {σf : St} :
    ∀ (n : Nat) (l : List Nat) (rs : List Rec) (listed : Array Bool) (fr : List Value) (σ : St) (μ : Mu) (a : Act) (w : World), l.length = n → l.Nodup → l.Pairwise (· < ·) → listed.size = ops.size →
      (∀ i, i ∈ l ↔ listed[i]? = some false) → (∀ (j : Nat) (o : Oper), ops[j]? = some o → listed[j]? = some true → ∀ e ∈ o.after, Region.binds .any e = true → listed[e.on]? = some true) →
      runOps E call ops.toList base l fr σ = some (rs, frf, σf) → Far ops (l.zip rs) → FRel E.old μ fr a → Rel E w0 μ σ w →
      (∀ i ∈ l, base + i < σ.next) → (∀ i ∈ l, μ (base + i) = none) →
      (∀ μ' a' w', (∀ x, x < σ.next → (∀ i ∈ l, x ≠ base + i) → μ' x = μ x) → FRel E.old μ' frf a' → Rel E w0 μ' σf w' → Q .normal a' w') → wpAny E.P .any ops Q n listed a w := by
  intro n
  induction n with
  | zero =>
    intro l rs listed fr σ μ a w hl _ _ hsz hmem _ h _ hf hr _ _ hQ
    have : l = [] := List.length_eq_zero_iff.1 hl
    subst this
    simp [runOps] at h
    obtain ⟨_, rfl, rfl⟩ := h
    refine ⟨?_, hQ μ a w (fun _ _ _ => rfl) hf hr⟩
    rw [List.eq_nil_iff_forall_not_mem]
    intro i hi
    obtain ⟨h1, o, h2, _⟩ := mem_ready.1 hi
    have hlt : i < ops.size := (Array.getElem?_eq_some_iff.1 h2).1
    have : listed[i]? = some false := by
      rw [Array.getElem?_eq_getElem (by omega)]
      have hg : listed.getD i true = listed[i]'(by omega) := by simp [Array.getD, show i < listed.size by omega]
      rw [hg] at h1
      rw [h1]
    exact absurd ((hmem i).2 this) (by simp)
  | succ n ih =>
    intro l rs listed fr σ μ a w hl hnd hpw hsz hmem hclosed h hfar hf hr hn hm hQ
    have getD_of : ∀ (i : Nat) (b : Bool), listed[i]? = some b → ∀ d, listed.getD i d = b := by
      intro i b hb d
      obtain ⟨hlt, hv⟩ := Array.getElem?_eq_some_iff.1 hb
      simp [Array.getD, hlt, hv]
    have all_or : ∀ i, i < ops.size → listed[i]? = some true ∨ listed[i]? = some false := by
      intro i hi
      rw [Array.getElem?_eq_getElem (by omega)]
      cases listed[i]'(by omega) <;> simp
    constructor
    · -- something may always come
      intro hnil
      obtain ⟨i, l', rfl⟩ : ∃ i l', l = i :: l' := by cases l with | nil => simp at hl | cons i l' => exact ⟨i, l', rfl⟩
      exfalso
      have hif : listed[i]? = some false := (hmem i).1 (by simp)
      have hlt : i < ops.size := by have := (Array.getElem?_eq_some_iff.1 hif).1; omega
      have hoi : ops[i]? = some ops[i] := Array.getElem?_eq_getElem hlt
      have hready : i ∈ Region.ready .any ops listed := by
        rw [mem_ready]
        refine ⟨getD_of i false hif true, ops[i], hoi, fun e he hb => ?_⟩
        have hei := hedges i _ hoi e he hb
        rcases all_or e.on (by omega) with h1 | h1
        · exact getD_of _ _ h1 false
        · have := (hmem e.on).2 h1
          simp only [List.mem_cons] at this
          rcases this with h2 | h2
          · omega
          · have := (List.pairwise_cons.1 hpw).1 e.on h2
            omega
      rw [hnil] at hready
      cases hready
    · intro j hj
      obtain ⟨hj1, oj, hoj, hjall⟩ := mem_ready.1 hj
      have hlt : j < ops.size := (Array.getElem?_eq_some_iff.1 hoj).1
      have hjf : listed[j]? = some false := by
        rcases all_or j hlt with h1 | h1
        · rw [getD_of _ _ h1 true] at hj1; cases hj1
        · exact h1
      have hjl : j ∈ l := (hmem j).2 hjf
      obtain ⟨l1, l2, rfl⟩ := List.append_of_mem hjl
      have hedge1 : ∀ e ∈ oj.after, Region.binds .any e = true → listed[e.on]? = some true := by
        intro e he hb
        have h1 := hjall e he hb
        have h2 := hedges j oj hoj e he hb
        rcases all_or e.on (by omega) with h3 | h3
        · exact h3
        · rw [getD_of _ _ h3 false] at h1; cases h1
      have anc_listed : ∀ i k, Anc ops i k → (∀ o, ops[k]? = some o → ∀ e ∈ o.after, Region.binds .any e = true → listed[e.on]? = some true) → listed[i]? = some true := by
        intro i k hanc
        induction hanc with
        | one k o e ho he hb hi => intro hk; subst hi; exact hk o ho e (by simpa using he) hb
        | step k o e ho he hb _ ih =>
          intro hk
          refine ih fun o' ho' e' he' hb' => ?_
          exact hclosed e.on o' ho' (hk o ho e (by simpa using he) hb) e' he' hb'
      have hnoanc : ∀ i ∈ l1, ¬ Anc ops i j := by
        intro i hi hanc
        have h1 := anc_listed i j hanc (fun o ho e he hb => by rw [hoj] at ho; cases ho; exact hedge1 e he hb)
        have h2 := (hmem i).1 (by simp [hi])
        rw [h1] at h2
        cases h2
      have hjl1 : j ∉ l1 := by
        have := List.perm_middle.nodup_iff.1 hnd
        exact fun hj => (List.nodup_cons.1 this).1 (by simp [hj])
      have hfree : σ.heap.get (base + j) = none := by
        cases hq : σ.heap.get (base + j) with
        | none => rfl
        | some b =>
          obtain ⟨p, hp, _⟩ := hr.blk _ _ hq
          rw [hm j (by simp)] at hp
          cases hp
      obtain ⟨r, frj, σj, rs', hs, hrr, hfar', _, _⟩ := bubble hcall.mono l1 l2 fr σ rs frf σf h hfar hnoanc hjl1 hfree (hn j (by simp))
      have hnx := step1_next hcall hs
      refine step_sim hcall hok hs hf hr ho (hn j (by simp)) (hm j (by simp)) ?_
      intro μ1 a1 w1 hext hf1 hr1
      have hnd' : (l1 ++ l2).Nodup := by
        have hsub : (l1 ++ l2).Sublist (l1 ++ j :: l2) := List.Sublist.append (List.Sublist.refl _) (List.sublist_cons_self _ _)
        exact hsub.nodup hnd
      have hjn : j ∉ l1 ++ l2 := by
        have := List.perm_middle.nodup_iff.1 hnd
        exact (List.nodup_cons.1 this).1
      refine ih (l1 ++ l2) rs' (listed.setIfInBounds j true) frj σj μ1 a1 w1 (by simp at hl ⊢; omega) hnd' ?_ (by simpa using hsz) ?_ ?_ hrr hfar' hf1 hr1 ?_ ?_ ?_
      · have hsub : (l1 ++ l2).Sublist (l1 ++ j :: l2) := List.Sublist.append (List.Sublist.refl _) (List.sublist_cons_self _ _)
        exact hpw.sublist hsub
      · intro i
        by_cases hij : i = j
        · subst hij
          rw [Array.getElem?_setIfInBounds_self_of_lt (by omega)]
          simp [hjn]
        · rw [Array.getElem?_setIfInBounds_ne (Ne.symm hij), ← hmem i]
          simp [hij]
      · intro k o hk hkl e he hb
        have target : listed[e.on]? = some true := by
          by_cases hkj : k = j
          · subst hkj; rw [hoj] at hk; cases hk; exact hedge1 e he hb
          · rw [Array.getElem?_setIfInBounds_ne (Ne.symm hkj)] at hkl
            exact hclosed k o hk hkl e he hb
        by_cases hej : e.on = j
        · rw [hej] at target; rw [hjf] at target; cases target
        · rw [Array.getElem?_setIfInBounds_ne (Ne.symm hej)]; exact target
      · intro k hk
        have := hn k (by simp at hk ⊢; rcases hk with h | h <;> simp [h])
        omega
      · intro k hk
        have hkl : k ∈ l1 ++ j :: l2 := by simp at hk ⊢; rcases hk with h | h <;> simp [h]
        have hne : k ≠ j := fun e => hjn (e ▸ hk)
        rw [hext _ (hn k hkl) (by omega)]
        exact hm k hkl
      · intro μ' a' w' hext' hf' hr'
        refine hQ μ' a' w' ?_ hf' hr'
        intro x hx hxi
        rw [hext' x (by omega) (fun k hk => hxi k (by simp at hk ⊢; rcases hk with h | h <;> simp [h])), hext x hx (hxi j (by simp))]

/-- What is asked of a region's text. -/
def regionOk (P : Program) (ps : List (Nat × Nat)) (ops : Array Oper) (draw : Bool) : Bool :=
  ops.toList.all okOper && (!draw || drawOk P ops ps)

theorem region_sim {call : CallF} (hcall : CallOK E call) {ops : Array Oper} {draw : Bool} {ps : List (Nat × Nat)} (hok : regionOk E.P ps ops draw = true) (hmixed : E.P.follows .mixedOrders = true) {id : Nat} {Q : Exit → Act → World → Prop}
    {fr frf : List Value} {σf : St} (h : evRegion E call ps ops.toList fr σ = some (frf, σf)) {a : Act} (hf : FRel E.old μ fr a) (hr : Rel E w0 μ σ w)
    (hQ : ∀ μ' a' w', (∀ x, x < σ.next → μ' x = μ x) → FRel E.old μ' frf a' → Rel E w0 μ' σf w' → Q .normal a' w') : (Code.region id ops draw).wp E.P Q a w := by
  unfold regionOk at hok
  simp only [Bool.and_eq_true, Bool.or_eq_true, Bool.not_eq_true'] at hok
  obtain ⟨hok1, hok2⟩ := hok
  have hoks : ∀ o ∈ ops.toList, okOper o = true := fun o ho => List.all_eq_true.1 hok1 o ho
  unfold evRegion at h
  split at h
  case h_2 => cases h
  rename_i rs frf' σf' hrun
  split at h
  case isFalse => cases h
  rename_i hpairs
  cases h
  simp only [Array.length_toList] at hrun
  have hr2 : ∀ w', Rel E w0 μ σ w' → Rel E w0 μ ⟨σ.heap, σ.next + ops.size⟩ w' := fun w' hr => ⟨hr.below, hr.old_le, by have := hr.old_next; simp only; omega, hr.base, fun a p hp => by have := hr.dom a p hp; simp only; omega, hr.blk, hr.new, hr.inj⟩
  have hnone : ∀ i, μ (σ.next + i) = none := by
    intro i
    cases hp : μ (σ.next + i) with
    | none => rfl
    | some p => have := (hr.dom _ _ hp).1; omega
  have hnd : (List.range ops.size).Nodup := List.nodup_range
  have hQ' : ∀ μ' a' w', (∀ x, x < σ.next + ops.size → (∀ i ∈ List.range ops.size, x ≠ σ.next + i) → μ' x = μ x) → FRel E.old μ' frf a' → Rel E w0 μ' σf w' → Q .normal a' w' := by
    intro μ' a' w' hext hf' hr'
    exact hQ μ' a' w' (fun x hx => hext x (by omega) (fun i _ => by omega)) hf' hr'
  cases draw with
  | false =>
    exact wp_region (seq_sim hcall hoks (base := σ.next) hr.old_next (List.range ops.size) rs fr _ μ a w hnd hrun hf (hr2 w hr) (fun i hi => by simp at hi; simp only; omega) (fun i _ => hnone i) hQ')
  | true =>
    simp only [Bool.true_eq_false, false_or] at hok2
    have hfar := region_far hcall.mono hok2 hrun (fun q h1 h2 => ⟨by
      cases hq : σ.heap.get q with
      | none => rfl
      | some b =>
        obtain ⟨p, hp, _⟩ := hr.blk _ _ hq
        have := (hr.dom _ _ hp).1; omega, by simp only; omega⟩) hpairs
    have hedges : ∀ i o, ops[i]? = some o → ∀ e ∈ o.after, Region.binds .any e = true → e.on < i := by
      intro i o ho e he hb
      unfold drawOk at hok2
      simp only [Bool.and_eq_true] at hok2
      have h1 := List.all_eq_true.1 hok2.1.1 (o, i) (by
        rw [List.mem_zipIdx_iff_getElem?]
        simpa using ho)
      unfold edgesOk at h1
      have h2 := List.all_eq_true.1 h1 e (by simpa using he)
      simpa [hb] using h2
    refine wp_region_any hmixed ?_
    refine any_sim hcall hoks hedges (base := σ.next) hr.old_next ops.size (List.range ops.size) rs (Array.replicate ops.size false) fr _ μ a _ (by simp) hnd List.pairwise_lt_range (by simp) ?_ ?_ hrun hfar hf (hr2 _ hr.drew) (fun i hi => by simp at hi; simp only; omega) (fun i _ => hnone i) hQ'
    · intro i
      simp [Array.getElem?_replicate]
    · intro j o _ hl
      simp [Array.getElem?_replicate] at hl
end
end Go.Ab

/- The abstract evaluator's code and functions, in the model. -/
set_option linter.all false
open Go.RowKit
namespace Go.Ab

def codeOk (P : Program) (pairs : Nat → List (Nat × Nat)) : Code → Bool
  | .region id ops draw => regionOk P (pairs id) ops draw
  | .seq a b => codeOk P pairs a && codeOk P pairs b
  | .cond c a b => okOpd c && (codeOk P pairs a && codeOk P pairs b)
  | .block _ c | .loop c | .scope c => codeOk P pairs c
  | _ => true

def ExRel : Ex → Exit → Prop
  | .normal, .normal => True
  | .exit i, .exit j => i = j
  | .goto i, .goto j => i = j
  | .ret, .ret => True
  | _, _ => False

theorem ExRel.refl_normal {e : Exit} (h : ExRel .normal e) : e = .normal := by cases e <;> first | rfl | exact h.elim
theorem ExRel.exit_eq {i : Nat} {e : Exit} (h : ExRel (.exit i) e) : e = .exit i := by cases e <;> first | exact h.elim | (simp only [ExRel] at h; rw [h])
theorem ExRel.goto_eq {i : Nat} {e : Exit} (h : ExRel (.goto i) e) : e = .goto i := by cases e <;> first | exact h.elim | (simp only [ExRel] at h; rw [h])
theorem ExRel.ret_eq {e : Exit} (h : ExRel .ret e) : e = .ret := by cases e <;> first | rfl | exact h.elim

def PostC (E : Env) (w0 : World) (μ : Mu) (n : Nat) (e : Ex) (frf : List Value) (σf : St) : Exit → Act → World → Prop :=
  fun ex a w => ExRel e ex ∧ ∃ μ', (∀ x, x < n → μ' x = μ x) ∧ FRel E.old μ' frf a ∧ Rel E w0 μ' σf w

theorem PostC.weaken {E : Env} {w0 : World} {μ μ1 : Mu} {n n1 : Nat} {e : Ex} {frf : List Value} {σf : St} (hn : n ≤ n1) (hext : ∀ x, x < n → μ1 x = μ x) {ex : Exit} {a : Act} {w : World} (h : PostC E w0 μ1 n1 e frf σf ex a w) : PostC E w0 μ n e frf σf ex a w := by
  obtain ⟨h1, μ', h2, h3, h4⟩ := h
  exact ⟨h1, μ', fun x hx => by rw [h2 x (by omega), hext x hx], h3, h4⟩

theorem hasLabel_iff : ∀ (c : Code) (l : Nat), hasLabel c l = (findLabel c l).isSome
  | .seq a b, l => by
    simp only [hasLabel, findLabel]
    rw [hasLabel_iff a l, hasLabel_iff b l]
    cases findLabel a l <;> simp
  | .label l', l => by
    simp only [hasLabel, findLabel]
    split <;> simp_all
  | .skip, l | .region .., l | .cond .., l | .block .., l | .loop _, l | .rangeFunc .., l | .exit _, l | .scope _, l | .goto _, l | .ret, l | .refuse _, l => by simp [hasLabel, findLabel]

/-- A scope through which the run goes in so many passes. -/
def hops (P : Program) (body : Code) (Q : Exit → Act → World → Prop) : Nat → Code → Act → World → Prop
  | 0, _, _, _ => False
  | n + 1, c, a, w => c.wp P (fun e a w => match e with
      | .goto l => (match findLabel body l with
        | some rest => hops P body Q n rest a w
        | none => Q (.goto l) a w)
      | e => Q e a w) a w

theorem wp_scope_hops {P : Program} {body : Code} {Q : Exit → Act → World → Prop} {a : Act} {w : World} (n : Nat) (h : hops P body Q n body a w) : (Code.scope body).wp P Q a w := by
  intro b k cs
  have key : ∀ n c a w, hops P body Q n c a w → ∃ e a' w', Q e a' w' ∧ Arrives P (lone (b.at a (.code c :: .inScope body :: k)) cs w) b k cs e a' w' := by
    intro n
    induction n with
    | zero => intro c a w h; exact h.elim
    | succ n ih =>
      intro c a w h
      obtain ⟨e, a₁, w₁, hq, harr⟩ := h b (.inScope body :: k) cs
      cases e with
      | normal => exact ⟨.normal, a₁, w₁, hq, Steps.trans harr (.one step_inScope)⟩
      | exit id => exact ⟨.exit id, a₁, w₁, hq, fun k' hk => harr k' (by simp [exitTo, hk])⟩
      | goto l =>
        simp only at hq
        cases hf : findLabel body l with
        | some rest =>
          rw [hf] at hq
          obtain ⟨e₂, a₂, w₂, hq₂, harr₂⟩ := ih rest a₁ w₁ hq
          exact ⟨e₂, a₂, w₂, hq₂, .of_steps (harr _ (by simp [gotoIn, hf])) harr₂⟩
        | none =>
          rw [hf] at hq
          exact ⟨.goto l, a₁, w₁, hq, fun k' hk => harr k' (by simp [gotoIn, hf, hk])⟩
      | ret => exact ⟨_, a₁, w₁, hq, harr⟩
      | panic ch => exact ⟨_, a₁, w₁, hq, harr⟩
      | outgrown => exact ⟨_, a₁, w₁, hq, harr⟩
  obtain ⟨e, a', w', hq, harr⟩ := key n body a w h
  exact ⟨e, a', w', hq, .of_steps (.one step_scope) harr⟩

theorem evRegion_next {E : Env} {call : CallF} (hcall : CallOK E call) {ps : List (Nat × Nat)} {ops : Array Oper} {fr frf : List Value} {σ σf : St} (h : evRegion E call ps ops.toList fr σ = some (frf, σf)) : σ.next ≤ σf.next := by
  have key : ∀ (base : Nat) (l : List Nat) (fr : List Value) (σ : St) (rs : List Rec) (frf : List Value) (σf : St), runOps E call ops.toList base l fr σ = some (rs, frf, σf) → σ.next ≤ σf.next := by
    intro base l
    induction l with
    | nil => intro fr σ rs frf σf h; simp [runOps] at h; obtain ⟨_, _, rfl⟩ := h; exact Nat.le_refl _
    | cons i l ih =>
      intro fr σ rs frf σf h
      obtain ⟨r, fr1, σ1, rs', hs, hr, rfl⟩ := runOps_cons h
      exact Nat.le_trans (step1_next hcall hs) (ih _ _ _ _ _ hr)
  unfold evRegion at h
  split at h
  · rename_i rs fr' σ' hrun
    split at h
    · cases h
      have := key _ _ _ _ _ _ _ hrun
      simp only at this
      omega
    · cases h
  · cases h

section
variable {E : Env} {w0 : World} {call : CallF} {k : Nat} {fid : FuncId}

/-- What code comes to. -/
def CodeS (E : Env) (w0 : World) (call : CallF) (k : Nat) (fid : FuncId) (c : Code) : Prop :=
  ∀ (entry : Option Nat) (fr : List Value) (σ : St) (e : Ex) (frf : List Value) (σf : St), evC E call k fid c entry fr σ = some (e, frf, σf) →
    σ.next ≤ σf.next ∧ ∀ (μ : Mu) (a : Act) (w : World), FRel E.old μ fr a → Rel E w0 μ σ w →
      (entry = none → c.wp E.P (PostC E w0 μ σ.next e frf σf) a w) ∧
      (∀ l rest, entry = some l → findLabel c l = some rest → rest.wp E.P (PostC E w0 μ σ.next e frf σf) a w)

theorem evC_nolabel {c : Code} {l : Nat} {fr : List Value} {σ : St} {x : Ex × List Value × St} (h : evC E call k fid c (some l) fr σ = some x) : (∃ a b, c = .seq a b) ∨ ∃ l', c = .label l' := by
  cases c <;> first | exact .inl ⟨_, _, rfl⟩ | exact .inr ⟨_, rfl⟩ | (simp [evC] at h)

theorem thenC_cases {x : Out} {f : List Value → St → Out} {y : Ex × List Value × St} (h : thenC x f = some y) :
    (∃ fr σ, x = some (.normal, fr, σ) ∧ f fr σ = some y) ∨ (x = some y ∧ y.1 ≠ .normal) := by
  unfold thenC at h
  split at h
  · rename_i fr σ; exact .inl ⟨fr, σ, rfl, h⟩
  · rename_i hne
    right
    refine ⟨h, fun e => ?_⟩
    obtain ⟨e', fr, σ⟩ := y
    simp only at e
    subst e
    exact hne fr σ h

theorem seq_rule {E : Env} {w0 : World} {μ : Mu} {x y : Code} {a : Act} {w : World} {n : Nat} {e1 e : Ex} {fr1 frf : List Value} {σ1 σf : St} (h : x.wp E.P (PostC E w0 μ n e1 fr1 σ1) a w)
    (h2 : (e1 = .normal ∧ n ≤ σ1.next ∧ ∀ μ1 a1 w1, FRel E.old μ1 fr1 a1 → Rel E w0 μ1 σ1 w1 → y.wp E.P (PostC E w0 μ1 σ1.next e frf σf) a1 w1) ∨ (e1 ≠ .normal ∧ e1 = e ∧ fr1 = frf ∧ σ1 = σf)) :
    (Code.seq x y).wp E.P (PostC E w0 μ n e frf σf) a w := by
  refine wp_seq (wp_mono h ?_)
  intro ex a1 w1 hp
  rcases h2 with ⟨rfl, hn, h2⟩ | ⟨hne, rfl, rfl, rfl⟩
  · obtain ⟨hx, μ1, hext, hf, hr⟩ := hp
    have := hx.refl_normal
    subst this
    exact wp_mono (h2 μ1 a1 w1 hf hr) fun ex a w h => h.weaken hn hext
  · cases ex with
    | normal => exact absurd (by cases e1 <;> first | rfl | exact hp.1.elim) hne
    | _ => exact hp

theorem evC_sound (hcall : CallOK E call) (hmixed : E.P.follows .mixedOrders = true) : ∀ (c : Code), codeOk E.P (E.pairs fid) c = true → CodeS E w0 call k fid c
  | .skip, _ => by
    intro entry fr σ e frf σf h
    cases entry with
    | some l => simp [evC] at h
    | none =>
      simp only [evC, Option.some.injEq, Prod.mk.injEq] at h
      obtain ⟨rfl, rfl, rfl⟩ := h
      exact ⟨Nat.le_refl _, fun μ a w hf hr => ⟨fun _ => wp_skip ⟨trivial, μ, fun _ _ => rfl, hf, hr⟩, fun l rest h => by cases h⟩⟩
  | .label l', _ => by
    intro entry fr σ e frf σf h
    cases entry with
    | some l =>
      simp only [evC] at h
      split at h
      · rename_i hl
        subst hl
        cases h
        refine ⟨Nat.le_refl _, fun μ a w hf hr => ⟨fun h => (by cases h), fun l rest h hfl => ?_⟩⟩
        cases h
        simp [findLabel] at hfl
        subst hfl
        exact wp_skip ⟨trivial, μ, fun _ _ => rfl, hf, hr⟩
      · cases h
    | none =>
      simp only [evC, Option.some.injEq, Prod.mk.injEq] at h
      obtain ⟨rfl, rfl, rfl⟩ := h
      exact ⟨Nat.le_refl _, fun μ a w hf hr => ⟨fun _ => wp_label ⟨trivial, μ, fun _ _ => rfl, hf, hr⟩, fun l rest h => by cases h⟩⟩
  | .exit id, _ => by
    intro entry fr σ e frf σf h
    cases entry with
    | some l => simp [evC] at h
    | none =>
      simp only [evC, Option.some.injEq, Prod.mk.injEq] at h
      obtain ⟨rfl, rfl, rfl⟩ := h
      exact ⟨Nat.le_refl _, fun μ a w hf hr => ⟨fun _ => wp_exit ⟨rfl, μ, fun _ _ => rfl, hf, hr⟩, fun l rest h => by cases h⟩⟩
  | .goto l', _ => by
    intro entry fr σ e frf σf h
    cases entry with
    | some l => simp [evC] at h
    | none =>
      simp only [evC, Option.some.injEq, Prod.mk.injEq] at h
      obtain ⟨rfl, rfl, rfl⟩ := h
      exact ⟨Nat.le_refl _, fun μ a w hf hr => ⟨fun _ => wp_goto ⟨rfl, μ, fun _ _ => rfl, hf, hr⟩, fun l rest h => by cases h⟩⟩
  | .ret, _ => by
    intro entry fr σ e frf σf h
    cases entry with
    | some l => simp [evC] at h
    | none =>
      simp only [evC, Option.some.injEq, Prod.mk.injEq] at h
      obtain ⟨rfl, rfl, rfl⟩ := h
      exact ⟨Nat.le_refl _, fun μ a w hf hr => ⟨fun _ => wp_ret ⟨trivial, μ, fun _ _ => rfl, hf, hr⟩, fun l rest h => by cases h⟩⟩
  | .rangeFunc .., _ => by
    intro entry fr σ e frf σf h
    cases entry <;> simp [evC] at h
  | .refuse _, _ => by
    intro entry fr σ e frf σf h
    cases entry <;> simp [evC] at h
  | .region id ops draw, hok => by
    intro entry fr σ e frf σf h
    cases entry with
    | some l => simp [evC] at h
    | none =>
      simp only [evC] at h
      split at h
      · rename_i fr' σ' hrun
        cases h
        exact ⟨evRegion_next hcall hrun, fun μ a w hf hr => ⟨fun _ => region_sim hcall hok hmixed hrun hf hr fun μ' a' w' hext hf' hr' => ⟨trivial, μ', hext, hf', hr'⟩, fun l rest h => by cases h⟩⟩
      · cases h
  | .seq x y, hok => by
    simp only [codeOk, Bool.and_eq_true] at hok
    have ihx := evC_sound hcall hmixed x hok.1
    have ihy := evC_sound hcall hmixed y hok.2
    intro entry fr σ e frf σf h
    cases entry with
    | none =>
      simp only [evC] at h
      rcases thenC_cases h with ⟨fr1, σ1, h1, h2⟩ | ⟨h1, hne⟩
      · obtain ⟨n1, hx⟩ := ihx _ _ _ _ _ _ h1
        obtain ⟨n2, hy⟩ := ihy _ _ _ _ _ _ h2
        refine ⟨Nat.le_trans n1 n2, fun μ a w hf hr => ⟨fun _ => ?_, fun l rest h => by cases h⟩⟩
        exact seq_rule ((hx μ a w hf hr).1 rfl) (.inl ⟨rfl, n1, fun μ1 a1 w1 hf1 hr1 => (hy μ1 a1 w1 hf1 hr1).1 rfl⟩)
      · obtain ⟨n1, hx⟩ := ihx _ _ _ _ _ _ h1
        refine ⟨n1, fun μ a w hf hr => ⟨fun _ => ?_, fun l rest h => by cases h⟩⟩
        exact seq_rule ((hx μ a w hf hr).1 rfl) (.inr ⟨hne, rfl, rfl, rfl⟩)
    | some l =>
      simp only [evC] at h
      split at h
      · rename_i hl
        rcases thenC_cases h with ⟨fr1, σ1, h1, h2⟩ | ⟨h1, hne⟩
        · obtain ⟨n1, hx⟩ := ihx _ _ _ _ _ _ h1
          obtain ⟨n2, hy⟩ := ihy _ _ _ _ _ _ h2
          refine ⟨Nat.le_trans n1 n2, fun μ a w hf hr => ⟨fun h => (by cases h), fun l' rest h hfl => ?_⟩⟩
          cases h
          rw [hasLabel_iff] at hl
          obtain ⟨r, hr'⟩ := Option.isSome_iff_exists.1 hl
          simp only [findLabel, hr', Option.some.injEq] at hfl
          subst hfl
          exact seq_rule ((hx μ a w hf hr).2 l r rfl hr') (.inl ⟨rfl, n1, fun μ1 a1 w1 hf1 hr1 => (hy μ1 a1 w1 hf1 hr1).1 rfl⟩)
        · obtain ⟨n1, hx⟩ := ihx _ _ _ _ _ _ h1
          refine ⟨n1, fun μ a w hf hr => ⟨fun h => (by cases h), fun l' rest h hfl => ?_⟩⟩
          cases h
          rw [hasLabel_iff] at hl
          obtain ⟨r, hr'⟩ := Option.isSome_iff_exists.1 hl
          simp only [findLabel, hr', Option.some.injEq] at hfl
          subst hfl
          exact seq_rule ((hx μ a w hf hr).2 l r rfl hr') (.inr ⟨hne, rfl, rfl, rfl⟩)
      · rename_i hl
        obtain ⟨n2, hy⟩ := ihy _ _ _ _ _ _ h
        refine ⟨n2, fun μ a w hf hr => ⟨fun h => (by cases h), fun l' rest h hfl => ?_⟩⟩
        cases h
        rw [hasLabel_iff] at hl
        have hnone : findLabel x l = none := by cases hq : findLabel x l <;> simp [hq] at hl ⊢
        simp only [findLabel, hnone] at hfl
        exact (hy μ a w hf hr).2 l rest rfl hfl
  | .cond c x y, hok => by
    simp only [codeOk, Bool.and_eq_true] at hok
    have ihx := evC_sound hcall hmixed x hok.2.1
    have ihy := evC_sound hcall hmixed y hok.2.2
    intro entry fr σ e frf σf h
    cases entry with
    | some l => simp [evC] at h
    | none =>
      simp only [evC] at h
      split at h
      · rename_i t ht
        have hb : ∀ μ a, FRel E.old μ fr a → a.eval c = .bool t := fun μ a hf => by
          have := hf.opd hok.1
          rw [ht] at this
          exact this.flat_eq rfl
        split at h
        · rename_i htt
          obtain ⟨n1, hx⟩ := ihx _ _ _ _ _ _ h
          refine ⟨n1, fun μ a w hf hr => ⟨fun _ => wp_cond_true (by rw [hb μ a hf, htt]) ((hx μ a w hf hr).1 rfl), fun l rest h => by cases h⟩⟩
        · rename_i htt
          obtain ⟨n1, hx⟩ := ihy _ _ _ _ _ _ h
          refine ⟨n1, fun μ a w hf hr => ⟨fun _ => wp_cond_false (by rw [hb μ a hf]; simpa using htt) ((hx μ a w hf hr).1 rfl), fun l rest h => by cases h⟩⟩
      · cases h
  | .block id c, hok => by
    have ih := evC_sound hcall hmixed c hok
    intro entry fr σ e frf σf h
    cases entry with
    | some l => simp [evC] at h
    | none =>
      simp only [evC] at h
      split at h
      · rename_i id' fr' σ' h1
        obtain ⟨n1, hx⟩ := ih _ _ _ _ _ _ h1
        split at h
        · rename_i hid
          cases h
          refine ⟨n1, fun μ a w hf hr => ⟨fun _ => wp_block (wp_mono ((hx μ a w hf hr).1 rfl) ?_), fun l rest h => by cases h⟩⟩
          rintro ex a1 w1 ⟨hx1, rest⟩
          have := hx1.exit_eq
          subst this
          simp only [Exit.inBlock, hid, if_true]
          exact ⟨trivial, rest⟩
        · rename_i hid
          cases h
          refine ⟨n1, fun μ a w hf hr => ⟨fun _ => wp_block (wp_mono ((hx μ a w hf hr).1 rfl) ?_), fun l rest h => by cases h⟩⟩
          rintro ex a1 w1 ⟨hx1, rest⟩
          have := hx1.exit_eq
          subst this
          simp only [Exit.inBlock, hid, if_false]
          exact ⟨rfl, rest⟩
      · rename_i hne
        obtain ⟨n1, hx⟩ := ih _ _ _ _ _ _ h
        refine ⟨n1, fun μ a w hf hr => ⟨fun _ => wp_block (wp_mono ((hx μ a w hf hr).1 rfl) ?_), fun l rest h => by cases h⟩⟩
        rintro ex a1 w1 ⟨hx1, rest⟩
        cases ex with
        | exit id' =>
          cases e with
          | exit i => exact absurd h (hne i frf σf)
          | _ => exact hx1.elim
        | _ => exact ⟨hx1, rest⟩
  | .loop c, hok => by
    have ih := evC_sound hcall hmixed c hok
    intro entry fr σ e frf σf h
    cases entry with
    | some l => simp [evC] at h
    | none =>
      simp only [evC] at h
      have key : ∀ (m : Nat) (fr : List Value) (σ : St), iter (evC E call k fid c none) m fr σ = some (e, frf, σf) → σ.next ≤ σf.next ∧ ∀ μ a w, FRel E.old μ fr a → Rel E w0 μ σ w →
          Code.rounds E.P c (PostC E w0 μ σ.next e frf σf) m a w := by
        intro m
        induction m with
        | zero => intro fr σ h; simp [iter] at h
        | succ m ihm =>
          intro fr σ h
          simp only [iter] at h
          split at h
          · rename_i fr1 σ1 h1
            obtain ⟨n1, hx⟩ := ih _ _ _ _ _ _ h1
            obtain ⟨n2, hy⟩ := ihm fr1 σ1 h
            refine ⟨Nat.le_trans n1 n2, fun μ a w hf hr => ?_⟩
            rw [rounds_succ]
            refine wp_mono ((hx μ a w hf hr).1 rfl) ?_
            rintro ex a1 w1 ⟨hx1, μ1, hext, hf1, hr1⟩
            have := hx1.refl_normal
            subst this
            have hrd := hy μ1 a1 w1 hf1 hr1
            have mono : ∀ m a w, Code.rounds E.P c (PostC E w0 μ1 σ1.next e frf σf) m a w → Code.rounds E.P c (PostC E w0 μ σ.next e frf σf) m a w := by
              intro m
              induction m with
              | zero => intro a w h; exact h
              | succ m ihm =>
                intro a w h
                rw [rounds_succ] at h ⊢
                refine wp_mono h ?_
                intro ex a w hp
                cases ex with
                | normal => exact ihm a w hp
                | _ => exact PostC.weaken n1 hext hp
            exact mono _ _ _ hrd
          · rename_i hne
            obtain ⟨n1, hx⟩ := ih _ _ _ _ _ _ h
            refine ⟨n1, fun μ a w hf hr => ?_⟩
            rw [rounds_succ]
            refine wp_mono ((hx μ a w hf hr).1 rfl) ?_
            rintro ex a1 w1 ⟨hx1, rest⟩
            cases ex with
            | normal =>
              cases e with
              | normal => exact absurd h (hne frf σf)
              | _ => exact hx1.elim
            | _ => exact ⟨hx1, rest⟩
      obtain ⟨n1, hx⟩ := key k fr σ h
      exact ⟨n1, fun μ a w hf hr => ⟨fun _ => wp_loop_rounds k (hx μ a w hf hr), fun l rest h => by cases h⟩⟩
  | .scope c, hok => by
    have ih := evC_sound hcall hmixed c hok
    intro entry fr σ e frf σf h
    cases entry with
    | some l => simp [evC] at h
    | none =>
      simp only [evC] at h
      have mono : ∀ {μ μ1 : Mu} {n n1 : Nat}, n ≤ n1 → (∀ x, x < n → μ1 x = μ x) → ∀ m cd a w, hops E.P c (PostC E w0 μ1 n1 e frf σf) m cd a w → hops E.P c (PostC E w0 μ n e frf σf) m cd a w := by
        intro μ μ1 n n1 hn hext m
        induction m with
        | zero => intro cd a w h; exact h
        | succ m ihm =>
          intro cd a w h
          simp only [hops] at h ⊢
          refine wp_mono h ?_
          intro ex a w hp
          cases ex with
          | goto l =>
            simp only at hp ⊢
            cases hfl : findLabel c l with
            | some rest => rw [hfl] at hp; exact ihm rest a w hp
            | none => rw [hfl] at hp; exact PostC.weaken hn hext hp
          | _ => exact PostC.weaken hn hext hp
      have key : ∀ (m : Nat) (entry : Option Nat) (fr : List Value) (σ : St), hop (hasLabel c) (evC E call k fid c) m entry fr σ = some (e, frf, σf) → σ.next ≤ σf.next ∧ ∀ μ a w, FRel E.old μ fr a → Rel E w0 μ σ w →
          (entry = none → hops E.P c (PostC E w0 μ σ.next e frf σf) m c a w) ∧ (∀ l rest, entry = some l → findLabel c l = some rest → hops E.P c (PostC E w0 μ σ.next e frf σf) m rest a w) := by
        intro m
        induction m with
        | zero => intro entry fr σ h; simp [hop] at h
        | succ m ihm =>
          intro entry fr σ h
          simp only [hop] at h
          have pass : ∀ (e1 : Ex) (fr1 : List Value) (σ1 : St), evC E call k fid c entry fr σ = some (e1, fr1, σ1) →
              ((∃ l, e1 = .goto l ∧ hasLabel c l = true ∧ hop (hasLabel c) (evC E call k fid c) m (some l) fr1 σ1 = some (e, frf, σf)) ∨ (e1 = e ∧ fr1 = frf ∧ σ1 = σf ∧ ∀ l, e1 = .goto l → hasLabel c l = false)) →
              σ.next ≤ σf.next ∧ ∀ μ a w, FRel E.old μ fr a → Rel E w0 μ σ w →
                (entry = none → hops E.P c (PostC E w0 μ σ.next e frf σf) (m + 1) c a w) ∧ (∀ l rest, entry = some l → findLabel c l = some rest → hops E.P c (PostC E w0 μ σ.next e frf σf) (m + 1) rest a w) := by
            intro e1 fr1 σ1 h1 hcase
            obtain ⟨n1, hx⟩ := ih _ _ _ _ _ _ h1
            have post : σ.next ≤ σf.next ∧ ∀ μ ex a1 w1, PostC E w0 μ σ.next e1 fr1 σ1 ex a1 w1 →
                (match ex with | .goto l => (match findLabel c l with | some rest => hops E.P c (PostC E w0 μ σ.next e frf σf) m rest a1 w1 | none => PostC E w0 μ σ.next e frf σf (.goto l) a1 w1) | ex => PostC E w0 μ σ.next e frf σf ex a1 w1) := by
              rcases hcase with ⟨l, rfl, hl, h2⟩ | ⟨rfl, rfl, rfl, hno⟩
              · obtain ⟨n2, hy⟩ := ihm _ _ _ h2
                refine ⟨Nat.le_trans n1 n2, ?_⟩
                rintro μ ex a1 w1 ⟨hx1, μ1, hext, hf1, hr1⟩
                have := hx1.goto_eq
                subst this
                rw [hasLabel_iff] at hl
                obtain ⟨rest, hrest⟩ := Option.isSome_iff_exists.1 hl
                simp only [hrest]
                exact mono n1 hext _ _ _ _ ((hy μ1 a1 w1 hf1 hr1).2 l rest rfl hrest)
              · refine ⟨n1, ?_⟩
                rintro μ ex a1 w1 ⟨hx1, hrest⟩
                cases ex with
                | goto l =>
                  have he : e1 = .goto l := by cases e1 <;> first | exact hx1.elim | (simp only [ExRel] at hx1; rw [hx1])
                  have hl := hno l he
                  rw [hasLabel_iff] at hl
                  have hnone : findLabel c l = none := by cases hq : findLabel c l <;> simp [hq] at hl ⊢
                  simp only [hnone]
                  exact ⟨hx1, hrest⟩
                | _ => exact ⟨hx1, hrest⟩
            refine ⟨post.1, fun μ a w hf hr => ⟨fun he => ?_, fun l rest he hfl => ?_⟩⟩
            · exact wp_mono ((hx μ a w hf hr).1 he) (fun ex a w hp => post.2 μ ex a w hp)
            · exact wp_mono ((hx μ a w hf hr).2 l rest he hfl) (fun ex a w hp => post.2 μ ex a w hp)
          split at h
          · rename_i l fr1 σ1 h1
            split at h
            · rename_i hl
              exact pass _ _ _ h1 (.inl ⟨l, rfl, hl, h⟩)
            · rename_i hl
              cases h
              exact pass _ _ _ h1 (.inr ⟨rfl, rfl, rfl, fun l' e => by cases e; simpa using hl⟩)
          · rename_i hne
            exact pass _ _ _ h (.inr ⟨rfl, rfl, rfl, fun l' he => absurd (by rw [h, he]) (hne l' frf σf)⟩)
      obtain ⟨n1, hx⟩ := key k none fr σ h
      exact ⟨n1, fun μ a w hf hr => ⟨fun _ => wp_scope_hops k ((hx μ a w hf hr).1 rfl), fun l rest h => by cases h⟩⟩
end

/-! ### Functions -/

theorem resV_spec {E : Env} {w0 w : World} {μ : Mu} {σ : St} (hr : Rel E w0 μ σ w) {fr : List Value} {a : Act} (hf : FRel E.old μ fr a) : ∀ (l : List ResultVar) (vs : List Value), resV E fr σ l = some vs →
    ∃ vs', (l.mapM fun (r : ResultVar) => match r with
      | .tmp t => (pure (a.tmps.getD t undef) : Sem Value)
      | .cell x t => do loadVar t (← asAddr (a.tmps.getD x undef))).run E.P w = .ok vs' w ∧ LRel E.old μ vs vs' := by
  intro l
  induction l with
  | nil => intro vs h; simp [resV] at h; subst h; exact ⟨[], by simp, ⟨rfl, fun i x y hx _ => by simp at hx⟩⟩
  | cons r l ih =>
    intro vs h
    have cons_rel : ∀ {v v' : Value} {vs vs' : List Value}, VRel E.old μ v v' → LRel E.old μ vs vs' → LRel E.old μ (v :: vs) (v' :: vs') := by
      intro v v' vs vs' hv hl
      refine ⟨by simp [hl.1], fun i x y hx hy => ?_⟩
      cases i with
      | zero => simp at hx hy; subst hx; subst hy; exact hv
      | succ i => exact hl.2 i x y (by simpa using hx) (by simpa using hy)
    cases r with
    | tmp t =>
      simp only [resV] at h
      cases hl : resV E fr σ l with
      | none => simp [hl] at h
      | some vs1 =>
        simp only [hl, Option.map_some, Option.some.injEq] at h
        subst h
        obtain ⟨vs', h1, h2⟩ := ih vs1 hl
        exact ⟨a.tmps.getD t undef :: vs', by simp only [List.mapM_cons, Sem.run_bind, Sem.run_pure, Result.andThen_ok, h1], cons_rel (hf.get t) h2⟩
    | cell x t =>
      simp only [resV] at h
      split at h
      · rename_i e vs1 he hl
        cases h
        obtain ⟨vs', h1, h2⟩ := ih vs1 hl
        have he0 := he
        unfold evLoad at he0
        split at he0
        · rename_i p hp
          have hx := hf.get x
          rw [hp] at hx he
          obtain ⟨c, hc, ha⟩ := hx.inv_pointer
          obtain ⟨v', q1, q2, _⟩ := load_spec hr ha he
          refine ⟨v' :: vs', ?_, cons_rel q2 h2⟩
          have hstep : (asAddr (a.tmps.getD x undef)).run E.P w = .ok c w := by rw [hc]; rfl
          simp only [List.mapM_cons, Sem.run_bind, hstep, Sem.run_pure, Result.andThen_ok, q1, h1]
        · cases he0
      · cases h

theorem resOf_spec {E : Env} {w0 w : World} {μ : Mu} {σ : St} (hr : Rel E w0 μ σ w) {fr : List Value} {a : Act} (hf : FRel E.old μ fr a) {fn : Func} {v : Value} (h : resOf E fn fr σ = some v) :
    ∃ v', (results fn a.tmps).run E.P w = .ok v' w ∧ VRel E.old μ v v' := by
  unfold resOf at h
  cases hl : resV E fr σ fn.results.toList with
  | none => simp [hl] at h
  | some vs =>
    obtain ⟨vs', h1, h2⟩ := resV_spec hr hf _ _ hl
    have hrun : (results fn a.tmps).run E.P w = .ok (if h : vs'.toArray.size = 1 then vs'.toArray[0] else .tuple vs'.toArray) w := by
      have e : results fn a.tmps = (do
          let vs ← (List.toArray <$> fn.results.toList.mapM fun (r : ResultVar) => match r with
            | .tmp t => (pure (a.tmps.getD t undef) : Sem Value)
            | .cell x t => do loadVar t (← asAddr (a.tmps.getD x undef)))
          pure (if h : vs.size = 1 then vs[0] else .tuple vs)) := by
        unfold results
        rw [Array.mapM_eq_mapM_toList]
        rfl
      rw [e]
      simp only [Sem.run_bind, Sem.run_map, h1, Result.andThen_ok, Sem.run_pure]
    rw [hl] at h
    have hlen := h2.1
    split at h
    · rename_i u hu
      cases hu
      cases h
      match vs', h2, hrun with
      | [u'], h2, hrun => exact ⟨u', by simpa using hrun, h2.2 0 _ _ rfl rfl⟩
      | [], h2, _ => simp [LRel] at h2
      | _ :: _ :: _, h2, _ => simp [LRel] at h2
    · rename_i l hne hll
      cases hll
      cases h
      have hn1 : vs'.length ≠ 1 := by
        intro e
        rw [← hlen] at e
        match vs, e, hne with
        | [u], _, hne => exact hne u rfl
      refine ⟨.tuple vs'.toArray, by rw [hrun]; simp [hn1], .tuple _ _ (by simpa using h2.1) (fun i x y hx hy => h2.2 i x y (by simpa using hx) (by simpa using hy))⟩
    · rename_i hnn
      cases hnn

theorem evBody_sound {E : Env} {w0 : World} {call : CallF} (hcall : CallOK E call) (hmixed : E.P.follows .mixedOrders = true) {k : Nat} {f : FuncId} {fn : Func} {c : Code} (hfn : E.P.funcs[f]? = some fn) (hb : fn.body = some c)
    (hok : codeOk E.P (E.pairs f) c = true) {args : List Value} {σ σ' : St} {v : Value} (h : evBody E call k f fn c args σ = some (v, σ')) :
    σ.next ≤ σ'.next ∧ ∀ (μ : Mu) (w : World) (args' : Array Value), Rel E w0 μ σ w → LRel E.old μ args args'.toList →
      Calls E.P f args' w fun e w' => ∃ v' μ', e = .returned v' ∧ VRel E.old μ' v v' ∧ Rel E w0 μ' σ' w' ∧ ∀ a, a < σ.next → μ' a = μ a := by
  unfold evBody at h
  have fin : ∀ (ex : Ex) (fr : List Value) (σ2 : St), evC E call k f c none (args ++ List.replicate (fn.ntmps - args.length) undef) σ = some (ex, fr, σ2) → (ex = .normal ∨ ex = .ret) → (resOf E fn fr σ2).map (fun v => (v, σ2)) = some (v, σ') →
      σ.next ≤ σ'.next ∧ ∀ (μ : Mu) (w : World) (args' : Array Value), Rel E w0 μ σ w → LRel E.old μ args args'.toList →
        Calls E.P f args' w fun e w' => ∃ v' μ', e = .returned v' ∧ VRel E.old μ' v v' ∧ Rel E w0 μ' σ' w' ∧ ∀ a, a < σ.next → μ' a = μ a := by
    intro ex fr σ2 hev hex hres
    cases hro : resOf E fn fr σ2 with
    | none => simp [hro] at hres
    | some v2 =>
      simp only [hro, Option.map_some, Option.some.injEq, Prod.mk.injEq] at hres
      obtain ⟨rfl, rfl⟩ := hres
      obtain ⟨n1, hx⟩ := evC_sound (w0 := w0) hcall hmixed c hok _ _ _ _ _ _ hev
      refine ⟨n1, fun μ w args' hr ha => ?_⟩
      refine calls_of_wp hfn hb ?_
      have hfr : FRel E.old μ (args ++ List.replicate (fn.ntmps - args.length) undef) { tmps := args' ++ Array.replicate (fn.ntmps - args'.size) undef, defers := [] } := by
        refine ⟨?_, rfl⟩
        have hs : args.length = args'.size := by simpa using ha.1
        have hu : LRel E.old μ (List.replicate (fn.ntmps - args.length) undef) (List.replicate (fn.ntmps - args.length) undef) := by
          refine ⟨rfl, fun i x y hx hy => ?_⟩
          have e1 := List.eq_of_mem_replicate (List.mem_of_getElem? hx)
          have e2 := List.eq_of_mem_replicate (List.mem_of_getElem? hy)
          rw [e1, e2]
          exact .undef _ _
        have := ha.append hu
        simpa [hs] using this
      refine wp_mono ((hx μ _ w hfr hr).1 rfl) ?_
      rintro e a w' ⟨hxe, μ', hext, hf', hr'⟩
      obtain ⟨v', q1, q2⟩ := resOf_spec hr' hf' hro
      have hpost : a.defers = [] ∧ ∃ v, (results fn a.tmps).run E.P w' = .ok v w' ∧ ∃ v' μ', Ending.returned v = .returned v' ∧ VRel E.old μ' v2 v' ∧ Rel E w0 μ' σ2 w' ∧ ∀ a, a < σ.next → μ' a = μ a :=
        ⟨hf'.defers, v', q1, v', μ', rfl, q2, hr', hext⟩
      rcases hex with rfl | rfl
      · have := hxe.refl_normal; subst this; exact hpost
      · have := hxe.ret_eq; subst this; exact hpost
  split at h
  · rename_i fr σ2 hev; exact fin _ _ _ hev (.inl rfl) h
  · rename_i fr σ2 hev; exact fin _ _ _ hev (.inr rfl) h
  · cases h

/-- The program's text, once looked at. -/
structure ProgOk (E : Env) : Prop where
  mixed : E.P.follows .mixedOrders = true
  code : ∀ f fn c, E.P.funcs[f]? = some fn → fn.body = some c → codeOk E.P (E.pairs f) c = true ∧ fn.name ≠ "runtime.NumGoroutine"

/-- The same, of all functions at once: a Bool for the kernel. -/
def progOkB (P : Program) (pairs : FuncId → Nat → List (Nat × Nat)) : Bool :=
  (P.funcs.toList.zipIdx).all fun x => match x.1.body with
    | some c => codeOk P (pairs x.2) c && decide (x.1.name ≠ "runtime.NumGoroutine")
    | none => true

theorem progOk_of {E : Env} (hm : E.P.follows .mixedOrders = true) (h : progOkB E.P E.pairs = true) : ProgOk E := by
  refine ⟨hm, fun f fn c hfn hb => ?_⟩
  have := List.all_eq_true.1 h (fn, f) (by rw [List.mem_zipIdx_iff_getElem?]; simpa using hfn)
  simp only [hb, Bool.and_eq_true, decide_eq_true_eq] at this
  exact this
end Go.Ab

/- From the abstract evaluator to a call in the model; functions that only compute. -/
set_option linter.all false
open Go.RowKit
namespace Go.Ab

/-- The surroundings of a call in a world. -/
def envAt (P : Program) (pairs : FuncId → Nat → List (Nat × Nat)) (w : World) : Env :=
  { P, old := w.heap.size, base := fun a => w.cell? a, sum := fun _ _ _ => none, pairs }

/-- Surroundings in which nothing is there. -/
def envNil (P : Program) (pairs : FuncId → Nat → List (Nat × Nat)) : Env :=
  { P, old := 0, base := fun _ => none, sum := fun _ _ _ => none, pairs }

theorem rel_at (P : Program) (pairs : FuncId → Nat → List (Nat × Nat)) (w : World) : Rel (envAt P pairs w) w (fun _ => none) ⟨.leaf, w.heap.size⟩ w :=
  ⟨Below.refl _ _, Nat.le_refl _, Nat.le_refl _, fun a v _ _ h => h, fun a p h => (by cases h), fun a b h => (by cases h), fun a p h => (by cases h), fun a a' b b' p p' h => (by cases h)⟩

theorem rel_nil (P : Program) (pairs : FuncId → Nat → List (Nat × Nat)) (w : World) : Rel (envNil P pairs) w (fun _ => none) ⟨.leaf, 0⟩ w :=
  ⟨Below.refl _ _, Nat.zero_le _, Nat.le_refl _, fun a v _ h _ => absurd h (Nat.not_lt_zero _), fun a p h => (by cases h), fun a b h => (by cases h), fun a p h => (by cases h), fun a a' b b' p p' h => (by cases h)⟩

/-- A value that bears no number of a block, or a row of such. -/
def plainV : Value → Bool
  | .tuple vs => vs.toList.all scalar
  | v => scalar v

theorem VRel.plain_eq {old : Nat} {μ : Mu} {v v' : Value} (h : VRel old μ v v') (hp : plainV v = true) : v' = v := by
  cases v with
  | tuple xs =>
    obtain ⟨ys, rfl, hs, hrel⟩ := h.inv_tuple
    have : ys.toList = xs.toList := list_eq_of (by simpa using hs) fun i x y hx hy => (hrel i x y (by simpa using hx) (by simpa using hy)).scalar_eq (List.all_eq_true.1 hp x (List.mem_of_getElem? hx))
    rw [show ys = xs from Array.ext' this]
  | _ => exact h.scalar_eq hp

theorem VRel.of_plain {old : Nat} {μ : Mu} {v : Value} (hp : plainV v = true) : VRel old μ v v := by
  cases v with
  | tuple xs =>
    refine .tuple _ _ rfl fun i x y hx hy => ?_
    rw [hx] at hy
    cases hy
    exact .of_scalar (List.all_eq_true.1 hp x (by simpa using Array.mem_of_getElem? hx))
  | _ => exact .of_scalar hp

theorem Rel.later {E : Env} {w0 w w' : World} {μ : Mu} {σ : St} (hr : Rel E w0 μ σ w) (hb : Below w.heap.size w w') : Rel E w0 μ σ w' :=
  ⟨hr.below.trans (hb.mono hr.below.size), hr.old_le, hr.old_next, hr.base, hr.dom,
    fun a b h => let ⟨p, hp, hbr⟩ := hr.blk a b h; ⟨p, hp, hbr.world (hb.block _ (hr.new a p hp).2)⟩,
    fun a p h => ⟨(hr.new a p h).1, by have := (hr.new a p h).2; have := hb.size; omega⟩, hr.inj⟩

/-- One function's contract. -/
def FnSound (E : Env) (f : FuncId) (s : List Value → St → Option (Value × St)) : Prop :=
  ∀ (w0 : World) (args : List Value) (σ : St) (v : Value) (σ' : St), s args σ = some (v, σ') →
    ((∃ fn, E.P.funcs[f]? = some fn ∧ fn.body.isSome = true ∧ fn.name ≠ "runtime.NumGoroutine") ∧ σ.next ≤ σ'.next ∧
    ∀ (μ : Mu) (w : World) (args' : Array Value), Rel E w0 μ σ w → LRel E.old μ args args'.toList →
      Calls E.P f args' w fun e w' => ∃ v' μ', e = .returned v' ∧ VRel E.old μ' v v' ∧ Rel E w0 μ' σ' w' ∧ ∀ a, a < σ.next → μ' a = μ a) ∨ ExtOK E w0 f args σ v σ'

/-- It stays right with one more block on the heap. -/
def FnMono (s : List Value → St → Option (Value × St)) : Prop := ∀ (args : List Value) (σ : St) (v : Value) (σ' : St) (n : Nat) (x : Option Blk), σ.heap.get n = none → n < σ.next → s args σ = some (v, σ') →
  σ'.heap.get n = none ∧ σ.next ≤ σ'.next ∧ s args ⟨σ.heap.set n x, σ.next⟩ = some (v, ⟨σ'.heap.set n x, σ'.next⟩)
structure FnOK (E : Env) (f : FuncId) (s : List Value → St → Option (Value × St)) : Prop where
  ok : FnSound E f s
  mono : FnMono s

/-- A table of contracts. -/
abbrev Tbl := List (FuncId × (List Value → St → Option (Value × St)))

def callT : Tbl → CallF
  | [], _, _, _ => none
  | (g, s) :: r, f, args, σ => if g = f then s args σ else callT r f args σ

theorem callT_sound {E : Env} : ∀ (t : Tbl), (∀ x ∈ t, FnOK E x.1 x.2) → CallSound E (callT t)
  | [], _ => fun w0 f args σ v σ' h => by cases h
  | (g, s) :: r, ht => by
    intro w0 f args σ v σ' h
    simp only [callT] at h
    split at h
    · rename_i he
      subst he
      exact (ht (g, s) (by simp)).ok w0 args σ v σ' h
    · exact callT_sound r (fun x hx => ht x (by simp [hx])) w0 f args σ v σ' h

theorem callT_mono {E : Env} : ∀ (t : Tbl), (∀ x ∈ t, FnOK E x.1 x.2) → Mono (callT t)
  | [], _ => fun f args σ v σ' n x _ _ h => by cases h
  | (g, s) :: r, ht => by
    intro f args σ v σ' n x h1 h2 h
    simp only [callT] at h ⊢
    split at h
    · rename_i he
      subst he
      rw [if_pos rfl]
      exact (ht (g, s) (by simp)).mono args σ v σ' n x h1 h2 h
    · rename_i he
      rw [if_neg he]
      exact callT_mono r (fun x hx => ht x (by simp [hx])) f args σ v σ' n x h1 h2 h

theorem callT_ok {E : Env} (t : Tbl) (ht : ∀ x ∈ t, FnOK E x.1 x.2) : CallOK E (callT t) := ⟨callT_sound t ht, callT_mono t ht⟩

/-- A function that only computes: on plain values, to a plain value; what is there stays as it is. -/
def lift (s : List Value → Option Value) (args : List Value) (σ : St) : Option (Value × St) :=
  match s args with
  | some v => some (v, σ)
  | none => none

theorem lift_mono (s : List Value → Option Value) : FnMono (lift s) := by
  intro args σ v σ' n x h1 h2 h
  unfold lift at h ⊢
  split at h
  · cases h; exact ⟨h1, Nat.le_refl _, rfl⟩
  · cases h

theorem pure_ok {P : Program} {pairs : FuncId → Nat → List (Nat × Nat)} (hm : P.follows .mixedOrders = true) (hp : progOkB P pairs = true) {f : FuncId} {fn : Func} {c : Code} (hfn : P.funcs[f]? = some fn) (hb : fn.body = some c)
    {s : List Value → Option Value} (t : Tbl) (ht : ∀ x ∈ t, FnOK (envNil P pairs) x.1 x.2)
    (h : ∀ args v, s args = some v → args.all scalar = true ∧ plainV v = true ∧ ∃ k σ', evBody (envNil P pairs) (callT t) k f fn c args ⟨.leaf, 0⟩ = some (v, σ')) (E : Env) (hE : E.P = P) : FnOK E f (lift s) := by
  refine ⟨?_, lift_mono s⟩
  intro w0 args σ v σ' hs
  unfold lift at hs
  split at hs
  · rename_i v1 hv1
    cases hs
    obtain ⟨ha, hpv, k, σ2, hev⟩ := h args v hv1
    have hpo := progOk_of (E := envNil P pairs) hm hp
    obtain ⟨hc, hn⟩ := hpo.code f fn c hfn hb
    refine .inl ⟨⟨fn, by rw [hE]; exact hfn, by simp [hb], hn⟩, Nat.le_refl _, fun μ w args' hr hl => ?_⟩
    have he := hl.of_scalars ha
    have hsound := (evBody_sound (w0 := w) (callT_ok t ht) hm hfn hb hc hev).2 (fun _ => none) w args' (rel_nil P pairs w) ⟨by rw [he], fun i x y hx hy => by rw [he] at hy; rw [hx] at hy; cases hy; exact .of_scalar (List.all_eq_true.1 ha x (List.mem_of_getElem? hx))⟩
    rw [hE]
    refine hsound.mono ?_
    rintro e w' ⟨v', μ', rfl, hvr, hr', _⟩
    have := hvr.plain_eq hpv
    subst this
    exact ⟨_, μ, rfl, .of_plain hpv, hr.later hr'.below, fun _ _ => rfl⟩
  · cases hs
end Go.Ab

/- Stepping through code with symbols in it: what code comes to, as a statement that simp takes apart. -/
set_option linter.all false
open Go.RowKit
namespace Go.Ab

def bindV {α : Type} (x : Option α) (f : α → Prop) : Prop := ∃ a, x = some a ∧ f a

@[simp] theorem bindV_some {α : Type} (a : α) (f : α → Prop) : bindV (some a) f = f a := by simp [bindV]
@[simp] theorem bindV_none {α : Type} (f : α → Prop) : bindV none f = False := by simp [bindV]
theorem bindV_map {α β : Type} (x : Option α) (g : α → β) (f : β → Prop) : bindV (x.map g) f = bindV x fun a => f (g a) := by cases x <;> simp
theorem bindV_ite {α : Type} (c : Prop) [Decidable c] (x y : Option α) (f : α → Prop) : bindV (if c then x else y) f = if c then bindV x f else bindV y f := by split <;> rfl
theorem bindV_mono {α : Type} {x : Option α} {f g : α → Prop} (h : bindV x f) (hfg : ∀ a, f a → g a) : bindV x g := let ⟨a, h1, h2⟩ := h; ⟨a, h1, hfg a h2⟩

/-- A call comes to so much. -/
def WCall (call : CallF) (f : FuncId) (args : List Value) (σ : St) (Q : Value → St → Prop) : Prop := ∃ v σ', call f args σ = some (v, σ') ∧ Q v σ'

theorem WCall.mono {call : CallF} {f : FuncId} {args : List Value} {σ : St} {Q Q' : Value → St → Prop} (h : WCall call f args σ Q) (hq : ∀ v σ', Q v σ' → Q' v σ') : WCall call f args σ Q' :=
  let ⟨v, σ', h1, h2⟩ := h; ⟨v, σ', h1, hq v σ' h2⟩

theorem wcall_pure {g : FuncId} {s : List Value → Option Value} {r : Tbl} {args : List Value} {σ : St} {Q : Value → St → Prop} : WCall (callT ((g, lift s) :: r)) g args σ Q = bindV (s args) fun v => Q v σ := by
  apply propext
  constructor
  · rintro ⟨v, σ', h, hq⟩
    simp only [callT, if_pos] at h
    unfold lift at h
    split at h
    · rename_i u hu; cases h; exact ⟨_, hu, hq⟩
    · cases h
  · rintro ⟨v, h, hq⟩
    exact ⟨v, σ, by simp [callT, lift, h], hq⟩

theorem wcall_skip {f g : FuncId} {s : List Value → St → Option (Value × St)} {r : Tbl} {args : List Value} {σ : St} {Q : Value → St → Prop} (h : g ≠ f) : WCall (callT ((g, s) :: r)) f args σ Q = WCall (callT r) f args σ Q := by
  unfold WCall
  simp only [callT, if_neg h]

theorem wcall_head {g : FuncId} {s : List Value → St → Option (Value × St)} {r : Tbl} {args : List Value} {σ : St} {Q : Value → St → Prop} : WCall (callT ((g, s) :: r)) g args σ Q = bindV (s args σ) fun x => Q x.1 x.2 := by
  apply propext
  unfold WCall bindV
  simp only [callT, if_pos]
  constructor
  · rintro ⟨v, σ', h, hq⟩; exact ⟨(v, σ'), h, hq⟩
  · rintro ⟨⟨v, σ'⟩, h, hq⟩; exact ⟨v, σ', h, hq⟩

/-- The rest of a region. -/
def WR (E : Env) (call : CallF) (ops : List Oper) (base i : Nat) (rest : List Oper) (fr : List Value) (σ : St) (Q : List Rec → List Value → St → Prop) : Prop :=
  (∀ k, rest[k]? = ops[i + k]?) → ∃ rs fr' σ', runOps E call ops base (List.range' i rest.length) fr σ = some (rs, fr', σ') ∧ Q rs fr' σ'

theorem wr_nil {E : Env} {call : CallF} {ops : List Oper} {base i : Nat} {fr : List Value} {σ : St} {Q : List Rec → List Value → St → Prop} (h : Q [] fr σ) : WR E call ops base i [] fr σ Q :=
  fun _ => ⟨[], fr, σ, rfl, h⟩

/-- One step of a region, as a statement. -/
def WStep (E : Env) (call : CallF) (ops : List Oper) (nid : Nat) (o : Oper) (fr : List Value) (σ : St) (K : Rec → List Value → St → Prop) : Prop :=
  if Region.wanted o (yieldA ops fr) then
    match callOf o with
    | some (f, args) => bindV (callee? (Opd fr f) (args.map (Opd fr))) fun x => WCall call x.1 x.2 σ fun v σ' => K (.call σ σ') (put fr o.dst v) σ'
    | none => bindV (evOp E (Opd fr) nid σ.heap.get o) fun e => K (.mem (fun g => evOp E (Opd fr) nid g o) e) (put fr o.dst e.val) ⟨upds σ.heap e.upd, σ.next⟩
  else K .quiet (put fr o.dst undef) σ

theorem wr_cons {E : Env} {call : CallF} {ops : List Oper} {base i : Nat} {o : Oper} {rest : List Oper} {fr : List Value} {σ : St} {Q : List Rec → List Value → St → Prop}
    (h : WStep E call ops (base + i) o fr σ fun r fr σ => WR E call ops base (i + 1) rest fr σ fun rs fr σ => Q (r :: rs) fr σ) : WR E call ops base i (o :: rest) fr σ Q := by
  intro hl
  have ho : ops[i]? = some o := by simpa using (hl 0).symm
  have hrest : ∀ k, rest[k]? = ops[i + 1 + k]? := fun k => by have := hl (k + 1); simp at this; rw [this]; congr 1; omega
  have fin : ∀ r fr1 σ1, step1 E call ops base i fr σ = some (r, fr1, σ1) → (WR E call ops base (i + 1) rest fr1 σ1 fun rs fr σ => Q (r :: rs) fr σ) →
      ∃ rs fr' σ', runOps E call ops base (List.range' i (o :: rest).length) fr σ = some (rs, fr', σ') ∧ Q rs fr' σ' := by
    intro r fr1 σ1 hs hw
    obtain ⟨rs, fr', σ', h1, h2⟩ := hw hrest
    refine ⟨r :: rs, fr', σ', ?_, h2⟩
    simp only [List.length_cons, List.range'_succ]
    exact mk_runOps hs h1
  unfold WStep at h
  split at h
  · rename_i hw
    split at h
    · rename_i f args hc
      obtain ⟨⟨fid, as⟩, hce, v, σ', hcall, hK⟩ := h
      refine fin _ _ _ ?_ hK
      unfold step1
      simp only [ho, hw, if_true, hc, hce, hcall]
    · rename_i hc
      obtain ⟨e, he, hK⟩ := h
      refine fin _ _ _ ?_ hK
      unfold step1
      simp only [ho, hw, if_true, hc, he]
  · rename_i hw
    refine fin _ _ _ ?_ h
    unfold step1
    simp only [ho, hw]
    rfl

/-- What code comes to. -/
def W (E : Env) (call : CallF) (k : Nat) (fid : FuncId) (c : Code) (en : Option Nat) (fr : List Value) (σ : St) (Q : Ex → List Value → St → Prop) : Prop :=
  ∃ e fr' σ', evC E call k fid c en fr σ = some (e, fr', σ') ∧ Q e fr' σ'

section
variable {E : Env} {call : CallF} {k : Nat} {fid : FuncId} {fr : List Value} {σ : St} {Q : Ex → List Value → St → Prop}

theorem W.mono {c : Code} {en : Option Nat} {Q' : Ex → List Value → St → Prop} (h : W E call k fid c en fr σ Q) (hq : ∀ e fr σ, Q e fr σ → Q' e fr σ) : W E call k fid c en fr σ Q' :=
  let ⟨e, fr', σ', h1, h2⟩ := h; ⟨e, fr', σ', h1, hq _ _ _ h2⟩

/-- Behind a piece of code: on with f, or out. -/
def onward (f : List Value → St → Prop) (Q : Ex → List Value → St → Prop) : Ex → List Value → St → Prop
  | .normal, fr, σ => f fr σ
  | e, fr, σ => Q e fr σ

theorem w_seq {x y : Code} (h : W E call k fid x none fr σ (onward (fun fr σ => W E call k fid y none fr σ Q) Q)) : W E call k fid (.seq x y) none fr σ Q := by
  obtain ⟨e, fr', σ', h1, h2⟩ := h
  unfold W
  simp only [evC, h1]
  cases e with
  | normal => exact h2
  | _ => exact ⟨_, _, _, rfl, h2⟩

theorem w_seq_at {x y : Code} {l : Nat} (hl : hasLabel x l = true) (h : W E call k fid x (some l) fr σ (onward (fun fr σ => W E call k fid y none fr σ Q) Q)) : W E call k fid (.seq x y) (some l) fr σ Q := by
  obtain ⟨e, fr', σ', h1, h2⟩ := h
  unfold W
  simp only [evC, hl, if_true, h1]
  cases e with
  | normal => exact h2
  | _ => exact ⟨_, _, _, rfl, h2⟩

theorem w_seq_past {x y : Code} {l : Nat} (hl : hasLabel x l = false) (h : W E call k fid y (some l) fr σ Q) : W E call k fid (.seq x y) (some l) fr σ Q := by
  unfold W at h ⊢
  simpa [evC, hl] using h

theorem w_label {l : Nat} (h : Q .normal fr σ) : W E call k fid (.label l) none fr σ Q := ⟨_, _, _, rfl, h⟩
theorem w_label_at {l : Nat} (h : Q .normal fr σ) : W E call k fid (.label l) (some l) fr σ Q := ⟨.normal, fr, σ, by simp [evC], h⟩
theorem w_skip (h : Q .normal fr σ) : W E call k fid .skip none fr σ Q := ⟨_, _, _, rfl, h⟩
theorem w_ret (h : Q .ret fr σ) : W E call k fid .ret none fr σ Q := ⟨_, _, _, rfl, h⟩
theorem w_exit {id : Nat} (h : Q (.exit id) fr σ) : W E call k fid (.exit id) none fr σ Q := ⟨_, _, _, rfl, h⟩
theorem w_goto {l : Nat} (h : Q (.goto l) fr σ) : W E call k fid (.goto l) none fr σ Q := ⟨_, _, _, rfl, h⟩

theorem w_cond {c : Operand} {x y : Code} {t : Bool} (hc : Opd fr c = .bool t) (h1 : t = true → W E call k fid x none fr σ Q) (h2 : t = false → W E call k fid y none fr σ Q) : W E call k fid (.cond c x y) none fr σ Q := by
  unfold W at *
  simp only [evC, hc]
  cases t with
  | true => simpa using h1 rfl
  | false => simpa using h2 rfl

/-- An exit from a block, caught. -/
def caught (id : Nat) (Q : Ex → List Value → St → Prop) : Ex → List Value → St → Prop
  | .exit id', fr, σ => if id' = id then Q .normal fr σ else Q (.exit id') fr σ
  | e, fr, σ => Q e fr σ

theorem w_block {id : Nat} {c : Code} (h : W E call k fid c none fr σ (caught id Q)) : W E call k fid (.block id c) none fr σ Q := by
  obtain ⟨e, fr', σ', h1, h2⟩ := h
  unfold W
  simp only [evC, h1]
  cases e with
  | exit id' =>
    simp only [caught] at h2
    split at h2
    · rename_i hid; simp only [hid, if_true]; exact ⟨_, _, _, rfl, h2⟩
    · rename_i hid; simp only [hid, if_false]; exact ⟨_, _, _, rfl, h2⟩
  | _ => exact ⟨_, _, _, rfl, h2⟩

/-- A region no pair of which is to be looked at. -/
theorem w_region {id : Nat} {ops : List Oper} {d : Bool} (hp : E.pairs fid id = []) (h : WR E call ops σ.next 0 ops fr ⟨σ.heap, σ.next + ops.length⟩ fun _ fr σ => Q .normal fr σ) : W E call k fid (.region id ops.toArray d) none fr σ Q := by
  obtain ⟨rs, fr', σ', h1, h2⟩ := h (fun k => by simp)
  refine ⟨.normal, fr', σ', ?_, h2⟩
  rw [← List.range_eq_range'] at h1
  simp only [evC, evRegion, hp, h1, pairsOk, if_true]

theorem w_region_pairs {id : Nat} {ops : List Oper} {d : Bool} (ps : List (Nat × Nat)) (hp : E.pairs fid id = ps) (h : WR E call ops σ.next 0 ops fr ⟨σ.heap, σ.next + ops.length⟩ fun rs fr σ' => pairsOk σ.next rs ps = true ∧ Q .normal fr σ') :
    W E call k fid (.region id ops.toArray d) none fr σ Q := by
  obtain ⟨rs, fr', σ', h1, h2, h3⟩ := h (fun k => by simp)
  refine ⟨.normal, fr', σ', ?_, h3⟩
  rw [← List.range_eq_range'] at h1
  simp only [evC, evRegion, hp, h1, h2, if_true]
end

/-- Rounds of a loop that are left: so many are enough. -/
def WLoop (E : Env) (call : CallF) (k : Nat) (fid : FuncId) (c : Code) (m : Nat) (fr : List Value) (σ : St) (Q : Ex → List Value → St → Prop) : Prop :=
  ∃ e fr' σ', iter (evC E call k fid c none) m fr σ = some (e, fr', σ') ∧ Q e fr' σ'

def WHop (E : Env) (call : CallF) (k : Nat) (fid : FuncId) (c : Code) (m : Nat) (en : Option Nat) (fr : List Value) (σ : St) (Q : Ex → List Value → St → Prop) : Prop :=
  ∃ e fr' σ', hop (hasLabel c) (evC E call k fid c) m en fr σ = some (e, fr', σ') ∧ Q e fr' σ'

section
variable {E : Env} {call : CallF} {k : Nat} {fid : FuncId} {fr : List Value} {σ : St} {Q : Ex → List Value → St → Prop}
theorem w_loop {c : Code} (h : WLoop E call k fid c k fr σ Q) : W E call k fid (.loop c) none fr σ Q := h
theorem w_scope {c : Code} (h : WHop E call k fid c k none fr σ Q) : W E call k fid (.scope c) none fr σ Q := h

theorem wloop_round {c : Code} {m : Nat} (h : W E call k fid c none fr σ (onward (fun fr σ => WLoop E call k fid c m fr σ Q) Q)) : WLoop E call k fid c (m + 1) fr σ Q := by
  obtain ⟨e, fr', σ', h1, h2⟩ := h
  unfold WLoop
  simp only [iter, h1]
  cases e with
  | normal => exact h2
  | _ => exact ⟨_, _, _, rfl, h2⟩

/-- A jump to a label of the scope goes on there. -/
def jumps (c : Code) (f : Nat → List Value → St → Prop) (Q : Ex → List Value → St → Prop) : Ex → List Value → St → Prop
  | .goto l, fr, σ => if hasLabel c l then f l fr σ else Q (.goto l) fr σ
  | e, fr, σ => Q e fr σ

theorem whop_pass {c : Code} {m : Nat} {en : Option Nat} (h : W E call k fid c en fr σ (jumps c (fun l fr σ => WHop E call k fid c m (some l) fr σ Q) Q)) : WHop E call k fid c (m + 1) en fr σ Q := by
  obtain ⟨e, fr', σ', h1, h2⟩ := h
  unfold WHop
  simp only [hop, h1]
  cases e with
  | goto l =>
    simp only [jumps] at h2
    split at h2
    · rename_i hl; simp only [hl, if_true]; exact h2
    · rename_i hl; simp only [hl]; exact ⟨_, _, _, rfl, h2⟩
  | _ => exact ⟨_, _, _, rfl, h2⟩
end

/-- A function comes to so much. -/
theorem wbody {E : Env} {call : CallF} {k : Nat} {f : FuncId} {fn : Func} {c : Code} {args : List Value} {σ : St} {Q : Value → St → Prop}
    (h : W E call k f c none (args ++ List.replicate (fn.ntmps - args.length) undef) σ fun e fr σ => (e = .normal ∨ e = .ret) ∧ bindV (resOf E fn fr σ) fun v => Q v σ) :
    ∃ v σ', evBody E call k f fn c args σ = some (v, σ') ∧ Q v σ' := by
  obtain ⟨e, fr, σ', h1, h2, v, hv, hq⟩ := h
  refine ⟨v, σ', ?_, hq⟩
  unfold evBody
  rw [h1]
  rcases h2 with rfl | rfl <;> simp [hv]

theorem wfun {E : Env} {k d : Nat} {f : FuncId} {fn : Func} {c : Code} {args : List Value} {σ : St} {Q : Value → St → Prop} (hs : E.sum f args σ = none) (hfn : E.P.funcs[f]? = some fn) (hb : fn.body = some c)
    (h : W E (evFun E k d) k f c none (args ++ List.replicate (fn.ntmps - args.length) undef) σ fun e fr σ => (e = .normal ∨ e = .ret) ∧ bindV (resOf E fn fr σ) fun v => Q v σ) :
    WCall (evFun E k (d + 1)) f args σ Q := by
  obtain ⟨v, σ', h1, h2⟩ := wbody h
  exact ⟨v, σ', by simp only [evFun, hs, hfn, hb]; exact h1, h2⟩
end Go.Ab

/- Rows of a call's own: slices that nobody else has; what append makes of them. -/
set_option linter.all false
open Go.RowKit
namespace Go.Ab

def bytesT (P : Program) (t : TypeId) : Option Nat := (P.info? t).map (·.bytes)

theorem get_fresh {h : T} {n k j : Nat} {x : Option Blk} (hk : j ≠ k) : (h.set (n + k) x).get (n + j) = h.get (n + j) := T.get_set_ne _ _ _ _ (by omega)
theorem get_old {h : T} {n k p : Nat} {x : Option Blk} (hp : p < n) : (h.set (n + k) x).get p = h.get p := T.get_set_ne _ _ _ _ (by omega)
theorem get_old0 {h : T} {n p : Nat} {x : Option Blk} (hp : p < n) : (h.set n x).get p = h.get p := T.get_set_ne _ _ _ _ (by omega)

/-- A slice that fills a block of its own from end to end (or nil): its elements' cells. -/
def Row (g : Nat → Option Blk) (old nx sz : Nat) (el : TypeId) (s : Value) (n : Nat) (cs : List Value) : Prop :=
  (s = .slice none 0 0 ∧ n = 0 ∧ cs = []) ∨
  ∃ b, s = .slice (some ⟨b, 0, none⟩) n n ∧ old ≤ b ∧ b < nx ∧ 0 < n ∧ g b = some (.cells cs el false) ∧ cs.length = n * sz

/-- The block of a slice, if there is any. -/
def rowBlk : Value → Option Nat
  | .slice (some a) _ _ => some a.block
  | _ => none

theorem Row.mono {g g' : Nat → Option Blk} {old nx nx' sz : Nat} {el : TypeId} {s : Value} {n : Nat} {cs : List Value} (h : Row g old nx sz el s n cs) (hn : nx ≤ nx') (hg : ∀ b, rowBlk s = some b → g' b = g b) : Row g' old nx' sz el s n cs := by
  rcases h with h | ⟨b, rfl, h1, h2, h3, h4, h5⟩
  · exact .inl h
  · exact .inr ⟨b, rfl, h1, by omega, h3, by rw [hg b rfl]; exact h4, h5⟩

theorem Row.len {g : Nat → Option Blk} {old nx sz : Nat} {el : TypeId} {s : Value} {n : Nat} {cs : List Value} (h : Row g old nx sz el s n cs) : ∃ a c, s = .slice a n c ∧ cs.length = n * sz := by
  rcases h with ⟨rfl, rfl, rfl⟩ | ⟨b, rfl, _, _, _, _, h5⟩
  · exact ⟨_, _, rfl, by simp⟩
  · exact ⟨_, _, rfl, h5⟩

def killed (s : Value) : List (Nat × Option Blk) :=
  match rowBlk s with
  | some b => [(b, none)]
  | none => []

/-- append to a row of one's own. -/
theorem evAppend_row {E : Env} {g : Nat → Option Blk} {nid nx sz bytes : Nat} {t0 t1 el : TypeId} {s x : Value} {n m : Nat} {cs new : List Value} {z : Array Value} {d : TypeDesc}
    (hel : elemT E.P t0 = some el) (hu : E.P.underlying t1 = some d) (hd : isSlStr d = true) (hsz : sizeT E.P el = some sz) (hby : bytesT E.P el = some bytes) (hz : zeroCells? E.P el = some z) (hzs : z.size = sz) (h0 : sz ≠ 0)
    (hr : Row g E.old nx sz el s n cs) (hl : lenV x = some m) (hstr : strOk x sz = true) (hnew : rdRow E g sz m x = some new) (hm : 0 < m) (hone : new.all oneCell = true) (hfit : (n + m) * bytes ≤ 140737488355328) (h63 : n + m ≤ 9223372036854775807) :
    evAppend E g nid #[t0, t1] s x = some ⟨.slice (some ⟨nid, 0, none⟩) (n + m) (n + m), killed s ++ [(nid, some (.cells (cs ++ new) el false))], (rowBlk s).toList ++ blkOf x⟩ := by
  obtain ⟨i, hi⟩ : ∃ i, E.P.info? el = some i := by
    unfold sizeT at hsz
    cases hi : E.P.info? el with
    | none => simp [hi] at hsz
    | some i => exact ⟨i, rfl⟩
  have hisz : i.size = sz := by simpa [sizeT, hi] using hsz
  have hib : i.bytes = bytes := by simpa [bytesT, hi] using hby
  subst hisz; subst hib
  have hc0 : ¬ (i.size = 0 ∨ z.size ≠ i.size ∨ strOk x i.size = false) := by simp [h0, hzs, hstr]
  unfold evAppend
  simp only [List.getElem?_toArray, List.getElem?_cons_zero, List.getElem?_cons_succ, Option.bind_some, hel, hu, hd, hi, hz, hl, hc0, Bool.not_true, Bool.false_eq_true, if_false]
  rcases hr with ⟨rfl, rfl, rfl⟩ | ⟨b, rfl, hb1, hb2, hn, hg, hlen⟩
  · rw [hnew]
    have h1 : ¬ (0 + m ≤ 0) := by omega
    simp only [h1, if_false]
    rw [if_pos ⟨hfit, h63⟩]
    simp [killed, rowBlk]
  · rw [hnew]
    have h1 : ¬ (n + m ≤ n) := by omega
    simp only [h1, if_false]
    rw [if_pos ⟨hfit, h63⟩]
    have hbo : ¬ b < E.old := by omega
    have hrd : rdRow E g i.size n (.slice (some ⟨b, 0, none⟩) n n) = some cs := by
      have hn0 : n ≠ 0 := by omega
      simp [rdRow, rd, hbo, hg, hlen, hn0]
      rw [← hlen, List.take_length]
    have hop : opens E g ⟨b, 0, none⟩ n el i.size = some true := by
      simp [opens, hbo, hg, hlen]
    simp only [hrd, hop, hone]
    simp [killed, rowBlk]

/-- A row behind an append. -/
theorem Row.appended {h : T} {old nx sz nid : Nat} {el : TypeId} {s : Value} {n m : Nat} {cs new : List Value} (hr : Row h.get old nx sz el s n cs) (ho : old ≤ nid) (hm : 0 < m) (hl : new.length = m * sz) {nx' : Nat} (hx : nid < nx') :
    Row (upds h (killed s ++ [(nid, some (.cells (cs ++ new) el false))])).get old nx' sz el (.slice (some ⟨nid, 0, none⟩) (n + m) (n + m)) (n + m) (cs ++ new) := by
  have hc : cs.length = n * sz := hr.len.choose_spec.choose_spec.2
  refine .inr ⟨nid, rfl, ho, hx, by omega, ?_, by simp [hc, hl, Nat.add_mul]⟩
  unfold killed
  cases rowBlk s <;> simp [upds, T.get_set_self]
end Go.Ab

/- Functions that only compute, as the evaluator itself answers them. -/
set_option linter.all false
open Go.RowKit
namespace Go.Ab

/-- What a function answers on plain values, run for itself. -/
def evS (P : Program) (pairs : FuncId → Nat → List (Nat × Nat)) (t : Tbl) (k : Nat) (f : FuncId) (fn : Func) (c : Code) (args : List Value) : Option Value :=
  if args.all scalar then
    match evBody (envNil P pairs) (callT t) k f fn c args ⟨.leaf, 0⟩ with
    | some (v, _) => if plainV v then some v else none
    | none => none
  else none

theorem evS_ok {P : Program} {pairs : FuncId → Nat → List (Nat × Nat)} (hm : P.follows .mixedOrders = true) (hp : progOkB P pairs = true) {f : FuncId} {fn : Func} {c : Code} (hfn : P.funcs[f]? = some fn) (hb : fn.body = some c)
    (t : Tbl) (ht : ∀ x ∈ t, FnOK (envNil P pairs) x.1 x.2) (k : Nat) (E : Env) (hE : E.P = P) : FnOK E f (lift (evS P pairs t k f fn c)) := by
  refine pure_ok hm hp hfn hb t ht (fun args v h => ?_) E hE
  unfold evS at h
  split at h
  case isFalse => cases h
  rename_i ha
  split at h
  case h_2 => cases h
  rename_i u σ' hev
  split at h
  case isFalse => cases h
  rename_i hpl
  cases h
  exact ⟨ha, hpl, k, σ', hev⟩

theorem evS_of {P : Program} {pairs : FuncId → Nat → List (Nat × Nat)} {t : Tbl} {k : Nat} {f : FuncId} {fn : Func} {c : Code} {args : List Value} {v : Value} (ha : args.all scalar = true) (hv : plainV v = true)
    (h : ∃ u σ', evBody (envNil P pairs) (callT t) k f fn c args ⟨.leaf, 0⟩ = some (u, σ') ∧ u = v) : evS P pairs t k f fn c args = some v := by
  obtain ⟨u, σ', h1, rfl⟩ := h
  simp [evS, ha, h1, hv]

/-- The same, stated for the stepping. -/
theorem evS_w {P : Program} {pairs : FuncId → Nat → List (Nat × Nat)} {t : Tbl} {k : Nat} {f : FuncId} {fn : Func} {c : Code} {args : List Value} {v : Value} (ha : args.all scalar = true) (hv : plainV v = true)
    (h : W (envNil P pairs) (callT t) k f c none (args ++ List.replicate (fn.ntmps - args.length) undef) ⟨.leaf, 0⟩ fun e fr σ => (e = .normal ∨ e = .ret) ∧ bindV (resOf (envNil P pairs) fn fr σ) fun u => u = v) : evS P pairs t k f fn c args = some v :=
  evS_of ha hv (wbody h)

/-- A table of such functions holds in whatever surroundings over the program. -/
def TblOK (P : Program) (t : Tbl) : Prop := ∀ (E : Env), E.P = P → ∀ x ∈ t, FnOK E x.1 x.2

theorem TblOK.nil (P : Program) : TblOK P [] := fun E _ x hx => by cases hx

theorem TblOK.cons {P : Program} {pairs : FuncId → Nat → List (Nat × Nat)} (hm : P.follows .mixedOrders = true) (hp : progOkB P pairs = true) {f : FuncId} {fn : Func} {c : Code} (hfn : P.funcs[f]? = some fn) (hb : fn.body = some c)
    {t : Tbl} (ht : TblOK P t) (k : Nat) : TblOK P ((f, lift (evS P pairs t k f fn c)) :: t) := by
  intro E hE x hx
  simp only [List.mem_cons] at hx
  rcases hx with rfl | hx
  · exact evS_ok hm hp hfn hb t (ht _ rfl) k E hE
  · exact ht E hE x hx

/-- A law over such a table. -/
theorem law_tbl {P : Program} {pairs : FuncId → Nat → List (Nat × Nat)} (hm : P.follows .mixedOrders = true) (hp : progOkB P pairs = true) {t : Tbl} (ht : TblOK P t) {f : FuncId} {fn : Func} {c : Code} (hfn : P.funcs[f]? = some fn) (hb : fn.body = some c)
    {w : World} {args : Array Value} {v : Value} {k : Nat} (hargs : ∀ x ∈ args.toList, oldV w.heap.size x = true ∨ scalar x = true) (hv : flatS v = true)
    (h : ∃ u σ', evBody (envAt P pairs w) (callT t) k f fn c args.toList ⟨.leaf, w.heap.size⟩ = some (u, σ') ∧ u = v) :
    Calls P f args w fun e w' => e = .returned v ∧ Below w.heap.size w w' := by
  obtain ⟨u, σ', hev, rfl⟩ := h
  have hpo := progOk_of (E := envAt P pairs w) hm hp
  obtain ⟨hc, _⟩ := hpo.code f fn c hfn hb
  have hl : LRel w.heap.size (fun _ => none) args.toList args.toList := ⟨rfl, fun i x y hx hy => by
    rw [hx] at hy; cases hy
    rcases hargs x (List.mem_of_getElem? hx) with h | h
    · exact .of_old h
    · exact .of_scalar h⟩
  refine ((evBody_sound (w0 := w) (callT_ok t (ht (envAt P pairs w) rfl)) hm hfn hb hc hev).2 (fun _ => none) w args (rel_at P pairs w) hl).mono ?_
  rintro e w' ⟨v', μ', rfl, hvr, hr, _⟩
  exact ⟨by rw [hvr.flat_eq hv], hr.below⟩
end Go.Ab

/- Arithmetic and comparisons, as the stepping meets them. -/
set_option linter.all false
namespace Go.Ab
theorem pureRun_bind {α β : Type} (P : Program) (x : Sem α) (f : α → Sem β) : pureRun P (x >>= f) = (pureRun P x).bind fun a => pureRun P (f a) := by
  induction x with
  | pure a => rfl
  | program k ih => exact ih P
  | _ => rfl
theorem pureRun_pure {α : Type} (P : Program) (a : α) : pureRun P (pure a) = some a := rfl
theorem pureRun_program (P : Program) : pureRun P program = some P := rfl
theorem pureRun_underlying (P : Program) (t : TypeId) : pureRun P (underlying t) = P.underlying t := by
  unfold underlying
  rw [pureRun_bind]
  simp only [pureRun_program, Option.bind_some]
  cases P.underlying t <;> rfl

section
variable {P : Program} {t : TypeId} {xo yo : Operand} {k : IntKind} {a b : Int}

theorem evBin_scalar {op : BinOp} {x y : Value} (h1 : isPtr P t = false) (h2 : isSl P t = false) (hx : scalar x = true) (hy : scalar y = true) : evBin P op t xo yo x y = pureV P (do eqGuard op t xo yo x y; binOp op t x y) := by
  simp [evBin, h1, h2, hx, hy]

theorem bin_add (h1 : isPtr P t = false) (h2 : isSl P t = false) : evBin P .add t xo yo (.int k a) (.int k b) = some (.int k (k.wrap (a + b))) := by
  rw [evBin_scalar h1 h2 rfl rfl]; simp [pureV, eqGuard, binOp, Op.intArith]; rfl
theorem bin_sub (h1 : isPtr P t = false) (h2 : isSl P t = false) : evBin P .sub t xo yo (.int k a) (.int k b) = some (.int k (k.wrap (a - b))) := by
  rw [evBin_scalar h1 h2 rfl rfl]; simp [pureV, eqGuard, binOp, Op.intArith]; rfl
theorem bin_mul (h1 : isPtr P t = false) (h2 : isSl P t = false) : evBin P .mul t xo yo (.int k a) (.int k b) = some (.int k (k.wrap (a * b))) := by
  rw [evBin_scalar h1 h2 rfl rfl]; simp [pureV, eqGuard, binOp, Op.intArith]; rfl
theorem bin_lss (h1 : isPtr P t = false) (h2 : isSl P t = false) : evBin P .lss t xo yo (.int k a) (.int k b) = some (.bool (decide (a < b))) := by
  rw [evBin_scalar h1 h2 rfl rfl]; simp [pureV, eqGuard, binOp, Op.intCmp]; rfl
theorem bin_leq (h1 : isPtr P t = false) (h2 : isSl P t = false) : evBin P .leq t xo yo (.int k a) (.int k b) = some (.bool (decide (a ≤ b))) := by
  rw [evBin_scalar h1 h2 rfl rfl]; simp [pureV, eqGuard, binOp, Op.intCmp]; rfl
theorem bin_gtr (h1 : isPtr P t = false) (h2 : isSl P t = false) : evBin P .gtr t xo yo (.int k a) (.int k b) = some (.bool (decide (b < a))) := by
  rw [evBin_scalar h1 h2 rfl rfl]; simp [pureV, eqGuard, binOp, Op.intCmp]; rfl
theorem bin_geq (h1 : isPtr P t = false) (h2 : isSl P t = false) : evBin P .geq t xo yo (.int k a) (.int k b) = some (.bool (decide (b ≤ a))) := by
  rw [evBin_scalar h1 h2 rfl rfl]; simp [pureV, eqGuard, binOp, Op.intCmp]; rfl
theorem bin_eql (h1 : isPtr P t = false) (h2 : isSl P t = false) : evBin P .eql t xo yo (.int k a) (.int k b) = some (.bool (decide (a = b))) := by
  rw [evBin_scalar h1 h2 rfl rfl]; simp [pureV, eqGuard, binOp, Op.intCmp]; rfl
theorem bin_neq (h1 : isPtr P t = false) (h2 : isSl P t = false) : evBin P .neq t xo yo (.int k a) (.int k b) = some (.bool (!decide (a = b))) := by
  rw [evBin_scalar h1 h2 rfl rfl]; simp [pureV, eqGuard, binOp, Op.intCmp]; rfl

theorem bin_rem (h1 : isPtr P t = false) (h2 : isSl P t = false) (hb : b ≠ 0) : evBin P .rem t xo yo (.int k a) (.int k b) = some (.int k (a.tmod b)) := by
  rw [evBin_scalar h1 h2 rfl rfl]; simp [pureV, eqGuard, binOp, Op.intDiv, hb]; rfl
theorem bin_quo (h1 : isPtr P t = false) (h2 : isSl P t = false) (hb : b ≠ 0) : evBin P .quo t xo yo (.int k a) (.int k b) = some (.int k (k.wrap (a.tdiv b))) := by
  rw [evBin_scalar h1 h2 rfl rfl]; simp [pureV, eqGuard, binOp, Op.intDiv, hb]; rfl
theorem bin_and (h1 : isPtr P t = false) (h2 : isSl P t = false) : evBin P .and t xo yo (.int k a) (.int k b) = some (.int k (k.wrap ((BitVec.ofInt k.bits a &&& BitVec.ofInt k.bits b).toNat))) := by
  rw [evBin_scalar h1 h2 rfl rfl]; simp [pureV, eqGuard, binOp, Op.intBits]; rfl
theorem bin_or (h1 : isPtr P t = false) (h2 : isSl P t = false) : evBin P .or t xo yo (.int k a) (.int k b) = some (.int k (k.wrap ((BitVec.ofInt k.bits a ||| BitVec.ofInt k.bits b).toNat))) := by
  rw [evBin_scalar h1 h2 rfl rfl]; simp [pureV, eqGuard, binOp, Op.intBits]; rfl
theorem bin_xor (h1 : isPtr P t = false) (h2 : isSl P t = false) : evBin P .xor t xo yo (.int k a) (.int k b) = some (.int k (k.wrap ((BitVec.ofInt k.bits a ^^^ BitVec.ofInt k.bits b).toNat))) := by
  rw [evBin_scalar h1 h2 rfl rfl]; simp [pureV, eqGuard, binOp, Op.intBits]; rfl
theorem bin_andNot (h1 : isPtr P t = false) (h2 : isSl P t = false) : evBin P .andNot t xo yo (.int k a) (.int k b) = some (.int k (k.wrap ((BitVec.ofInt k.bits a &&& ~~~BitVec.ofInt k.bits b).toNat))) := by
  rw [evBin_scalar h1 h2 rfl rfl]; simp [pureV, eqGuard, binOp, Op.intBits]; rfl
theorem bin_shl {k' : IntKind} (h1 : isPtr P t = false) (h2 : isSl P t = false) (hb : 0 ≤ b) : evBin P .shl t xo yo (.int k a) (.int k' b) = some (.int k (k.wrap (a * 2 ^ min b.toNat k.bits))) := by
  rw [evBin_scalar h1 h2 rfl rfl]; simp [pureV, eqGuard, binOp, Op.shift, show ¬ b < 0 by omega]; rfl
theorem bin_shr {k' : IntKind} (h1 : isPtr P t = false) (h2 : isSl P t = false) (hb : 0 ≤ b) : evBin P .shr t xo yo (.int k a) (.int k' b) = some (.int k (a.fdiv (2 ^ min b.toNat k.bits))) := by
  rw [evBin_scalar h1 h2 rfl rfl]; simp [pureV, eqGuard, binOp, Op.shift, show ¬ b < 0 by omega]; rfl
theorem bin_seql {x y : ByteArray} (h1 : isPtr P t = false) (h2 : isSl P t = false) : evBin P .eql t xo yo (.string x) (.string y) = some (.bool (x.toList == y.toList)) := by
  rw [evBin_scalar h1 h2 rfl rfl]; simp [pureV, eqGuard, binOp, Op.stringOp]; rfl
theorem bin_sneq {x y : ByteArray} (h1 : isPtr P t = false) (h2 : isSl P t = false) : evBin P .neq t xo yo (.string x) (.string y) = some (.bool (!(x.toList == y.toList))) := by
  rw [evBin_scalar h1 h2 rfl rfl]; simp [pureV, eqGuard, binOp, Op.stringOp]; rfl
theorem equal_bool {x y : Bool} (ht : P.underlying t = some .bool) : pureV P (do pure (.bool (← Op.equal t (.bool x) (.bool y)))) = some (.bool (x == y)) := by
  simp only [pureV, Op.equal, Op.maxDepth, pureRun_bind]
  unfold Op.equalIn
  simp only [pureRun_bind, pureRun_underlying, ht, Option.bind_some, pureRun_pure, flatS, if_true]
theorem bin_beql {x y : Bool} (ht : P.underlying t = some .bool) (h1 : isPtr P t = false) (h2 : isSl P t = false) : evBin P .eql t xo yo (.bool x) (.bool y) = some (.bool (x == y)) := by
  rw [evBin_scalar h1 h2 rfl rfl]; exact equal_bool ht
theorem un_not {x : Bool} : pureV P (Op.unary .not (.bool x)) = some (.bool (!x)) := rfl
theorem un_neg : pureV P (Op.unary .neg (.int k a)) = some (.int k (k.wrap (0 - a))) := rfl
theorem conv_int {E : Env} {g : Nat → Option Blk} {nid : Nat} {s d : TypeId} {k' : IntKind} (hs : E.P.underlying s = some (.int k)) (hd : E.P.underlying d = some (.int k')) : evConvert E g nid s d (.int k a) = some ⟨.int k' (k'.wrap a), [], []⟩ := by
  unfold evConvert
  have : pureRun E.P (convert s d (.int k a)) = some (.int k' (k'.wrap a)) := by
    unfold convert
    simp only [pureRun_bind, pureRun_underlying, hs, hd, Option.bind_some, Conv.intToInt, pureRun_pure]
  simp only [hs, hd, scalar, flatS, if_true, pureV, this, Option.map_some]
theorem min_int {ts : Array TypeId} : pureV P (Builtin.min_ ts t #[.int k a, .int k b]) = some (.int k (if b < a then b else a)) := rfl
theorem max_int {ts : Array TypeId} : pureV P (Builtin.max_ ts t #[.int k a, .int k b]) = some (.int k (if a < b then b else a)) := rfl
theorem scal_int : scalar (.int k a) = true := rfl
theorem scal_bool {x : Bool} : scalar (.bool x) = true := rfl
end

section
variable {E : Env} {call : CallF} {k : Nat} {fid : FuncId} {fr : List Value} {σ : St} {Q : Ex → List Value → St → Prop}
theorem w_cond_t {c : Operand} {x y : Code} {b : Bool} (hc : Opd fr c = .bool b) (hb : b = true) (h1 : W E call k fid x none fr σ Q) : W E call k fid (.cond c x y) none fr σ Q :=
  w_cond hc (fun _ => h1) (fun h => by rw [hb] at h; cases h)
theorem w_cond_f {c : Operand} {x y : Code} {b : Bool} (hc : Opd fr c = .bool b) (hb : b = false) (h1 : W E call k fid y none fr σ Q) : W E call k fid (.cond c x y) none fr σ Q :=
  w_cond hc (fun h => by rw [hb] at h; cases h) (fun _ => h1)
end
end Go.Ab

/- A function's own code and results, told apart for the stepping. -/
set_option linter.all false
open Go.RowKit
namespace Go.Ab

theorem nlt (n k : Nat) : (n + k < n) = False := by simp

/-- What is handed back. -/
def resR (E : Env) (fr : List Value) (σ : St) (rs : List ResultVar) : Option Value :=
  match resV E fr σ rs with
  | some [v] => some v
  | some l => some (.tuple l.toArray)
  | none => none

theorem resR_tmp {E : Env} {fr : List Value} {σ : St} {t : Nat} : resR E fr σ [.tmp t] = some (fr.getD t undef) := rfl
theorem resR_cell {E : Env} {fr : List Value} {σ : St} {a : Nat} {t : TypeId} : resR E fr σ [.cell a t] = (evLoad E σ.heap.get t (fr.getD a undef)).map fun e => e.val := by
  simp only [resR, resV]
  cases evLoad E σ.heap.get t (fr.getD a undef) <;> rfl
theorem resR_none {E : Env} {fr : List Value} {σ : St} : resR E fr σ [] = some (.tuple #[]) := rfl
theorem resR_two {E : Env} {fr : List Value} {σ : St} {s t : Nat} : resR E fr σ [.tmp s, .tmp t] = some (.tuple #[fr.getD s undef, fr.getD t undef]) := rfl
theorem resR_three {E : Env} {fr : List Value} {σ : St} {s t u : Nat} : resR E fr σ [.tmp s, .tmp t, .tmp u] = some (.tuple #[fr.getD s undef, fr.getD t undef, fr.getD u undef]) := rfl

theorem wbody2 {E : Env} {call : CallF} {k : Nat} {f : FuncId} {fn : Func} {c : Code} {args : List Value} {σ : St} {Q : Value → St → Prop} (n : Nat) (rs : List ResultVar) (hn : fn.ntmps = n) (hr : fn.results.toList = rs)
    (h : W E call k f c none (args ++ List.replicate (n - args.length) undef) σ fun e fr σ => (e = .normal ∨ e = .ret) ∧ bindV (resR E fr σ rs) fun v => Q v σ) :
    ∃ v σ', evBody E call k f fn c args σ = some (v, σ') ∧ Q v σ' := by
  subst hn hr
  exact wbody h

theorem evS_w2 {P : Program} {pairs : FuncId → Nat → List (Nat × Nat)} {t : Tbl} {k : Nat} {f : FuncId} {fn : Func} {c : Code} {args : List Value} {v : Value} (n : Nat) (rs : List ResultVar) (hn : fn.ntmps = n) (hr : fn.results.toList = rs) (ha : args.all scalar = true) (hv : plainV v = true)
    (h : W (envNil P pairs) (callT t) k f c none (args ++ List.replicate (n - args.length) undef) ⟨.leaf, 0⟩ fun e fr σ => (e = .normal ∨ e = .ret) ∧ bindV (resR (envNil P pairs) fr σ rs) fun u => u = v) : evS P pairs t k f fn c args = some v :=
  evS_of ha hv (wbody2 n rs hn hr h)

theorem law_tbl2 {P : Program} {pairs : FuncId → Nat → List (Nat × Nat)} (hm : P.follows .mixedOrders = true) (hp : progOkB P pairs = true) {t : Tbl} (ht : TblOK P t) {f : FuncId} {fn : Func} {c : Code} (hfn : P.funcs[f]? = some fn) (hb : fn.body = some c)
    {w : World} {args : Array Value} {v : Value} {k : Nat} (n : Nat) (rs : List ResultVar) (hn : fn.ntmps = n) (hr : fn.results.toList = rs) (hargs : ∀ x ∈ args.toList, oldV w.heap.size x = true ∨ scalar x = true) (hv : flatS v = true)
    (h : W (envAt P pairs w) (callT t) k f c none (args.toList ++ List.replicate (n - args.toList.length) undef) ⟨.leaf, w.heap.size⟩ fun e fr σ => (e = .normal ∨ e = .ret) ∧ bindV (resR (envAt P pairs w) fr σ rs) fun u => u = v) :
    Calls P f args w fun e w' => e = .returned v ∧ Below w.heap.size w w' :=
  law_tbl hm hp ht hfn hb hargs hv (wbody2 n rs hn hr h)
end Go.Ab

/- Loops, by what holds ahead of each round; jumps back to a label likewise. -/
set_option linter.all false
namespace Go.Ab
/-- A frame, slot by slot: the slots that a round does not tell of stay names. -/
theorem frame_list (n : Nat) (fr : List Value) (h : fr.length = n) : fr = (List.range n).map fun i => fr.getD i undef := by
  apply List.ext_getElem
  · simp [h]
  · intro i h1 h2
    simp [List.getD_eq_getElem?_getD, List.getElem?_eq_getElem h1]

section
variable {E : Env} {call : CallF} {k : Nat} {fid : FuncId} {c : Code} {Q : Ex → List Value → St → Prop}

/-- At most n rounds are gone on from; I i holds ahead of round i. -/
theorem wloop_inv (I : Nat → List Value → St → Prop) (n : Nat)
    (step : ∀ i fr σ, i ≤ n → I i fr σ → W E call k fid c none fr σ (onward (fun fr σ => i < n ∧ I (i + 1) fr σ) Q)) :
    ∀ (j i m : Nat) (fr : List Value) (σ : St), n - i = j → i ≤ n → j < m → I i fr σ → WLoop E call k fid c m fr σ Q := by
  intro j
  induction j with
  | zero =>
    intro i m fr σ hj hi hm h
    obtain ⟨m, rfl⟩ : ∃ m', m = m' + 1 := ⟨m - 1, by omega⟩
    refine wloop_round ((step i fr σ hi h).mono ?_)
    intro e fr σ he
    cases e with
    | normal => exact absurd he.1 (by omega)
    | _ => exact he
  | succ j ih =>
    intro i m fr σ hj hi hm h
    obtain ⟨m, rfl⟩ : ∃ m', m = m' + 1 := ⟨m - 1, by omega⟩
    refine wloop_round ((step i fr σ hi h).mono ?_)
    intro e fr σ he
    cases e with
    | normal => exact ih (i + 1) m fr σ (by omega) (by have := he.1; omega) (by omega) he.2
    | _ => exact he

/-- Begun at round 0. -/
theorem wloop_from (I : Nat → List Value → St → Prop) (n : Nat) {m : Nat} {fr : List Value} {σ : St} (hm : n < m) (h : I 0 fr σ)
    (step : ∀ i fr σ, i ≤ n → I i fr σ → W E call k fid c none fr σ (onward (fun fr σ => i < n ∧ I (i + 1) fr σ) Q)) : WLoop E call k fid c m fr σ Q :=
  wloop_inv I n step n 0 m fr σ rfl (Nat.zero_le _) hm h

/-- The same for a scope that jumps back to one label. -/
theorem whop_inv (l : Nat) (hl : hasLabel c l = true) (I : Nat → List Value → St → Prop) (n : Nat)
    (step : ∀ i fr σ, i ≤ n → I i fr σ → W E call k fid c (some l) fr σ (jumps c (fun l' fr σ => l' = l ∧ i < n ∧ I (i + 1) fr σ) Q)) :
    ∀ (j i m : Nat) (fr : List Value) (σ : St), n - i = j → i ≤ n → j < m → I i fr σ → WHop E call k fid c m (some l) fr σ Q := by
  intro j
  induction j with
  | zero =>
    intro i m fr σ hj hi hm h
    obtain ⟨m, rfl⟩ : ∃ m', m = m' + 1 := ⟨m - 1, by omega⟩
    refine whop_pass ((step i fr σ hi h).mono ?_)
    intro e fr σ he
    cases e with
    | goto l' =>
      simp only [jumps] at he ⊢
      split at he
      · exact absurd he.2.1 (by omega)
      · rename_i hn; rw [if_neg hn]; exact he
    | _ => exact he
  | succ j ih =>
    intro i m fr σ hj hi hm h
    obtain ⟨m, rfl⟩ : ∃ m', m = m' + 1 := ⟨m - 1, by omega⟩
    refine whop_pass ((step i fr σ hi h).mono ?_)
    intro e fr σ he
    cases e with
    | goto l' =>
      simp only [jumps] at he ⊢
      split at he
      · rename_i hy
        rw [if_pos hy]
        obtain ⟨rfl, h1, h2⟩ := he
        exact ih (i + 1) m fr σ (by omega) (by omega) (by omega) h2
      · rename_i hn; rw [if_neg hn]; exact he
    | _ => exact he
end
end Go.Ab

/- Calls answered by a table where there is one, by a function's own code else; side conditions that numbers settle; tests that part the way. -/
set_option linter.all false
open Go.RowKit
namespace Go.Ab

def hasT (t : Tbl) (f : FuncId) : Bool := t.any fun x => x.1 == f

/-- Functions of the table by the table, others by their code. -/
def evFunT (E : Env) (t : Tbl) (k : Nat) : Nat → CallF
  | 0, f, args, σ => callT t f args σ
  | d + 1, f, args, σ => if hasT t f then callT t f args σ else
    match E.P.funcs[f]? with
    | some fn => match fn.body with
      | some c => evBody E (evFunT E t k d) k f fn c args σ
      | none => none
    | none => none

theorem evFunT_ok {E : Env} (hp : ProgOk E) {t : Tbl} (ht : ∀ x ∈ t, FnOK E x.1 x.2) (k : Nat) : ∀ d, CallOK E (evFunT E t k d) := by
  have hs := callT_ok t ht
  intro d
  induction d with
  | zero => exact ⟨fun w0 f args σ v σ' h => hs.ok w0 f args σ v σ' h, fun f args σ v σ' n x h1 h2 h => hs.mono f args σ v σ' n x h1 h2 h⟩
  | succ d ih =>
    constructor
    · intro w0 f args σ v σ' h
      simp only [evFunT] at h
      split at h
      · exact hs.ok w0 f args σ v σ' h
      · split at h
        · rename_i fn hfn
          split at h
          · rename_i c hb
            obtain ⟨hc, hn⟩ := hp.code f fn c hfn hb
            obtain ⟨h1, h2⟩ := evBody_sound (w0 := w0) ih hp.mixed hfn hb hc h
            exact .inl ⟨⟨fn, hfn, by simp [hb], hn⟩, h1, h2⟩
          · cases h
        · cases h
    · intro f args σ v σ' n x h1 h2 h
      simp only [evFunT] at h ⊢
      split at h
      · rename_i ht
        rw [if_pos ht]
        exact hs.mono f args σ v σ' n x h1 h2 h
      · rename_i ht
        rw [if_neg ht]
        split at h
        · rename_i fn hfn
          split at h
          · rename_i c hb
            exact evBody_mono ih.mono h h1 h2
          · cases h
        · cases h

/-- What a function answers on plain values, run for itself. -/
def evG (P : Program) (pairs : FuncId → Nat → List (Nat × Nat)) (t : Tbl) (k d : Nat) (f : FuncId) (args : List Value) : Option Value :=
  if args.all scalar then
    match evFunT (envNil P pairs) t k d f args ⟨.leaf, 0⟩ with
    | some (v, _) => if plainV v then some v else none
    | none => none
  else none

theorem TblOK.consG {P : Program} {pairs : FuncId → Nat → List (Nat × Nat)} (hm : P.follows .mixedOrders = true) (hp : progOkB P pairs = true) {t : Tbl} (ht : TblOK P t) (f : FuncId) (k d : Nat) : TblOK P ((f, lift (evG P pairs t k d f)) :: t) := by
  intro E hE x hx
  simp only [List.mem_cons] at hx
  rcases hx with rfl | hx
  case inr => exact ht E hE x hx
  refine ⟨?_, lift_mono _⟩
  intro w0 args σ v σ' hs
  simp only [lift] at hs
  split at hs
  case h_2 => cases hs
  rename_i u hu
  cases hs
  unfold evG at hu
  split at hu
  case isFalse => cases hu
  rename_i ha
  split at hu
  case h_2 => cases hu
  rename_i v2 σ2 hev
  split at hu
  case isFalse => cases hu
  rename_i hpl
  cases hu
  have hok := evFunT_ok (E := envNil P pairs) (progOk_of hm hp) (ht (envNil P pairs) rfl) k d
  by_cases hx : ∃ fn, P.funcs[f]? = some fn ∧ fn.body = none
  · refine .inr ⟨rfl, by rw [hE]; exact hx, fun μ w args' hr hl => ?_⟩
    have he := hl.of_scalars ha
    obtain ⟨fn, q1, q2⟩ := hx
    rcases hok.ok w f args _ v σ2 hev with ⟨⟨fn', p1, p2, _⟩, _, _⟩ | ⟨_, _, hsound⟩
    · have : fn = fn' := Option.some.inj (q1.symm.trans p1)
      subst this; rw [q2] at p2; cases p2
    obtain ⟨v', hcf, hv⟩ := hsound (fun _ => none) w args' (rel_nil P pairs w) ⟨by rw [he], fun i x y hx hy => by rw [he] at hy; rw [hx] at hy; cases hy; exact .of_scalar (List.all_eq_true.1 ha x (List.mem_of_getElem? hx))⟩
    have := hv.plain_eq hpl
    subst this
    exact ⟨_, by rw [hE]; exact hcf, .of_plain hpl⟩
  have hok' : ∀ w0, _ := fun w0 => (hok.ok w0 f args _ v σ2 hev).resolve_right (fun h => hx h.2.1)
  obtain ⟨hfn, _, _⟩ := hok' w0
  refine .inl ⟨by rw [hE]; exact hfn, Nat.le_refl _, fun μ w args' hr hl => ?_⟩
  have he := hl.of_scalars ha
  obtain ⟨_, _, hsound⟩ := hok' w
  have := hsound (fun _ => none) w args' (rel_nil P pairs w) ⟨by rw [he], fun i x y hx hy => by rw [he] at hy; rw [hx] at hy; cases hy; exact .of_scalar (List.all_eq_true.1 ha x (List.mem_of_getElem? hx))⟩
  rw [hE]
  refine this.mono ?_
  rintro e w' ⟨v', μ', rfl, hvr, hr', _⟩
  have := hvr.plain_eq hpl
  subst this
  exact ⟨_, μ, rfl, .of_plain hpl, hr.later hr'.below, fun _ _ => rfl⟩

theorem evG_of {P : Program} {pairs : FuncId → Nat → List (Nat × Nat)} {t : Tbl} {k d : Nat} {f : FuncId} {args : List Value} {v : Value} (ha : args.all scalar = true) (hv : plainV v = true)
    (h : WCall (evFunT (envNil P pairs) t k d) f args ⟨.leaf, 0⟩ fun u _ => u = v) : evG P pairs t k d f args = some v := by
  obtain ⟨u, σ', h1, rfl⟩ := h
  simp [evG, ha, h1, hv]

theorem wcallT {E : Env} {t : Tbl} {k d : Nat} {f : FuncId} {args : List Value} {σ : St} {Q : Value → St → Prop} (h : hasT t f = true) : WCall (evFunT E t k d) f args σ Q = WCall (callT t) f args σ Q := by
  unfold WCall
  cases d <;> simp only [evFunT, h, if_true]

theorem wfunT {E : Env} {t : Tbl} {k d : Nat} {f : FuncId} {fn : Func} {c : Code} {args : List Value} {σ : St} {Q : Value → St → Prop} (n : Nat) (rs : List ResultVar) (ht : hasT t f = false) (hfn : E.P.funcs[f]? = some fn) (hb : fn.body = some c) (hn : fn.ntmps = n) (hr : fn.results.toList = rs)
    (h : W E (evFunT E t k d) k f c none (args ++ List.replicate (n - args.length) undef) σ fun e fr σ => (e = .normal ∨ e = .ret) ∧ bindV (resR E fr σ rs) fun v => Q v σ) :
    WCall (evFunT E t k (d + 1)) f args σ Q := by
  subst hn hr
  obtain ⟨v, σ', h1, h2⟩ := wbody h
  exact ⟨v, σ', by simp only [evFunT, ht, hfn, hb]; exact h1, h2⟩

def hasCode (P : Program) (f : FuncId) : Bool := match P.funcs[f]? with | some fn => fn.body.isSome | none => false
theorem law_G {P : Program} {pairs : FuncId → Nat → List (Nat × Nat)} (hm : P.follows .mixedOrders = true) (hp : progOkB P pairs = true) {t : Tbl} (ht : TblOK P t) {w : World} {f : FuncId} {args : Array Value} {v : Value} {k d : Nat}
    (hcode : hasCode P f = true)
    (hargs : ∀ x ∈ args.toList, oldV w.heap.size x = true ∨ scalar x = true) (hv : flatS v = true)
    (h : WCall (evFunT (envAt P pairs w) t k d) f args.toList ⟨.leaf, w.heap.size⟩ fun u _ => u = v) :
    Calls P f args w fun e w' => e = .returned v ∧ Below w.heap.size w w' := by
  obtain ⟨u, σ', hev, rfl⟩ := h
  have hok := evFunT_ok (E := envAt P pairs w) (progOk_of hm hp) (ht (envAt P pairs w) rfl) k d |>.ok w f args.toList _ u σ' hev
  replace hok := hok.resolve_right (fun h => by
    obtain ⟨fn, h1, h2⟩ := h.2.1
    unfold hasCode at hcode
    have h3 : P.funcs[f]? = some fn := h1
    rw [h3] at hcode
    simp [h2] at hcode)
  have hl : LRel w.heap.size (fun _ => none) args.toList args.toList := ⟨rfl, fun i x y hx hy => by
    rw [hx] at hy; cases hy
    rcases hargs x (List.mem_of_getElem? hx) with h | h
    · exact .of_old h
    · exact .of_scalar h⟩
  refine (hok.2.2 (fun _ => none) w args (rel_at P pairs w) hl).mono ?_
  rintro e w' ⟨v', μ', rfl, hvr, hr, _⟩
  exact ⟨by rw [hvr.flat_eq hv], hr.below⟩

/-! Side conditions. -/
theorem w64 {n : Int} (h0 : -9223372036854775808 ≤ n) (h1 : n ≤ 9223372036854775807) : IntKind.i64.wrap n = n := by
  by_cases hh : n % 2 ^ 64 ≥ 2 ^ 63 <;> simp [IntKind.wrap, IntKind.bits, IntKind.signed, hh] <;> omega
theorem wu8 {n : Int} (h0 : 0 ≤ n) (h1 : n ≤ 255) : IntKind.u8.wrap n = n := by
  simp [IntKind.wrap, IntKind.bits, IntKind.signed]; omega
theorem wu16 {n : Int} (h0 : 0 ≤ n) (h1 : n ≤ 65535) : IntKind.u16.wrap n = n := by
  simp [IntKind.wrap, IntKind.bits, IntKind.signed]; omega
theorem wu64 {n : Int} (h0 : 0 ≤ n) (h1 : n ≤ 18446744073709551615) : IntKind.u64.wrap n = n := by
  simp [IntKind.wrap, IntKind.bits, IntKind.signed]; omega
theorem bwrap (b : UInt8) : IntKind.i64.wrap (b.toNat : Int) = b.toNat := by
  have := b.toNat_lt
  exact w64 (by omega) (by omega)
theorem dlt_t {a b : Int} (h : a < b) : decide (a < b) = true := by simpa using h
theorem dlt_f {a b : Int} (h : b ≤ a) : decide (a < b) = false := by simpa using h
theorem dle_t {a b : Int} (h : a ≤ b) : decide (a ≤ b) = true := by simpa using h
theorem dle_f {a b : Int} (h : b < a) : decide (a ≤ b) = false := by simpa using h
theorem deq_t {a b : Int} (h : a = b) : decide (a = b) = true := by simpa using h
theorem deq_f {a b : Int} (h : a < b ∨ b < a) : decide (a = b) = false := by simp; omega
theorem get_ne {h : T} {n m : Nat} {x : Option Blk} (hn : m < n ∨ n < m) : (h.set n x).get m = h.get m := T.get_set_ne _ _ _ _ (by omega)
theorem get_eq {h : T} {n m : Nat} {x : Option Blk} (hn : m = n) : (h.set n x).get m = x := by subst hn; exact T.get_set_self _ _ _
theorem nlt_f {a b : Nat} (h : b ≤ a) : (a < b) = False := by simp; omega
theorem nlt_t {a b : Nat} (h : a < b) : (a < b) = True := by simp; omega
theorem nle_t {a b : Nat} (h : a ≤ b) : (a ≤ b) = True := by simp; omega
theorem nle_f {a b : Nat} (h : b < a) : (a ≤ b) = False := by simp; omega
theorem ile_t {a b : Int} (h : a ≤ b) : (a ≤ b) = True := by simp; omega
theorem ilt_t {a b : Int} (h : a < b) : (a < b) = True := by simp; omega
theorem ile_f {a b : Int} (h : b < a) : (a ≤ b) = False := by simp; omega
theorem ilt_f {a b : Int} (h : b ≤ a) : (a < b) = False := by simp; omega

section
variable {E : Env} {call : CallF} {k : Nat} {fid : FuncId} {fr : List Value} {σ : St} {Q : Ex → List Value → St → Prop}
/-- A test that parts the way. -/
theorem w_cond_p {c : Operand} {x y : Code} {p : Prop} [Decidable p] (hc : Opd fr c = .bool (decide p)) (h1 : p → W E call k fid x none fr σ Q) (h2 : ¬ p → W E call k fid y none fr σ Q) : W E call k fid (.cond c x y) none fr σ Q :=
  w_cond hc (fun h => h1 (of_decide_eq_true h)) (fun h => h2 (of_decide_eq_false h))
theorem w_cond_np {c : Operand} {x y : Code} {p : Prop} [Decidable p] (hc : Opd fr c = .bool (!decide p)) (h1 : ¬ p → W E call k fid x none fr σ Q) (h2 : p → W E call k fid y none fr σ Q) : W E call k fid (.cond c x y) none fr σ Q :=
  w_cond hc (fun h => h1 (by simpa using h)) (fun h => h2 (by simpa using h))
theorem w_cond_pt {c : Operand} {x y : Code} {p : Prop} [Decidable p] (hc : Opd fr c = .bool (decide p)) (hp : p) (h1 : W E call k fid x none fr σ Q) : W E call k fid (.cond c x y) none fr σ Q :=
  w_cond_p hc (fun _ => h1) (fun h => absurd hp h)
theorem w_cond_pf {c : Operand} {x y : Code} {p : Prop} [Decidable p] (hc : Opd fr c = .bool (decide p)) (hp : ¬ p) (h1 : W E call k fid y none fr σ Q) : W E call k fid (.cond c x y) none fr σ Q :=
  w_cond_p hc (fun h => absurd h hp) (fun _ => h1)
end
theorem ite_w {c : Prop} [Decidable c] {A B : Prop} (h1 : c → A) (h2 : ¬ c → B) : if c then A else B := by
  split
  · rename_i h; exact h1 h
  · rename_i h; exact h2 h
end Go.Ab

/- Equality of structs and arrays of plain cells; rows of cells of elements. -/
set_option linter.all false
open Go.RowKit
namespace Go.Ab

/-- Equality of plain values, by type: mirrors the model's. -/
def eqV (P : Program) : Nat → TypeId → Value → Value → Option Bool
  | 0, _, _, _ => none
  | d + 1, t, x, y =>
    match P.underlying t, x, y with
    | some .bool, .bool a, .bool b => some (a == b)
    | some (.int _), .int k a, .int k' b => if k = k' then some (a == b) else none
    | some .string, .string a, .string b => some (a == b)
    | some (.struct fs), .agg xs, .agg ys => if P.stoodInHeld t then none else go P (eqV P d) xs ys fs.toList
    | some (.array n e), .agg xs, .agg ys => match sizeT P e with
      | some z => goA P (eqV P d e) (isAggT P e) z xs ys 0 n
      | none => none
    | _, _, _ => none
where
  pt (P : Program) (t : TypeId) (cs : Array Value) (off : Nat) : Option Value :=
    match isAggT P t, sizeT P t with
    | some true, some n => some (.agg (cs.extract off (off + n)))
    | some false, _ => cs[off]?
    | _, _ => none
  go (P : Program) (r : TypeId → Value → Value → Option Bool) (xs ys : Array Value) : List Field → Option Bool
    | [] => some true
    | f :: l => if f.name ≠ "_" then
        match pt P f.type xs f.offset, pt P f.type ys f.offset with
        | some a, some b => match r f.type a b, go P r xs ys l with
          | some u, some v => some (u && v)
          | _, _ => none
        | _, _ => none
      else go P r xs ys l
  goA (P : Program) (r : Value → Value → Option Bool) (ag : Option Bool) (z : Nat) (xs ys : Array Value) (i : Nat) : Nat → Option Bool
    | 0 => some true
    | n + 1 =>
      match (match ag with | some true => some (Value.agg (xs.extract (i * z) (i * z + z))) | some false => xs[i * z]? | none => none), (match ag with | some true => some (Value.agg (ys.extract (i * z) (i * z + z))) | some false => ys[i * z]? | none => none) with
      | some a, some b => match r a b, goA P r ag z xs ys (i + 1) n with
        | some u, some v => some (u && v)
        | _, _ => none
      | _, _ => none

theorem pureRun_ite' {α : Type} {P : Program} {c : Prop} [Decidable c] {x y : Sem α} : pureRun P (if c then x else y) = if c then pureRun P x else pureRun P y := by split <;> rfl

theorem pureRun_forIn {α β : Type} (P : Program) (l : List α) (init : β) (f : α → β → Sem (ForInStep β)) : pureRun P (forIn l init f) = forIn l init fun a b => pureRun P (f a b) := by
  induction l generalizing init with
  | nil => rfl
  | cons a l ih =>
    simp only [List.forIn_cons, pureRun_bind]
    cases h : pureRun P (f a init) with
    | none => rfl
    | some x =>
      cases x with
      | done b => rfl
      | yield b => exact ih b

theorem isAgg_run {P : Program} {t : TypeId} {b : Bool} (h : isAggT P t = some b) : pureRun P (isAgg t) = some b := by
  unfold isAggT at h
  unfold isAgg
  simp only [pureRun_bind, pureRun_underlying]
  split at h <;> rename_i hu <;> simp_all <;> first | rfl | (split <;> simp_all <;> rfl) | skip

theorem sizeOf_run {P : Program} {t : TypeId} {n : Nat} (h : sizeT P t = some n) : pureRun P (sizeOf t) = some n := by
  unfold sizeT at h
  unfold sizeOf typeInfo
  simp only [pureRun_bind, pureRun_program, Option.bind_some]
  cases hi : P.info? t with
  | none => rw [hi] at h; cases h
  | some i => rw [hi] at h; simp only [Option.map_some] at h; simp only [pureRun_pure, Option.bind_some, h]

theorem part_run {P : Program} {t : TypeId} {cs : Array Value} {off : Nat} {v : Value} (h : eqV.pt P t cs off = some v) : pureRun P (part t cs off) = some v := by
  unfold eqV.pt at h
  unfold part
  simp only [pureRun_bind]
  split at h
  · rename_i n ha hn
    cases h
    simp only [isAgg_run ha, sizeOf_run hn, Option.bind_some, if_true, pureRun_bind, pureRun_pure]
  · rename_i ha
    simp only [isAgg_run ha, Option.bind_some, h]
    rfl
  · cases h

theorem go_run {P : Program} {r : TypeId → Value → Value → Option Bool} {d' : Nat} (hr : ∀ t x y b, r t x y = some b → pureRun P (Op.equalIn d' t x y) = some b) (xs ys : Array Value) :
    ∀ (l : List Field) (b : Bool), eqV.go P r xs ys l = some b →
      pureRun P (forIn l ((none, ()) : Option Bool × Unit) fun f __s =>
              if f.name ≠ "_" then do
                let __do_lift ← part f.type xs f.offset
                let __do_lift_1 ← part f.type ys f.offset
                let __do_lift ← Op.equalIn d' f.type __do_lift __do_lift_1
                if (!__do_lift) = true then pure (ForInStep.done (some false, ()))
                  else pure (ForInStep.yield (none, ()))
              else pure (ForInStep.yield (none, ()))) = some (if b then (none, ()) else (some false, ()))
  | [], b, h => by
    simp only [eqV.go, Option.some.injEq] at h
    subst h
    rfl
  | f :: l, b, h => by
    have ih := go_run hr xs ys l
    simp only [eqV.go] at h
    rw [List.forIn_cons]
    by_cases hn : f.name ≠ "_"
    · rw [if_pos hn] at h
      rw [if_pos hn]
      split at h
      case h_2 => cases h
      rename_i a c ha hc
      split at h
      case h_2 => cases h
      rename_i u v hu hv
      cases h
      simp only [pureRun_bind, part_run ha, part_run hc, hr _ _ _ _ hu, Option.bind_some]
      cases u
      · simp only [Bool.not_false, if_true, pureRun_pure, Option.bind_some]
        simp
      · simp only [Bool.not_true, Bool.false_eq_true, if_false, Bool.true_and]
        exact ih v hv
    · rw [if_neg hn] at h
      rw [if_neg hn]
      simp only [pureRun_bind, pureRun_pure, Option.bind_some]
      exact ih b h

theorem goA_run {P : Program} {r : Value → Value → Option Bool} {d' : Nat} {e : TypeId} {z : Nat} (hz : sizeT P e = some z) (hr : ∀ x y b, r x y = some b → pureRun P (Op.equalIn d' e x y) = some b) (xs ys : Array Value) :
    ∀ (n i : Nat) (b : Bool), eqV.goA P r (isAggT P e) z xs ys i n = some b →
      pureRun P (forIn (List.range' i n) ((none, ()) : Option Bool × Unit) fun i __s => do
              let __do_lift ← part e xs (i * z)
              let __do_lift_1 ← part e ys (i * z)
              let __do_lift ← Op.equalIn d' e __do_lift __do_lift_1
              if (!__do_lift) = true then pure (ForInStep.done (some false, ()))
                else pure (ForInStep.yield (none, ()))) = some (if b then (none, ()) else (some false, ()))
  | 0, i, b, h => by
    simp only [eqV.goA, Option.some.injEq] at h
    subst h
    rfl
  | n + 1, i, b, h => by
    have ih := goA_run hz hr xs ys n (i + 1)
    simp only [eqV.goA] at h
    rw [List.range'_succ, List.forIn_cons]
    split at h
    case h_2 => cases h
    rename_i a c ha hc
    have pa : ∀ (cs : Array Value) (v : Value), (match isAggT P e with | some true => some (Value.agg (cs.extract (i * z) (i * z + z))) | some false => cs[i * z]? | none => none) = some v → pureRun P (part e cs (i * z)) = some v := by
      intro cs v hv
      refine part_run ?_
      unfold eqV.pt
      rw [hz]
      split at hv <;> simp_all
    split at h
    case h_2 => cases h
    rename_i u v hu hv
    cases h
    simp only [pureRun_bind, pa _ _ ha, pa _ _ hc, hr _ _ _ hu, Option.bind_some]
    cases u
    · simp only [Bool.not_false, if_true, pureRun_pure, Option.bind_some]
      simp
    · simp only [Bool.not_true, Bool.false_eq_true, if_false, Bool.true_and]
      exact ih v hv

theorem eqV_ok {P : Program} : ∀ (d : Nat) (t : TypeId) (x y : Value) (b : Bool), eqV P d t x y = some b → ∀ d', d ≤ d' → pureRun P (Op.equalIn d' t x y) = some b
  | 0, _, _, _, _, h, _, _ => by cases h
  | d + 1, t, x, y, b, h, d', hd => by
    obtain ⟨d', rfl⟩ : ∃ m, d' = m + 1 := ⟨d' - 1, by omega⟩
    have hd : d ≤ d' := by omega
    have ih := eqV_ok (P := P) d
    unfold Op.equalIn
    simp only [pureRun_bind, pureRun_underlying]
    unfold eqV at h
    split at h
    · rename_i ht; cases h; simp only [ht, Option.bind_some]; rfl
    · rename_i ht
      split at h
      · cases h; rename_i hk; simp only [ht, Option.bind_some, hk, if_true]; rfl
      · cases h
    · rename_i ht; cases h; simp only [ht, Option.bind_some]; rfl
    · rename_i fs xs ys ht
      split at h
      · cases h
      · rename_i hs
        simp only [ht, Option.bind_some, pureRun_bind, pureRun_program, hs]
        rw [if_neg (by simp)]
        rw [pureRun_bind, ← Array.forIn_toList, go_run (fun t x y b h => ih t x y b h d' hd) xs ys _ b h]
        cases b <;> rfl
    · rename_i n e xs ys ht
      split at h
      · rename_i z hz
        simp only [ht, Option.bind_some, pureRun_bind, pureRun_program, sizeOf_run hz]
        rw [Std.Legacy.Range.forIn_eq_forIn_range']
        have := goA_run hz (fun x y b h => ih e x y b h d' hd) xs ys n 0 b h
        simp only [Std.Legacy.Range.size]
        simp at this ⊢
        rw [this]
        cases b <;> rfl
      · cases h
    · cases h

theorem eqg_agg {P : Program} {t : TypeId} {xo yo : Operand} {xs ys : Array Value} {op : BinOp} (hg : P.eqGuardType P.depth t = false) : pureRun P (eqGuard op t xo yo (.agg xs) (.agg ys)) = some () := by
  unfold eqGuard
  cases op <;> simp [pureRun_bind, pureRun_pure, pureRun_program, hg]

theorem eq_agg (d : Nat) {P : Program} {t : TypeId} {xo yo : Operand} {xs ys : Array Value} {b : Bool} (h1 : isPtr P t = false) (h2 : isSl P t = false) (hx : scalar (.agg xs) = true) (hy : scalar (.agg ys) = true) (hg : P.eqGuardType P.depth t = false)
    (h : eqV P d t (.agg xs) (.agg ys) = some b) (hd : d ≤ 10000 := by decide) : evBin P .eql t xo yo (.agg xs) (.agg ys) = some (.bool b) := by
  rw [evBin_scalar h1 h2 hx hy]
  have := eqV_ok d t _ _ b h Op.maxDepth hd
  simp only [pureV, pureRun_bind, eqg_agg hg, Option.bind_some, binOp, Op.equal, this, pureRun_pure, flatS, if_true]
theorem ne_agg (d : Nat) {P : Program} {t : TypeId} {xo yo : Operand} {xs ys : Array Value} {b : Bool} (h1 : isPtr P t = false) (h2 : isSl P t = false) (hx : scalar (.agg xs) = true) (hy : scalar (.agg ys) = true) (hg : P.eqGuardType P.depth t = false)
    (h : eqV P d t (.agg xs) (.agg ys) = some b) (hd : d ≤ 10000 := by decide) : evBin P .neq t xo yo (.agg xs) (.agg ys) = some (.bool (!b)) := by
  rw [evBin_scalar h1 h2 hx hy]
  have := eqV_ok d t _ _ b h Op.maxDepth hd
  simp only [pureV, pureRun_bind, eqg_agg hg, Option.bind_some, binOp, Op.equal, this, pureRun_pure, flatS, if_true]

/-! Rules for a type, in bundles. -/
section
variable {P : Program} {t : TypeId}
theorem int_rules (h1 : isPtr P t = false) (h2 : isSl P t = false) :
    (∀ xo yo k a b, evBin P .add t xo yo (.int k a) (.int k b) = some (.int k (k.wrap (a + b)))) ∧
    (∀ xo yo k a b, evBin P .sub t xo yo (.int k a) (.int k b) = some (.int k (k.wrap (a - b)))) ∧
    (∀ xo yo k a b, evBin P .mul t xo yo (.int k a) (.int k b) = some (.int k (k.wrap (a * b)))) ∧
    (∀ xo yo k a b, evBin P .lss t xo yo (.int k a) (.int k b) = some (.bool (decide (a < b)))) ∧
    (∀ xo yo k a b, evBin P .leq t xo yo (.int k a) (.int k b) = some (.bool (decide (a ≤ b)))) ∧
    (∀ xo yo k a b, evBin P .gtr t xo yo (.int k a) (.int k b) = some (.bool (decide (b < a)))) ∧
    (∀ xo yo k a b, evBin P .geq t xo yo (.int k a) (.int k b) = some (.bool (decide (b ≤ a)))) ∧
    (∀ xo yo k a b, evBin P .eql t xo yo (.int k a) (.int k b) = some (.bool (decide (a = b)))) ∧
    (∀ xo yo k a b, evBin P .neq t xo yo (.int k a) (.int k b) = some (.bool (!decide (a = b)))) ∧
    (∀ xo yo k a b, b < 0 ∨ 0 < b → evBin P .rem t xo yo (.int k a) (.int k b) = some (.int k (a.tmod b))) ∧
    (∀ xo yo k a b, b < 0 ∨ 0 < b → evBin P .quo t xo yo (.int k a) (.int k b) = some (.int k (k.wrap (a.tdiv b)))) ∧
    (∀ xo yo k a b, evBin P .and t xo yo (.int k a) (.int k b) = some (.int k (k.wrap ((BitVec.ofInt k.bits a &&& BitVec.ofInt k.bits b).toNat)))) ∧
    (∀ xo yo k a b, evBin P .or t xo yo (.int k a) (.int k b) = some (.int k (k.wrap ((BitVec.ofInt k.bits a ||| BitVec.ofInt k.bits b).toNat)))) ∧
    (∀ xo yo k a b, evBin P .xor t xo yo (.int k a) (.int k b) = some (.int k (k.wrap ((BitVec.ofInt k.bits a ^^^ BitVec.ofInt k.bits b).toNat)))) ∧
    (∀ xo yo k a b, evBin P .andNot t xo yo (.int k a) (.int k b) = some (.int k (k.wrap ((BitVec.ofInt k.bits a &&& ~~~BitVec.ofInt k.bits b).toNat)))) ∧
    (∀ xo yo k k' a b, 0 ≤ b → evBin P .shl t xo yo (.int k a) (.int k' b) = some (.int k (k.wrap (a * 2 ^ min b.toNat k.bits)))) ∧
    (∀ xo yo k k' a b, 0 ≤ b → evBin P .shr t xo yo (.int k a) (.int k' b) = some (.int k (a.fdiv (2 ^ min b.toNat k.bits)))) :=
  ⟨fun _ _ _ _ _ => bin_add h1 h2, fun _ _ _ _ _ => bin_sub h1 h2, fun _ _ _ _ _ => bin_mul h1 h2, fun _ _ _ _ _ => bin_lss h1 h2, fun _ _ _ _ _ => bin_leq h1 h2, fun _ _ _ _ _ => bin_gtr h1 h2, fun _ _ _ _ _ => bin_geq h1 h2,
   fun _ _ _ _ _ => bin_eql h1 h2, fun _ _ _ _ _ => bin_neq h1 h2, fun _ _ _ _ _ h => bin_rem h1 h2 (by omega), fun _ _ _ _ _ h => bin_quo h1 h2 (by omega), fun _ _ _ _ _ => bin_and h1 h2, fun _ _ _ _ _ => bin_or h1 h2, fun _ _ _ _ _ => bin_xor h1 h2,
   fun _ _ _ _ _ => bin_andNot h1 h2, fun _ _ _ _ _ _ h => bin_shl h1 h2 h, fun _ _ _ _ _ _ h => bin_shr h1 h2 h⟩

theorem bin_bneq {xo yo : Operand} {x y : Bool} (ht : P.underlying t = some .bool) (h1 : isPtr P t = false) (h2 : isSl P t = false) : evBin P .neq t xo yo (.bool x) (.bool y) = some (.bool (!(x == y))) := by
  rw [evBin_scalar h1 h2 rfl rfl]
  have : pureRun P (Op.equal t (.bool x) (.bool y)) = some (x == y) := by
    simp only [Op.equal, Op.maxDepth]
    unfold Op.equalIn
    simp only [pureRun_bind, pureRun_underlying, ht, Option.bind_some, pureRun_pure]
  simp only [pureV, eqGuard, binOp, pureRun_bind, this, Option.bind_some, pureRun_pure, flatS, if_true]
  rfl

theorem bool_rules (ht : P.underlying t = some .bool) (h1 : isPtr P t = false) (h2 : isSl P t = false) :
    (∀ xo yo x y, evBin P .eql t xo yo (.bool x) (.bool y) = some (.bool (x == y))) ∧
    (∀ xo yo x y, evBin P .neq t xo yo (.bool x) (.bool y) = some (.bool (!(x == y)))) :=
  ⟨fun _ _ _ _ => bin_beql ht h1 h2, fun _ _ _ _ => bin_bneq ht h1 h2⟩

theorem str_add {xo yo : Operand} {x y : ByteArray} (h1 : isPtr P t = false) (h2 : isSl P t = false) (h : x.size + y.size ≤ 9223372036854775807) : evBin P .add t xo yo (.string x) (.string y) = some (.string (x ++ y)) := by
  rw [evBin_scalar h1 h2 rfl rfl]
  have : ¬ (((x.size + y.size : Nat) : Int) > IntKind.i64.max) := by
    have : IntKind.i64.max = 9223372036854775807 := by decide
    omega
  simp only [eqGuard, binOp, Op.stringOp, if_neg this]
  rfl

theorem str_rules (ht : P.underlying t = some .string) (h1 : isPtr P t = false) (h2 : isSl P t = false) :
    (∀ xo yo x y, evBin P .eql t xo yo (.string x) (.string y) = some (.bool (x.toList == y.toList))) ∧
    (∀ xo yo x y, evBin P .neq t xo yo (.string x) (.string y) = some (.bool (!(x.toList == y.toList)))) ∧
    (∀ xo yo x y, x.size + y.size ≤ 9223372036854775807 → evBin P .add t xo yo (.string x) (.string y) = some (.string (x ++ y))) ∧
    (∀ x, evLen P #[t] (.string x) = some (.int .i64 x.size)) ∧
    (∀ s k i, 0 ≤ i → i < (s.size : Int) → evIndex P t (.string s) (.int k i) = some (.int .u8 (s[i.toNat]!).toNat)) ∧
    (∀ (E : Env) g s (lo hi : Int) (_ : E.P = P), 0 ≤ lo → lo ≤ hi → hi ≤ s.size → evSlice E g t (.string s) (some (.int .i64 lo)) (some (.int .i64 hi)) none = some ⟨.string (s.extract lo.toNat hi.toNat), [], []⟩) ∧
    (∀ (E : Env) g s (lo : Int) (_ : E.P = P), 0 ≤ lo → lo ≤ s.size → evSlice E g t (.string s) (some (.int .i64 lo)) none none = some ⟨.string (s.extract lo.toNat s.size), [], []⟩) ∧
    (∀ (E : Env) g s (hi : Int) (_ : E.P = P), 0 ≤ hi → hi ≤ s.size → evSlice E g t (.string s) none (some (.int .i64 hi)) none = some ⟨.string (s.extract 0 hi.toNat), [], []⟩) := by
  refine ⟨fun _ _ _ _ => bin_seql h1 h2, fun _ _ _ _ => bin_sneq h1 h2, fun _ _ _ _ h => str_add h1 h2 h, fun x => by simp [evLen, ht], fun s k i g0 g1 => by simp [evIndex, ht, g0, g1], ?_, ?_, ?_⟩
  · intro E g s lo hi hE g0 g1 g2
    simp [evSlice, hE, ht, bound?, show (0 : Int) ≤ hi by omega, g2, g0, show lo ≤ hi.toNat by omega, show lo ≤ max hi 0 by omega]
  · intro E g s lo hE g0 g1
    simp [evSlice, hE, ht, bound?, g0, g1]
  · intro E g s hi hE g0 g1
    simp [evSlice, hE, ht, bound?, g0, g1]

theorem ptr_rules (h1 : isPtr P t = true) :
    (∀ xo yo x y, evBin P .eql t xo yo x y = evNilP true x y) ∧
    (∀ xo yo x y, evBin P .neq t xo yo x y = evNilP false x y) := by
  refine ⟨fun _ _ _ _ => ?_, fun _ _ _ _ => ?_⟩ <;> simp [evBin, h1]

theorem slice_rules {e : TypeId} {n : Nat} (ht : P.underlying t = some (.slice e)) (hn : sizeT P e = some n) (h1 : isPtr P t = false) (h2 : isSl P t = true) :
    (∀ a m c, evLen P #[t] (.slice a m c) = some (.int .i64 (m : Nat))) ∧
    (∀ b o (m : Nat) c k i, 0 ≤ i → i < (m : Int) → evIndexAddr P t (.slice (some ⟨b, o, none⟩) m c) (.int k i) = some (.pointer (some ⟨b, o + i.toNat * n, none⟩))) ∧
    (∀ xo yo x y, evBin P .eql t xo yo x y = evNilS true x y) ∧
    (∀ xo yo x y, evBin P .neq t xo yo x y = evNilS false x y) := by
  refine ⟨fun a m c => by simp [evLen, ht], fun b o m c k i g0 g1 => by simp [evIndexAddr, ht, hn, g0, g1], fun _ _ _ _ => ?_, fun _ _ _ _ => ?_⟩ <;> simp [evBin, h1, h2]

theorem array_rules {e : TypeId} {len n : Nat} (ht : P.underlying t = some (.array len e)) (hn : sizeT P e = some n) :
    (∀ x, evLen P #[t] x = some (.int .i64 (len : Nat))) ∧
    (∀ b o k i, 0 ≤ i → i < (len : Int) → evIndexAddr P t (.pointer (some ⟨b, o, none⟩)) (.int k i) = some (.pointer (some ⟨b, o + i.toNat * n, none⟩))) := by
  refine ⟨fun x => by simp [evLen, ht], fun b o k i g0 g1 => by simp [evIndexAddr, ht, hn, g0, g1]⟩

theorem array_ix {e : TypeId} {len n : Nat} (ht : P.underlying t = some (.array len e)) (hn : sizeT P e = some n) (ha : isAggT P e = some false) :
    ∀ cs k i, 0 ≤ i → i < (len : Int) → evIndex P t (.agg cs) (.int k i) = cs[i.toNat * n]? := fun cs k i g0 g1 => by simp [evIndex, ht, hn, ha, g0, g1]
end
end Go.Ab

/- Arguments that come in, opened: plain values, structs of such, slices of such. -/
set_option linter.all false
open Go.RowKit Go.WideShapes
namespace Go.Ab

inductive CK where
  | int (k : IntKind)
  | bool
  | str

def CK.ok : CK → Value → Prop
  | .int k, v => ∃ n, v = .int k n ∧ (Lit.int k n).wf = true
  | .bool, v => ∃ b, v = .bool b
  | .str, v => ∃ s : ByteArray, v = .string s ∧ s.size ≤ maxLen

def ckAll : List CK → List Value → Prop
  | [], [] => True
  | k :: ks, v :: vs => k.ok v ∧ ckAll ks vs
  | _, _ => False

theorem ckAll_append : ∀ (ks ls : List CK) (vs us : List Value), ckAll ks vs → ckAll ls us → ckAll (ks ++ ls) (vs ++ us)
  | [], ls, [], us, _, h => h
  | k :: ks, ls, v :: vs, us, h1, h2 => ⟨h1.1, ckAll_append ks ls vs us h1.2 h2⟩
  | [], _, _ :: _, _, h, _ => h.elim
  | _ :: _, _, [], _, h, _ => h.elim

theorem ckAll_len : ∀ (ks : List CK) (vs : List Value), ckAll ks vs → vs.length = ks.length
  | [], [], _ => rfl
  | k :: ks, v :: vs, h => by simp [ckAll_len ks vs h.2]
  | [], _ :: _, h => h.elim
  | _ :: _, [], h => h.elim

theorem ckAll_int {k : IntKind} {ks : List CK} {vs : List Value} (h : ckAll (.int k :: ks) vs) : ∃ n r, vs = .int k n :: r ∧ (Lit.int k n).wf = true ∧ ckAll ks r := by
  match vs, h with
  | v :: r, ⟨⟨n, e, hw⟩, h2⟩ => exact ⟨n, r, by rw [e], hw, h2⟩
theorem ckAll_bool {ks : List CK} {vs : List Value} (h : ckAll (.bool :: ks) vs) : ∃ n r, vs = .bool n :: r ∧ ckAll ks r := by
  match vs, h with
  | v :: r, ⟨⟨n, e⟩, h2⟩ => exact ⟨n, r, by rw [e], h2⟩
theorem ckAll_str {ks : List CK} {vs : List Value} (h : ckAll (.str :: ks) vs) : ∃ n r, vs = .string n :: r ∧ n.size ≤ maxLen ∧ ckAll ks r := by
  match vs, h with
  | v :: r, ⟨⟨n, e, hw⟩, h2⟩ => exact ⟨n, r, by rw [e], hw, h2⟩
theorem ckAll_nil {vs : List Value} (h : ckAll [] vs) : vs = [] := by
  match vs, h with
  | [], _ => rfl

theorem ckAll_flat : ∀ (ks : List CK) (vs : List Value), ckAll ks vs → ∀ v ∈ vs, flatS v = true
  | [], [], _ => by simp
  | k :: ks, v :: vs, h => by
    intro u hu
    rcases List.mem_cons.1 hu with rfl | hu
    · cases k <;> (first | obtain ⟨n, rfl, _⟩ := h.1 | obtain ⟨n, rfl⟩ := h.1) <;> rfl
    · exact ckAll_flat ks vs h.2 u hu
  | [], _ :: _, h => h.elim
  | _ :: _, [], h => h.elim

def flatK (P : Program) : Nat → TypeId → Option (List CK)
  | 0, _ => none
  | d + 1, t => match P.underlying t with
    | some .bool => some [.bool]
    | some (.int k) => some [.int k]
    | some .string => some [.str]
    | some (.struct fs) => match go P (flatK P d) fs.toList 0 with
      | some ks => if ks.length = P.cellsOf t then some ks else none
      | none => none
    | _ => none
where
  go (P : Program) (r : TypeId → Option (List CK)) : List Field → Nat → Option (List CK)
    | [], _ => some []
    | f :: l, off => if f.offset = off then
        match r f.type with
        | some ks => if ks.length = P.cellsOf f.type then
            match go P r l (off + ks.length) with
            | some r => some (ks ++ r)
            | none => none
          else none
        | none => none
      else none

section
variable {H : Type} {enc : TypeId × Value → H} {P : Program} {w : World} {base : Nat} {spare : Nat → Bool} {held : Bool}

theorem go_flat {r : TypeId → Option (List CK)} {n : Nat} (hr : ∀ t ks cs x, r t = some ks → DataW.trod enc P w base spare held n t cs = some x → ckAll ks cs) (cs : List Value) :
    ∀ (l : List Field) (off : Nat) (ks : List CK), flatK.go P r l off = some ks → (∀ f ∈ l, ∃ x, DataW.trod enc P w base spare held n f.type ((cs.drop f.offset).take (P.cellsOf f.type)) = some x) → cs.length = off + ks.length → ckAll ks (cs.drop off)
  | [], off, ks, h, _, hl => by
    simp only [flatK.go, Option.some.injEq] at h
    subst h
    rw [List.drop_eq_nil_of_le (by simp at hl; omega)]
    trivial
  | f :: l, off, ks, h, hf, hl => by
    simp only [flatK.go] at h
    split at h
    case isFalse => cases h
    rename_i ho
    split at h
    case h_2 => cases h
    rename_i k1 hk1
    split at h
    case isFalse => cases h
    rename_i hlen
    split at h
    case h_2 => cases h
    rename_i k2 hk2
    cases h
    obtain ⟨x, hx⟩ := hf f (by simp)
    have h1 := hr _ _ _ _ hk1 hx
    have h2 := go_flat hr cs l _ _ hk2 (fun g hg => hf g (by simp [hg])) (by simp at hl; omega)
    rw [ho, ← hlen] at h1
    have e : cs.drop off = (cs.drop off).take k1.length ++ cs.drop (off + k1.length) := by
      rw [← List.drop_drop, List.take_append_drop]
    rw [e]
    exact ckAll_append _ _ _ _ h1 h2

theorem trod_flat : ∀ (d : Nat) (t : TypeId) (ks : List CK) (n : Nat) (cs : List Value) (x : DataW H × List MemPlace), flatK P d t = some ks → DataW.trod enc P w base spare held n t cs = some x → ckAll ks cs
  | 0, _, _, _, _, _, h, _ => by cases h
  | d + 1, t, ks, n, cs, x, h, hx => by
    unfold flatK at h
    split at h
    · rename_i ht
      cases h
      obtain ⟨b, rfl, _⟩ := DataW.trod_bool ht hx
      exact ⟨⟨b, rfl⟩, trivial⟩
    · rename_i k ht
      cases h
      obtain ⟨b, rfl, _, hw⟩ := DataW.trod_int ht hx
      exact ⟨⟨b, rfl, hw⟩, trivial⟩
    · rename_i ht
      cases h
      obtain ⟨b, rfl, _, hw⟩ := DataW.trod_string ht hx
      exact ⟨⟨b, rfl, hw⟩, trivial⟩
    · rename_i fs ht
      split at h
      case h_2 => cases h
      rename_i k1 hk1
      split at h
      case isFalse => cases h
      rename_i hlen
      cases h
      obtain ⟨xs, m, rfl, _, hcl, hxl, hf⟩ := DataW.trod_struct ht hx
      have := go_flat (n := m) (fun t ks cs x h1 h2 => trod_flat d t ks m cs x h1 h2) cs fs.toList 0 ks hk1 (fun f hm => by
        obtain ⟨i, hi⟩ := List.getElem?_of_mem hm
        have hi' : fs[i]? = some f := by simpa using hi
        have hlt : i < xs.length := by
          have := (Array.getElem?_eq_some_iff.1 hi').1
          omega
        exact ⟨xs[i], by rw [hf i f hi', List.getElem?_eq_getElem hlt]⟩) (by omega)
      simpa using this
    · cases h

theorem old_flat {old : Nat} {v : Value} (h : flatS v = true) : oldV old v = true := by
  unfold oldV
  split
  · simp [flatS] at h
  · simp [flatS] at h
  · exact h

theorem rdOld_of {E : Env} (b : Nat) : ∀ (cs : List Value) (o : Nat), (∀ v ∈ cs, flatS v = true) → (∀ q, q < cs.length → E.base ⟨b, o + q, none⟩ = cs[q]?) → rdOld E b o cs.length = some cs
  | [], o, _, _ => rfl
  | v :: cs, o, hf, h => by
    have h0 := h 0 (by simp)
    simp only [Nat.add_zero, List.getElem?_cons_zero] at h0
    have hv : oldV E.old v = true := old_flat (hf v (by simp))
    have ih := rdOld_of (E := E) b cs (o + 1) (fun u hu => hf u (by simp [hu])) (fun q hq => by
      have := h (q + 1) (by simp; omega)
      rw [List.getElem?_cons_succ] at this
      rw [← this]
      congr 2
      omega)
    simp only [List.length_cons, rdOld, h0, hv, ih, if_true]

/-- A slice of plain values, structs of such, that came in. -/
theorem open_flat {t e : TypeId} {ks : List CK} {d : Nat} {v : Value} {dd : DataW H} {ps : List MemPlace} (ht : P.underlying t = some (.slice e)) (hk : flatK P d e = some ks) (hc : P.cellsOf e = ks.length)
    (h : DataW.Trod enc P w 0 (fun _ => true) held t v dd ps) (hok : Value.okWide P w .any 0 t v) :
    ∃ (a : Option Addr) (n c b o : Nat) (C : Nat → List Value), v = .slice a n c ∧ oldV w.heap.size (.slice a n c) = true ∧ n ≤ c ∧ c ≤ maxLen ∧ (0 < n → a = some ⟨b, o, none⟩ ∧ b < w.heap.size) ∧
      ∀ j, j < n → ckAll ks (C j) ∧ ∀ sum pr, rdOld ⟨P, w.heap.size, fun a => w.cell? a, sum, pr⟩ b (o + j * ks.length) ks.length = some (C j) := by
  obtain ⟨fuel, hf⟩ := h
  obtain ⟨a0, n0, c0, rfl⟩ := okWide_slice ht hok
  rcases Go.Deep.open_slice ht hf with ⟨hcs, _⟩ | ⟨x, l, c, m, n, D, Pl, hcs, _, hl, hm, hmm, _, hx⟩
  · simp [Value.cells] at hcs
    obtain ⟨rfl, rfl, rfl⟩ := hcs
    exact ⟨none, 0, 0, 0, 0, fun _ => [], rfl, rfl, by omega, by unfold maxLen; omega, fun h => absurd h (by omega), fun j hj => absurd hj (by omega)⟩
  · simp [Value.cells] at hcs
    obtain ⟨rfl, rfl, rfl⟩ := hcs
    simp only [Value.okWide, ht, Cell.okWide, Cell.ok] at hok
    obtain ⟨_, _, _, hsp, row, cells, hsh, _⟩ := hok
    have hb : x.block < w.heap.size := by
      refine Nat.lt_of_not_le fun hle => ?_
      have hn : w.heap[x.block]? = none := Array.getElem?_eq_none hle
      simp [World.shape?, hn] at hsh
    obtain ⟨xb, xo, xs⟩ := x
    simp only at hsp hb
    subst hsp
    simp only [if_true] at hmm
    subst hmm
    obtain ⟨C, hC⟩ := Go.Deep.choose_lt hx
    refine ⟨_, _, _, xb, xo, C, rfl, by simp [oldV, hb], hl, hm, fun _ => ⟨rfl, hb⟩, fun j hj => ?_⟩
    obtain ⟨h1, h2⟩ := hC j (by omega)
    have hck := trod_flat d e ks n (C j) _ hk h2
    refine ⟨hck, fun sum pr => ?_⟩
    obtain ⟨_, hlen, hcell⟩ := World.cells?_some h1
    rw [← hc, ← hlen]
    refine rdOld_of _ _ _ (ckAll_flat _ _ hck) fun q hq => ?_
    have := hcell q (by omega)
    rw [Go.Deep.add_add] at this
    rw [← this]
    simp only [hlen]
    unfold Addr.add
    split <;> simp_all [Nat.add_assoc]
end

theorem fits64 {a : Int} (h : (Lit.int .i64 a).wf = true) : -9223372036854775808 ≤ a ∧ a ≤ 9223372036854775807 := by
  simp [Lit.wf, IntKind.min, IntKind.max, IntKind.bits, IntKind.signed] at h
  omega
theorem fits8 {a : Int} (h : (Lit.int .u8 a).wf = true) : 0 ≤ a ∧ a ≤ 255 := by
  simp [Lit.wf, IntKind.min, IntKind.max, IntKind.bits, IntKind.signed] at h
  omega
theorem fits16 {a : Int} (h : (Lit.int .u16 a).wf = true) : 0 ≤ a ∧ a ≤ 65535 := by
  simp [Lit.wf, IntKind.min, IntKind.max, IntKind.bits, IntKind.signed] at h
  omega
end Go.Ab

/- Stepping by rules whose side conditions are small: what is behind a step is never touched by it. -/
set_option linter.all false
open Go.RowKit
namespace Go.Ab

section
variable {E : Env} {call : CallF} {k : Nat} {fid : FuncId} {fr fr' : List Value} {h h' : T} {n n' : Nat} {Q : Ex → List Value → St → Prop} {K : List Value → St → Prop}

/-- The rest of a region, heap and counter told apart. -/
def WX (E : Env) (call : CallF) (ops : List Oper) (base i : Nat) (rest : List Oper) (fr : List Value) (h : T) (n : Nat) (Q : List Rec → List Value → St → Prop) : Prop := WR E call ops base i rest fr ⟨h, n⟩ Q

theorem x_region {id : Nat} {ops : List Oper} {d : Bool} (hp : E.pairs fid id = []) (hl : n + ops.length = n') (hx : WX E call ops n 0 ops fr h n' fun _ fr σ => Q .normal fr σ) : W E call k fid (.region id ops.toArray d) none fr ⟨h, n⟩ Q := by
  subst hl
  exact w_region hp hx

theorem x_region_pairs {id : Nat} {ops : List Oper} {d : Bool} (ps : List (Nat × Nat)) (hp : E.pairs fid id = ps) (hl : n + ops.length = n') (hx : WX E call ops n 0 ops fr h n' fun rs fr σ => pairsOk n rs ps = true ∧ Q .normal fr σ) :
    W E call k fid (.region id ops.toArray d) none fr ⟨h, n⟩ Q := by
  subst hl
  exact w_region_pairs ps hp hx

theorem x_nil {ops : List Oper} {base i : Nat} {Q : List Rec → List Value → St → Prop} (hq : Q [] fr ⟨h, n⟩) : WX E call ops base i [] fr h n Q := wr_nil hq

theorem x_op {ops : List Oper} {base i : Nat} {o : Oper} {rest : List Oper} {Q : List Rec → List Value → St → Prop} {e : Eff} {nid j : Nat} (hc : callOf o = none) (hw : Region.wanted o (yieldA ops fr) = true) (hn : base + i = nid) (hj : i + 1 = j)
    (he : evOp E (Opd fr) nid h.get o = some e) (hf : put fr o.dst e.val = fr') (hh : upds h e.upd = h')
    (hx : WX E call ops base j rest fr' h' n fun rs fr1 σ => Q (.mem (fun g => evOp E (Opd fr) nid g o) e :: rs) fr1 σ) : WX E call ops base i (o :: rest) fr h n Q := by
  subst hf hh hn hj
  refine wr_cons ?_
  unfold WStep
  rw [if_pos hw]
  simp only [hc]
  exact ⟨e, he, hx⟩

theorem x_off {ops : List Oper} {base i j : Nat} {o : Oper} {rest : List Oper} {Q : List Rec → List Value → St → Prop} (hw : Region.wanted o (yieldA ops fr) = false) (hj : i + 1 = j) (hf : put fr o.dst undef = fr')
    (hx : WX E call ops base j rest fr' h n fun rs fr1 σ => Q (.quiet :: rs) fr1 σ) : WX E call ops base i (o :: rest) fr h n Q := by
  subst hf hj
  refine wr_cons ?_
  unfold WStep
  rw [if_neg (by simp [hw])]
  exact hx

/-- Whether an operation is wanted hangs on a test. -/
theorem x_test {ops : List Oper} {base i : Nat} {o : Oper} {rest : List Oper} {Q : List Rec → List Value → St → Prop} {b : Bool} (hw : Region.wanted o (yieldA ops fr) = b)
    (h1 : b = true → Region.wanted o (yieldA ops fr) = true → WX E call ops base i (o :: rest) fr h n Q) (h2 : b = false → Region.wanted o (yieldA ops fr) = false → WX E call ops base i (o :: rest) fr h n Q) : WX E call ops base i (o :: rest) fr h n Q := by
  cases b
  · exact h2 rfl hw
  · exact h1 rfl hw

theorem x_test_p {ops : List Oper} {base i : Nat} {o : Oper} {rest : List Oper} {Q : List Rec → List Value → St → Prop} {p : Prop} [Decidable p] (hw : Region.wanted o (yieldA ops fr) = decide p)
    (h1 : p → Region.wanted o (yieldA ops fr) = true → WX E call ops base i (o :: rest) fr h n Q) (h2 : ¬ p → Region.wanted o (yieldA ops fr) = false → WX E call ops base i (o :: rest) fr h n Q) : WX E call ops base i (o :: rest) fr h n Q := by
  by_cases hp : p
  · exact h1 hp (by rw [hw]; exact decide_eq_true hp)
  · exact h2 hp (by rw [hw]; exact decide_eq_false hp)

/-- Behind a call. -/
def PutK (fr : List Value) (d : Option Tmp) (v : Value) (σ : St) (K : List Value → St → Prop) : Prop := K (put fr d v) σ
theorem x_put {d : Option Tmp} {v : Value} {σ : St} (hf : put fr d v = fr') (hk : K fr' σ) : PutK fr d v σ K := by subst hf; exact hk

/-- The rest of a region behind a call. -/
def WXs (E : Env) (call : CallF) (ops : List Oper) (base i : Nat) (rest : List Oper) (fr : List Value) (σ : St) (Q : List Rec → List Value → St → Prop) : Prop := WR E call ops base i rest fr σ Q
theorem x_on {ops : List Oper} {base i : Nat} {rest : List Oper} {Q : List Rec → List Value → St → Prop} (hx : WX E call ops base i rest fr h n Q) : WXs E call ops base i rest fr ⟨h, n⟩ Q := hx

theorem x_call {ops : List Oper} {base i : Nat} {o : Oper} {rest : List Oper} {Q : List Rec → List Value → St → Prop} {f : Operand} {as : List Operand} {g : FuncId} {vs : List Value} {j : Nat} (hc : callOf o = some (f, as)) (hw : Region.wanted o (yieldA ops fr) = true) (hj : i + 1 = j)
    (he : callee? (Opd fr f) (as.map (Opd fr)) = some (g, vs))
    (hx : WCall call g vs ⟨h, n⟩ fun v σ' => PutK fr o.dst v σ' fun fr1 σ1 => WXs E call ops base j rest fr1 σ1 fun rs fr2 σ2 => Q (.call ⟨h, n⟩ σ' :: rs) fr2 σ2) : WX E call ops base i (o :: rest) fr h n Q := by
  subst hj
  refine wr_cons ?_
  unfold WStep
  rw [if_pos hw]
  simp only [hc]
  exact ⟨(g, vs), he, hx⟩

theorem onward_n {σ : St} (hk : K fr σ) : onward K Q .normal fr σ := hk
theorem onward_r {σ : St} (hk : Q .ret fr σ) : onward K Q .ret fr σ := hk
theorem onward_e {σ : St} {i : Nat} (hk : Q (.exit i) fr σ) : onward K Q (.exit i) fr σ := hk
theorem onward_g {σ : St} {i : Nat} (hk : Q (.goto i) fr σ) : onward K Q (.goto i) fr σ := hk
theorem caught_n {σ : St} {id : Nat} (hk : Q .normal fr σ) : caught id Q .normal fr σ := hk
theorem caught_r {σ : St} {id : Nat} (hk : Q .ret fr σ) : caught id Q .ret fr σ := hk
theorem caught_g {σ : St} {id i : Nat} (hk : Q (.goto i) fr σ) : caught id Q (.goto i) fr σ := hk
theorem caught_e {σ : St} {id : Nat} (hk : Q .normal fr σ) : caught id Q (.exit id) fr σ := by simp only [caught, if_true]; exact hk
theorem caught_ne {σ : St} {id i : Nat} (hi : i ≠ id) (hk : Q (.exit i) fr σ) : caught id Q (.exit i) fr σ := by simp only [caught, if_neg hi]; exact hk
theorem jumps_n {σ : St} {c : Code} {f : Nat → List Value → St → Prop} (hk : Q .normal fr σ) : jumps c f Q .normal fr σ := hk
theorem jumps_r {σ : St} {c : Code} {f : Nat → List Value → St → Prop} (hk : Q .ret fr σ) : jumps c f Q .ret fr σ := hk
theorem jumps_e {σ : St} {c : Code} {i : Nat} {f : Nat → List Value → St → Prop} (hk : Q (.exit i) fr σ) : jumps c f Q (.exit i) fr σ := hk
theorem jumps_g {σ : St} {c : Code} {l : Nat} {f : Nat → List Value → St → Prop} (hl : hasLabel c l = true) (hk : f l fr σ) : jumps c f Q (.goto l) fr σ := by simp only [jumps, if_pos hl]; exact hk
theorem jumps_ng {σ : St} {c : Code} {l : Nat} {f : Nat → List Value → St → Prop} (hl : hasLabel c l = false) (hk : Q (.goto l) fr σ) : jumps c f Q (.goto l) fr σ := by simp only [jumps, hl]; exact hk

theorem fin_r {σ : St} {rs : List ResultVar} {v : Value} {R : Value → Prop} (hr : resR E fr σ rs = some v) (hk : R v) : (Ex.ret = .normal ∨ Ex.ret = .ret) ∧ bindV (resR E fr σ rs) R := ⟨.inr rfl, v, hr, hk⟩
theorem fin_n {σ : St} {rs : List ResultVar} {v : Value} {R : Value → Prop} (hr : resR E fr σ rs = some v) (hk : R v) : (Ex.normal = .normal ∨ Ex.normal = .ret) ∧ bindV (resR E fr σ rs) R := ⟨.inl rfl, v, hr, hk⟩

/-- A call of a function of the table. -/
theorem x_tbl {t : Tbl} {d : Nat} {f : FuncId} {s : List Value → Option Value} {args : List Value} {v : Value} {R : Value → St → Prop} {σ : St}
    (hcall : WCall (evFunT E t k d) f args σ R = bindV (s args) fun v => R v σ) (hv : s args = some v) (hk : R v σ) : WCall (evFunT E t k d) f args σ R := by
  rw [hcall]
  exact ⟨v, hv, hk⟩

theorem x_fun {t : Tbl} {d : Nat} {f : FuncId} {fn : Func} {c : Code} {args : List Value} {σ : St} {R : Value → St → Prop} (m : Nat) (rs : List ResultVar) (ht : hasT t f = false) (hfn : E.P.funcs[f]? = some fn) (hb : fn.body = some c) (hn : fn.ntmps = m) (hr : fn.results.toList = rs)
    (hf : args ++ List.replicate (m - args.length) undef = fr)
    (hx : W E (evFunT E t k d) k f c none fr σ fun e fr σ => (e = .normal ∨ e = .ret) ∧ bindV (resR E fr σ rs) fun v => R v σ) :
    WCall (evFunT E t k (d + 1)) f args σ R := by
  subst hf
  exact wfunT m rs ht hfn hb hn hr hx

theorem x_cond_t {c : Operand} {x y : Code} {σ : St} (hc : Opd fr c = .bool true) (hx : W E call k fid x none fr σ Q) : W E call k fid (.cond c x y) none fr σ Q := w_cond_t hc rfl hx
theorem x_cond_f {c : Operand} {x y : Code} {σ : St} (hc : Opd fr c = .bool false) (hx : W E call k fid y none fr σ Q) : W E call k fid (.cond c x y) none fr σ Q := w_cond_f hc rfl hx
theorem x_cond_b {c : Operand} {x y : Code} {σ : St} {b : Bool} (hc : Opd fr c = .bool b) (h1 : b = true → W E call k fid x none fr σ Q) (h2 : b = false → W E call k fid y none fr σ Q) : W E call k fid (.cond c x y) none fr σ Q := w_cond hc h1 h2
end

/-! Heaps written again at one place. -/
theorem T.setF_same : ∀ (k : Nat) (t : T) (n : Nat) (x y : Option Blk), n < k → T.setF k (T.setF k t n x) n y = T.setF k t n y := by
  intro k
  induction k with
  | zero => intro t n x y h; omega
  | succ k ih =>
    intro t n x y h
    by_cases h0 : n = 0
    · subst h0; cases t <;> simp [T.setF]
    · by_cases h1 : n % 2 = 1 <;> cases t <;> simp only [T.setF, h0, h1, if_false, if_true] <;> rw [ih _ _ _ _ (by omega)]
theorem set_same {t : T} {n : Nat} {x y : Option Blk} : (t.set n x).set n y = t.set n y := T.setF_same _ _ _ _ _ (by omega)
theorem set_same1 {t : T} {n m : Nat} {x y z : Option Blk} : ((t.set n x).set m z).set n y = (t.set m z).set n y := by
  by_cases h : n = m
  · subst h; simp only [set_same]
  · rw [T.set_comm t n m x z h, set_same]
theorem set_same2 {t : T} {n m p : Nat} {x y z u : Option Blk} : (((t.set n x).set m z).set p u).set n y = ((t.set m z).set p u).set n y := by
  by_cases h : n = p
  · subst h; rw [set_same, set_same]; exact set_same1
  · rw [T.set_comm _ p n u y (Ne.symm h), set_same1, T.set_comm _ n p y u h]
theorem set_same3 {t : T} {n m p q : Nat} {x y z u v : Option Blk} : ((((t.set n x).set m z).set p u).set q v).set n y = (((t.set m z).set p u).set q v).set n y := by
  by_cases h : n = q
  · subst h; rw [set_same, set_same]; exact set_same2
  · rw [T.set_comm _ q n v y (Ne.symm h), set_same2, T.set_comm _ n q y v h]

theorem bsz {a : Array UInt8} : (ByteArray.mk a).size = a.size := rfl
theorem tmod_pos {a b : Int} (h : 0 ≤ a) : a.tmod b = a % b := Int.tmod_eq_emod_of_nonneg h
theorem tdiv_pos {a b : Int} (h : 0 ≤ a) : a.tdiv b = a / b := Int.tdiv_eq_ediv_of_nonneg h
end Go.Ab

/- What each kind of operation comes to, by side conditions of its own. -/
set_option linter.all false
open Go.RowKit
namespace Go.Ab

section
variable {E : Env} {fr : List Value} {nid : Nat} {g : Nat → Option Blk} {o : Oper} {P : Program}

theorem ev_move {x : Operand} {v : Value} (ho : o.op = .move x) (hx : Opd fr x = v) : evOp E (Opd fr) nid g o = some ⟨v, [], []⟩ := by
  subst hx; unfold evOp; rw [ho]
theorem ev_assign {x : Operand} {v : Value} (ho : o.op = .assign x) (hx : Opd fr x = v) : evOp E (Opd fr) nid g o = some ⟨v, [], []⟩ := by
  subst hx; unfold evOp; rw [ho]
theorem ev_pick {c x y : Operand} {b : Bool} {v : Value} (ho : o.op = .pick c x y) (hc : Opd fr c = .bool b) (hv : (if b then Opd fr x else Opd fr y) = v) : evOp E (Opd fr) nid g o = some ⟨v, [], []⟩ := by
  subst hv; unfold evOp; simp only [ho, hc]; cases b <;> rfl
theorem ev_alloc {e : TypeId} {z : Array Value} {l : List Value} (ho : o.op = .alloc e) (hP : E.P = P) (hz : zeroCells? P e = some z) (hl : z.toList = l) : evOp E (Opd fr) nid g o = some ⟨.pointer (some ⟨nid, 0, none⟩), [(nid, some (.cells l e true))], []⟩ := by
  subst hP hl; unfold evOp; simp only [ho, hz]
theorem ev_box {e : TypeId} {x : Operand} {v : Value} {l : List Value} (ho : o.op = .box e x) (hx : Opd fr x = v) (hl : v.cells.toList = l) : evOp E (Opd fr) nid g o = some ⟨.pointer (some ⟨nid, 0, none⟩), [(nid, some (.cells l e true))], []⟩ := by
  subst hx hl; unfold evOp; simp only [ho]
theorem ev_build {t : TypeId} {parts : Array (Nat × Operand)} {v : Value} {l : List (Nat × Value)} (ho : o.op = .build t parts) (hP : E.P = P) (hl : (parts.toList.map fun p => (p.1, Opd fr p.2)) = l) (hv : evBuild P t l = some v) : evOp E (Opd fr) nid g o = some ⟨v, [], []⟩ := by
  subst hP hl; unfold evOp; simp only [ho, hv, Option.map_some]
theorem ev_buildSlice {t : TypeId} {len : Nat} {parts : Array (Nat × Operand)} {e : Eff} {l : List (Nat × Value)} (ho : o.op = .buildSlice t len parts) (hP : E.P = P) (hl : (parts.toList.map fun p => (p.1, Opd fr p.2)) = l) (hv : evBuildSlice P nid t len l = some e) : evOp E (Opd fr) nid g o = some e := by
  subst hP hl; unfold evOp; simp only [ho, hv]

/-- One cell of one's own. -/
theorem ev_load1 {t : TypeId} {x : Operand} {b off : Nat} {c : List Value} {el : TypeId} {ex : Bool} {v : Value} (ho : o.op = .load t x) (hP : E.P = P) (ha : isAggT P t = some false) (hx : Opd fr x = .pointer (some ⟨b, off, none⟩)) (hb : ¬ b < E.old) (hg : g b = some (.cells c el ex)) (hv : c[off]? = some v) :
    evOp E (Opd fr) nid g o = some ⟨v, [], [b]⟩ := by
  subst hP; unfold evOp
  have hlt : off < c.length := (List.getElem?_eq_some_iff.1 hv).1
  have hv2 : c[off] = v := (List.getElem?_eq_some_iff.1 hv).2
  have : rd E g ⟨b, off, none⟩ 1 = some [v] := by
    simp only [rd, Option.isSome_none, hb, hg, if_false, Bool.false_eq_true]
    rw [if_pos (by omega), List.drop_eq_getElem_cons hlt]
    simp [hv2]
  simp only [ho, hx, evLoad, ha, this]
/-- Several cells of one's own. -/
theorem ev_loadN {t : TypeId} {x : Operand} {b off k : Nat} {c l : List Value} {el : TypeId} {ex : Bool} (ho : o.op = .load t x) (hP : E.P = P) (ha : isAggT P t = some true) (hx : Opd fr x = .pointer (some ⟨b, off, none⟩)) (hb : ¬ b < E.old) (hg : g b = some (.cells c el ex)) (hk : sizeT P t = some k) (hle : off + k ≤ c.length) (hl : (c.drop off).take k = l) :
    evOp E (Opd fr) nid g o = some ⟨.agg l.toArray, [], [b]⟩ := by
  subst hP hl; unfold evOp
  have : rd E g ⟨b, off, none⟩ k = some ((c.drop off).take k) := by
    simp only [rd, Option.isSome_none, hb, hg, if_false, Bool.false_eq_true]
    rw [if_pos hle]
  simp only [ho, hx, evLoad, ha, hk, this]
/-- One cell that came in. -/
theorem ev_load1o {t : TypeId} {x : Operand} {b off : Nat} {v : Value} (ho : o.op = .load t x) (hP : E.P = P) (ha : isAggT P t = some false) (hx : Opd fr x = .pointer (some ⟨b, off, none⟩)) (hb : b < E.old) (hr : rdOld E b off 1 = some [v]) :
    evOp E (Opd fr) nid g o = some ⟨v, [], [b]⟩ := by
  subst hP; unfold evOp
  have : rd E g ⟨b, off, none⟩ 1 = some [v] := by simp only [rd, Option.isSome_none, hb, if_true, Bool.false_eq_true, if_false]; simpa using hr
  simp only [ho, hx, evLoad, ha, this]
theorem ev_loadNo {t : TypeId} {x : Operand} {b off k : Nat} {l : List Value} (ho : o.op = .load t x) (hP : E.P = P) (ha : isAggT P t = some true) (hx : Opd fr x = .pointer (some ⟨b, off, none⟩)) (hb : b < E.old) (hk : sizeT P t = some k) (hr : rdOld E b off k = some l) :
    evOp E (Opd fr) nid g o = some ⟨.agg l.toArray, [], [b]⟩ := by
  subst hP; unfold evOp
  have : rd E g ⟨b, off, none⟩ k = some l := by simp only [rd, Option.isSome_none, hb, if_true, Bool.false_eq_true, if_false]; simpa using hr
  simp only [ho, hx, evLoad, ha, hk, this]
theorem ev_store {t : TypeId} {x y : Operand} {b off k : Nat} {c c' l : List Value} {el : TypeId} {ex : Bool} {v : Value} (ho : o.op = .store t x y) (hP : E.P = P) (hx : Opd fr x = .pointer (some ⟨b, off, none⟩)) (hy : Opd fr y = v) (hb : ¬ b < E.old) (hg : g b = some (.cells c el ex))
    (hk : sizeT P t = some k) (hl : v.cells.toList = l) (hlen : l.length = k) (hone : l.all oneCell = true) (hle : off + k ≤ c.length) (hw : wrList c off l = c') : evOp E (Opd fr) nid g o = some ⟨.tuple #[], [(b, some (.cells c' el ex))], [b]⟩ := by
  subst hP hy hw hlen hl; unfold evOp
  have : wr E g ⟨b, off, none⟩ (Opd fr y).cells.toList = some (b, some (.cells (wrList c off (Opd fr y).cells.toList) el ex)) := by
    have h0 : ¬ (((⟨b, off, none⟩ : Addr).spot.isSome || decide (b < E.old)) || !(Opd fr y).cells.toList.all oneCell) = true := by simp [hb]; simpa using hone
    unfold wr
    rw [if_neg h0]
    simp only [hg]
    rw [if_pos hle]
  simp only [ho, hx, evStore]
  rw [if_pos (by rw [hk]; simp), this]

theorem ev_nil {x : Operand} {a : Addr} (ho : o.op = .nilCheck x) (hx : Opd fr x = .pointer (some a)) : evOp E (Opd fr) nid g o = some ⟨.pointer (some a), [], []⟩ := by
  unfold evOp; simp only [ho, hx]
theorem ev_fa {t : TypeId} {x : Operand} {f : Nat} {v u : Value} (ho : o.op = .fieldAddr t x f) (hP : E.P = P) (hx : Opd fr x = v) (hv : evFieldAddr P t v f = some u) : evOp E (Opd fr) nid g o = some ⟨u, [], []⟩ := by
  subst hP hx; unfold evOp; simp only [ho, hv, Option.map_some]
theorem ev_field {t : TypeId} {x : Operand} {f : Nat} {v u : Value} (ho : o.op = .field t x f) (hP : E.P = P) (hx : Opd fr x = v) (hv : evField P t v f = some u) : evOp E (Opd fr) nid g o = some ⟨u, [], []⟩ := by
  subst hP hx; unfold evOp; simp only [ho, hv, Option.map_some]
theorem ev_ia {t : TypeId} {x i : Operand} {v w u : Value} (ho : o.op = .indexAddr t x i) (hP : E.P = P) (hx : Opd fr x = v) (hi : Opd fr i = w) (hv : evIndexAddr P t v w = some u) : evOp E (Opd fr) nid g o = some ⟨u, [], []⟩ := by
  subst hP hx hi; unfold evOp; simp only [ho, hv, Option.map_some]
theorem ev_ix {t : TypeId} {x i : Operand} {v w u : Value} (ho : o.op = .index t x i) (hP : E.P = P) (hx : Opd fr x = v) (hi : Opd fr i = w) (hv : evIndex P t v w = some u) : evOp E (Opd fr) nid g o = some ⟨u, [], []⟩ := by
  subst hP hx hi; unfold evOp; simp only [ho, hv, Option.map_some]
theorem ev_extract {x : Operand} {i : Nat} {vs : Array Value} {u : Value} (ho : o.op = .extract x i) (hx : Opd fr x = .tuple vs) (hv : vs[i]? = some u) : evOp E (Opd fr) nid g o = some ⟨u, [], []⟩ := by
  unfold evOp; simp only [ho, hx, hv, Option.map_some]
theorem ev_un {op : UnOp} {t : TypeId} {x : Operand} {v u : Value} (ho : o.op = .unOp op t x) (hP : E.P = P) (hx : Opd fr x = v) (hs : scalar v = true) (hv : pureV P (Op.unary op v) = some u) : evOp E (Opd fr) nid g o = some ⟨u, [], []⟩ := by
  subst hP hx; unfold evOp; simp only [ho, hs, hv, if_true, Option.map_some]
theorem ev_conv {s d : TypeId} {x : Operand} {v : Value} {e : Eff} (ho : o.op = .convert s d x) (hx : Opd fr x = v) (hv : evConvert E g nid s d v = some e) : evOp E (Opd fr) nid g o = some e := by
  subst hx; unfold evOp; simp only [ho, hv]
theorem ev_mk {t : TypeId} {l c : Operand} {v w : Value} {e : Eff} (ho : o.op = .makeSlice t l c) (hl : Opd fr l = v) (hc : Opd fr c = w) (hv : evMakeSlice E nid t v w = some e) : evOp E (Opd fr) nid g o = some e := by
  subst hl hc; unfold evOp; simp only [ho, hv]
theorem ev_slice {t : TypeId} {x : Operand} {lo hi mx : Option Operand} {v : Value} {a b c : Option Value} {e : Eff} (ho : o.op = .slice t x lo hi mx) (hx : Opd fr x = v) (h1 : lo.map (Opd fr) = a) (h2 : hi.map (Opd fr) = b) (h3 : mx.map (Opd fr) = c) (hv : evSlice E g t v a b c = some e) : evOp E (Opd fr) nid g o = some e := by
  subst hx h1 h2 h3; unfold evOp; simp only [ho, hv]
theorem ev_fn {fn : Fn} {x y : Array Operand} {u v : Array Value} (ho : o.op = .makeFunc fn x y) (hx : x.map (Opd fr) = u) (hy : y.map (Opd fr) = v) : evOp E (Opd fr) nid g o = some ⟨.func fn u v, [], []⟩ := by
  subst hx hy; unfold evOp; simp only [ho]
theorem ev_bi {b : Builtin} {args : Array Operand} {ts : Array TypeId} {l : List Value} {e : Eff} (ho : o.op = .call { callee := .builtin b, args := args, argTypes := ts }) (hl : args.toList.map (Opd fr) = l) (hv : evBuiltin E g nid b ts o.type l = some e) : evOp E (Opd fr) nid g o = some e := by
  subst hl; unfold evOp; simp only [ho, hv]
theorem ev_len {x : Operand} {ts : Array TypeId} {v u : Value} (ho : o.op = .call { callee := .builtin .len, args := #[x], argTypes := ts }) (hP : E.P = P) (hx : Opd fr x = v) (hv : evLen P ts v = some u) : evOp E (Opd fr) nid g o = some ⟨u, [], []⟩ := by
  subst hP hx; unfold evOp; simp only [evLenE, ho, evBuiltin, List.map_cons, List.map_nil, hv, Option.map_some]
theorem ev_min {x y : Operand} {ts : Array TypeId} {k : IntKind} {a b : Int} {r : Value} (ho : o.op = .call { callee := .builtin .min, args := #[x, y], argTypes := ts }) (hx : Opd fr x = .int k a) (hy : Opd fr y = .int k b) (hv : .int k (min a b) = r) : evOp E (Opd fr) nid g o = some ⟨r, [], []⟩ := by
  subst hv; unfold evOp
  simp only [ho, evBuiltin, List.map_cons, List.map_nil, hx, hy, List.all_cons, List.all_nil, scal_int, Bool.and_self, if_true, List.toArray, min_int, Option.map_some]
  have : (if b < a then b else a) = min a b := by omega
  simp [this, min_int]
theorem ev_max {x y : Operand} {ts : Array TypeId} {k : IntKind} {a b : Int} {r : Value} (ho : o.op = .call { callee := .builtin .max, args := #[x, y], argTypes := ts }) (hx : Opd fr x = .int k a) (hy : Opd fr y = .int k b) (hv : .int k (max a b) = r) : evOp E (Opd fr) nid g o = some ⟨r, [], []⟩ := by
  subst hv; unfold evOp
  simp only [ho, evBuiltin, List.map_cons, List.map_nil, hx, hy, List.all_cons, List.all_nil, scal_int, Bool.and_self, if_true, List.toArray, max_int, Option.map_some]
  have : (if a < b then b else a) = max a b := by omega
  simp [this, max_int]

/-- Arithmetic on integers of one kind. -/
def intBin (k : IntKind) : BinOp → Int → Int → Option Value
  | .add, a, b => some (.int k (k.wrap (a + b)))
  | .sub, a, b => some (.int k (k.wrap (a - b)))
  | .mul, a, b => some (.int k (k.wrap (a * b)))
  | .lss, a, b => some (.bool (decide (a < b)))
  | .leq, a, b => some (.bool (decide (a ≤ b)))
  | .gtr, a, b => some (.bool (decide (b < a)))
  | .geq, a, b => some (.bool (decide (b ≤ a)))
  | .eql, a, b => some (.bool (decide (a = b)))
  | .neq, a, b => some (.bool (!decide (a = b)))
  | .rem, a, b => if b < 0 ∨ 0 < b then some (.int k (a.tmod b)) else none
  | .quo, a, b => if b < 0 ∨ 0 < b then some (.int k (k.wrap (a.tdiv b))) else none
  | .and, a, b => some (.int k (k.wrap ((BitVec.ofInt k.bits a &&& BitVec.ofInt k.bits b).toNat)))
  | .or, a, b => some (.int k (k.wrap ((BitVec.ofInt k.bits a ||| BitVec.ofInt k.bits b).toNat)))
  | .xor, a, b => some (.int k (k.wrap ((BitVec.ofInt k.bits a ^^^ BitVec.ofInt k.bits b).toNat)))
  | .andNot, a, b => some (.int k (k.wrap ((BitVec.ofInt k.bits a &&& ~~~BitVec.ofInt k.bits b).toNat)))
  | _, _, _ => none

theorem ev_bin {op : BinOp} {t ty : TypeId} {x y : Operand} {k : IntKind} {a b : Int} {r : Value} (ho : o.op = .binOp op t x y ty) (hP : E.P = P) (h1 : isPtr P t = false) (h2 : isSl P t = false) (hx : Opd fr x = .int k a) (hy : Opd fr y = .int k b) (hv : intBin k op a b = some r) :
    evOp E (Opd fr) nid g o = some ⟨r, [], []⟩ := by
  subst hP; unfold evOp
  have : evBin E.P op t x y (.int k a) (.int k b) = some r := by
    have R := int_rules h1 h2
    cases op <;> simp only [intBin, Option.some.injEq, reduceCtorEq] at hv <;> (try cases hv) <;> (try simp only [R])
    all_goals
      split at hv
      · rename_i hb; cases hv; simp only [R, hb]
      · cases hv
  simp only [ho, hx, hy, this, Option.map_some]
theorem ev_shl {t ty : TypeId} {x y : Operand} {k k' : IntKind} {a b : Int} {r : Int} (ho : o.op = .binOp .shl t x y ty) (hP : E.P = P) (h1 : isPtr P t = false) (h2 : isSl P t = false) (hx : Opd fr x = .int k a) (hy : Opd fr y = .int k' b) (hb : 0 ≤ b) (hv : k.wrap (a * 2 ^ min b.toNat k.bits) = r) :
    evOp E (Opd fr) nid g o = some ⟨.int k r, [], []⟩ := by
  subst hP hv; unfold evOp; simp only [ho, hx, hy, bin_shl h1 h2 hb, Option.map_some]
theorem ev_shr {t ty : TypeId} {x y : Operand} {k k' : IntKind} {a b : Int} {r : Int} (ho : o.op = .binOp .shr t x y ty) (hP : E.P = P) (h1 : isPtr P t = false) (h2 : isSl P t = false) (hx : Opd fr x = .int k a) (hy : Opd fr y = .int k' b) (hb : 0 ≤ b) (hv : a.fdiv (2 ^ min b.toNat k.bits) = r) :
    evOp E (Opd fr) nid g o = some ⟨.int k r, [], []⟩ := by
  subst hP hv; unfold evOp; simp only [ho, hx, hy, bin_shr h1 h2 hb, Option.map_some]
theorem ev_binB {op : BinOp} {t ty : TypeId} {x y : Operand} {a b : Bool} {r : Value} (ho : o.op = .binOp op t x y ty) (hP : E.P = P) (hx : Opd fr x = .bool a) (hy : Opd fr y = .bool b) (hv : evBin P op t x y (.bool a) (.bool b) = some r) : evOp E (Opd fr) nid g o = some ⟨r, [], []⟩ := by
  subst hP; unfold evOp; simp only [ho, hx, hy, hv, Option.map_some]
theorem ev_binS {op : BinOp} {t ty : TypeId} {x y : Operand} {a b : ByteArray} {r : Value} (ho : o.op = .binOp op t x y ty) (hP : E.P = P) (hx : Opd fr x = .string a) (hy : Opd fr y = .string b) (hv : evBin P op t x y (.string a) (.string b) = some r) : evOp E (Opd fr) nid g o = some ⟨r, [], []⟩ := by
  subst hP; unfold evOp; simp only [ho, hx, hy, hv, Option.map_some]
theorem ev_binP {op : BinOp} {t ty : TypeId} {x y : Operand} {a b : Option Addr} {r : Value} (ho : o.op = .binOp op t x y ty) (hP : E.P = P) (hx : Opd fr x = .pointer a) (hy : Opd fr y = .pointer b) (hv : evBin P op t x y (.pointer a) (.pointer b) = some r) : evOp E (Opd fr) nid g o = some ⟨r, [], []⟩ := by
  subst hP; unfold evOp; simp only [ho, hx, hy, hv, Option.map_some]
theorem ev_binL {op : BinOp} {t ty : TypeId} {x y : Operand} {a b : Option Addr} {n c m d : Nat} {r : Value} (ho : o.op = .binOp op t x y ty) (hP : E.P = P) (hx : Opd fr x = .slice a n c) (hy : Opd fr y = .slice b m d) (hv : evBin P op t x y (.slice a n c) (.slice b m d) = some r) : evOp E (Opd fr) nid g o = some ⟨r, [], []⟩ := by
  subst hP; unfold evOp; simp only [ho, hx, hy, hv, Option.map_some]
theorem ev_binA {op : BinOp} {t ty : TypeId} {x y : Operand} {a b : Array Value} {r : Value} (ho : o.op = .binOp op t x y ty) (hP : E.P = P) (hx : Opd fr x = .agg a) (hy : Opd fr y = .agg b) (hv : evBin P op t x y (.agg a) (.agg b) = some r) : evOp E (Opd fr) nid g o = some ⟨r, [], []⟩ := by
  subst hP; unfold evOp; simp only [ho, hx, hy, hv, Option.map_some]
end

theorem str_rules2 {P : Program} {t : TypeId} (ht : P.underlying t = some .string) (h1 : isPtr P t = false) (h2 : isSl P t = false) :
    (∀ xo yo x y, evBin P .eql t xo yo (.string x) (.string y) = some (.bool (x.toList == y.toList))) ∧
    (∀ xo yo x y, evBin P .neq t xo yo (.string x) (.string y) = some (.bool (!(x.toList == y.toList)))) ∧
    (∀ xo yo x y, x.size + y.size ≤ 9223372036854775807 → evBin P .add t xo yo (.string x) (.string y) = some (.string (x ++ y))) :=
  ⟨(str_rules ht h1 h2).1, (str_rules ht h1 h2).2.1, (str_rules ht h1 h2).2.2.1⟩
theorem str_ix {P : Program} {t : TypeId} (ht : P.underlying t = some .string) : ∀ s k i, 0 ≤ i → i < (s.size : Int) → evIndex P t (.string s) (.int k i) = some (.int .u8 (s[i.toNat]!).toNat) := fun s k i g0 g1 => by simp [evIndex, ht, g0, g1]
theorem str_len {P : Program} {t : TypeId} (ht : P.underlying t = some .string) : ∀ x, evLen P #[t] (.string x) = some (.int .i64 x.size) := fun x => by simp [evLen, ht]
theorem str_sl {P : Program} {t : TypeId} (ht : P.underlying t = some .string) (h1 : isPtr P t = false) (h2 : isSl P t = false) :
    (∀ (E : Env) g s (lo hi : Int) (_ : E.P = P), 0 ≤ lo → lo ≤ hi → hi ≤ s.size → evSlice E g t (.string s) (some (.int .i64 lo)) (some (.int .i64 hi)) none = some ⟨.string (s.extract lo.toNat hi.toNat), [], []⟩) ∧
    (∀ (E : Env) g s (lo : Int) (_ : E.P = P), 0 ≤ lo → lo ≤ s.size → evSlice E g t (.string s) (some (.int .i64 lo)) none none = some ⟨.string (s.extract lo.toNat s.size), [], []⟩) ∧
    (∀ (E : Env) g s (hi : Int) (_ : E.P = P), 0 ≤ hi → hi ≤ s.size → evSlice E g t (.string s) none (some (.int .i64 hi)) none = some ⟨.string (s.extract 0 hi.toNat), [], []⟩) :=
  (str_rules ht h1 h2).2.2.2.2.2
theorem slice_len {P : Program} {t e : TypeId} (ht : P.underlying t = some (.slice e)) : ∀ a m c, evLen P #[t] (.slice a m c) = some (.int .i64 (m : Nat)) := fun a m c => by simp [evLen, ht]
theorem slice_ia {P : Program} {t e : TypeId} {n : Nat} (ht : P.underlying t = some (.slice e)) (hn : sizeT P e = some n) : ∀ b o (m : Nat) c k i, 0 ≤ i → i < (m : Int) → evIndexAddr P t (.slice (some ⟨b, o, none⟩) m c) (.int k i) = some (.pointer (some ⟨b, o + i.toNat * n, none⟩)) := fun b o m c k i g0 g1 => by simp [evIndexAddr, ht, hn, g0, g1]
theorem slice_nil {P : Program} {t : TypeId} (h1 : isPtr P t = false) (h2 : isSl P t = true) : (∀ xo yo x y, evBin P .eql t xo yo x y = evNilS true x y) ∧ (∀ xo yo x y, evBin P .neq t xo yo x y = evNilS false x y) := by
  refine ⟨fun _ _ _ _ => ?_, fun _ _ _ _ => ?_⟩ <;> simp [evBin, h1, h2]
theorem array_len {P : Program} {t e : TypeId} {len : Nat} (ht : P.underlying t = some (.array len e)) : ∀ x, evLen P #[t] x = some (.int .i64 (len : Nat)) := fun x => by simp [evLen, ht]
theorem array_ia {P : Program} {t e : TypeId} {len n : Nat} (ht : P.underlying t = some (.array len e)) (hn : sizeT P e = some n) : ∀ b o k i, 0 ≤ i → i < (len : Int) → evIndexAddr P t (.pointer (some ⟨b, o, none⟩)) (.int k i) = some (.pointer (some ⟨b, o + i.toNat * n, none⟩)) := fun b o k i g0 g1 => by simp [evIndexAddr, ht, hn, g0, g1]
theorem cv_rule {P : Program} {s d : TypeId} {k k' : IntKind} (hs : P.underlying s = some (.int k)) (hd : P.underlying d = some (.int k')) : ∀ (E : Env) g nid a (_ : E.P = P), evConvert E g nid s d (.int k a) = some ⟨.int k' (k'.wrap a), [], []⟩ := fun E g nid a hE => conv_int (by rw [hE]; exact hs) (by rw [hE]; exact hd)
/-- make([]T, l, c) of one-cell elements. -/
theorem mk_rule {P : Program} {t e : TypeId} {z : Value} {by_ : Nat} (ht : elemT P t = some e) (hz : zeroCells? P e = some #[z]) (hs : sizeT P e = some 1) (hb : bytesT P e = some by_) : ∀ (E : Env) nid k k' l c (_ : E.P = P), 0 ≤ l → l ≤ c → (by_ : Int) * c ≤ 281474976710656 → c ≤ 9223372036854775807 →
    evMakeSlice E nid t (.int k l) (.int k' c) = some ⟨.slice (some ⟨nid, 0, none⟩) l.toNat c.toNat, [(nid, some (.cells (List.replicate c.toNat z) e true))], []⟩ := by
  intro E nid k k' l c hE h0 h1 h2 h3
  subst hE
  unfold evMakeSlice
  simp only [ht, hz]
  cases hi : E.P.info? e with
  | none => simp [sizeT, hi] at hs
  | some i =>
    have e3 : i.size = 1 := by simpa [sizeT, hi] using hs
    have e4 : i.bytes = by_ := by simpa [bytesT, hi] using hb
    simp only [e3, e4, List.size_toArray, List.length_cons, List.length_nil]
    rw [if_pos ⟨h0, h1, h3, h2, trivial, by omega⟩]
    simp [zeroRow]
theorem envAtP {P : Program} {pairs : FuncId → Nat → List (Nat × Nat)} {w : World} : (envAt P pairs w).P = P := rfl
theorem envNilP {P : Program} {pairs : FuncId → Nat → List (Nat × Nat)} : (envNil P pairs).P = P := rfl
theorem noFacts : (undef = undef) = True := by simp
theorem min_eq_l {a b : Int} (h : a ≤ b) : min a b = a := by omega
theorem min_eq_r {a b : Int} (h : b ≤ a) : min a b = b := by omega
theorem max_eq_l {a b : Int} (h : b ≤ a) : max a b = a := by omega
theorem max_eq_r {a b : Int} (h : a ≤ b) : max a b = b := by omega
theorem resR_four {E : Env} {fr : List Value} {σ : St} {s t u v : Nat} : resR E fr σ [.tmp s, .tmp t, .tmp u, .tmp v] = some (.tuple #[fr.getD s undef, fr.getD t undef, fr.getD u undef, fr.getD v undef]) := rfl
/-- So many zero bytes. -/
def zs (n : Nat) : ByteArray := ⟨(List.replicate n (0 : UInt8)).toArray⟩
theorem zs_size {n : Nat} : (zs n).size = n := by simp [zs, ByteArray.size]
theorem bytes_rep {n : Nat} : bytesOf? (List.take n (List.drop 0 (List.replicate n (Value.int .u8 0)))) = some (zs n) := by
  simp [bytesOf?, zs, isByte, byteV]
theorem ev_convBS {E : Env} {fr : List Value} {nid : Nat} {g : Nat → Option Blk} {o : Oper} {P : Program} {s d e : TypeId} {x : Operand} {b off n m : Nat} {c : List Value} {el : TypeId} {ex : Bool} {bs : ByteArray}
    (ho : o.op = .convert s d x) (hP : E.P = P) (hs : P.underlying s = some (.slice e)) (hd : P.underlying d = some .string) (he : P.underlying e = some (.int .u8)) (hx : Opd fr x = .slice (some ⟨b, off, none⟩) n m) (hb : ¬ b < E.old) (hg : g b = some (.cells c el ex))
    (hle : off + n ≤ c.length) (hl : bytesOf? ((c.drop off).take n) = some bs) : evOp E (Opd fr) nid g o = some ⟨.string bs, [], [b]⟩ := by
  subst hP; unfold evOp
  have : rd E g ⟨b, off, none⟩ n = some ((c.drop off).take n) := by
    simp only [rd, Option.isSome_none, hb, hg, if_false, Bool.false_eq_true]
    rw [if_pos hle]
  simp only [ho, hx]
  unfold evConvert
  simp only [hs, hd, he, this, hl, Option.map_some]
theorem ev_convBS0 {E : Env} {fr : List Value} {nid : Nat} {g : Nat → Option Blk} {o : Oper} {P : Program} {s d e : TypeId} {x : Operand} {n m : Nat}
    (ho : o.op = .convert s d x) (hP : E.P = P) (hs : P.underlying s = some (.slice e)) (hd : P.underlying d = some .string) (he : P.underlying e = some (.int .u8)) (hx : Opd fr x = .slice none n m) : evOp E (Opd fr) nid g o = some ⟨.string .empty, [], []⟩ := by
  subst hP; unfold evOp
  simp only [ho, hx]
  unfold evConvert
  simp only [hs, hd, he]
theorem ev_convSB {E : Env} {fr : List Value} {nid : Nat} {g : Nat → Option Blk} {o : Oper} {P : Program} {s d e : TypeId} {x : Operand} {bs : ByteArray} {l : List Value}
    (ho : o.op = .convert s d x) (hP : E.P = P) (hs : P.underlying s = some .string) (hd : P.underlying d = some (.slice e)) (he : P.underlying e = some (.int .u8)) (hz : sizeT P e = some 1) (hx : Opd fr x = .string bs) (hl : (bs.data.map fun b => Value.int .u8 b.toNat).toList = l) :
    evOp E (Opd fr) nid g o = some ⟨.slice (some ⟨nid, 0, none⟩) bs.size bs.size, [(nid, some (.cells l e false))], []⟩ := by
  subst hP hl; unfold evOp
  simp only [ho, hx]
  unfold evConvert
  simp only [hs, hd, he, hz, if_true]
/-- One result. -/
def resE (E : Env) (fr : List Value) (σ : St) : ResultVar → Option Value
  | .tmp t => some (fr.getD t undef)
  | .cell a t => (evLoad E σ.heap.get t (fr.getD a undef)).map fun e => e.val
theorem resV_nil {E : Env} {fr : List Value} {σ : St} : resV E fr σ [] = some [] := rfl
theorem resV_cons {E : Env} {fr : List Value} {σ : St} {r : ResultVar} {rs : List ResultVar} {v : Value} {l : List Value} (h1 : resE E fr σ r = some v) (h2 : resV E fr σ rs = some l) : resV E fr σ (r :: rs) = some (v :: l) := by
  cases r with
  | tmp t => simp only [resE, Option.some.injEq] at h1; subst h1; simp only [resV, h2, Option.map_some]
  | cell a t =>
    simp only [resE] at h1
    cases he : evLoad E σ.heap.get t (fr.getD a undef) with
    | none => rw [he] at h1; cases h1
    | some e => rw [he] at h1; simp only [Option.map_some, Option.some.injEq] at h1; subst h1; simp only [resV, he, h2]
theorem resR_1 {E : Env} {fr : List Value} {σ : St} {rs : List ResultVar} {v : Value} (h : resV E fr σ rs = some [v]) : resR E fr σ rs = some v := by simp only [resR, h]
theorem resR_m {E : Env} {fr : List Value} {σ : St} {rs : List ResultVar} {l : List Value} (h : resV E fr σ rs = some l) (hl : l.length ≠ 1) : resR E fr σ rs = some (.tuple l.toArray) := by
  simp only [resR, h]
  match l, hl with
  | [], _ => rfl
  | _ :: _ :: _, _ => rfl
theorem resE_tmp {E : Env} {fr : List Value} {σ : St} {t : Nat} {v : Value} (h : fr.getD t undef = v) : resE E fr σ (.tmp t) = some v := by subst h; rfl
theorem resE_c1 {E : Env} {fr : List Value} {h : T} {n : Nat} {P : Program} {a : Nat} {t : TypeId} {b off : Nat} {c : List Value} {el : TypeId} {ex : Bool} {v : Value} (hP : E.P = P) (ha : isAggT P t = some false) (hx : fr.getD a undef = .pointer (some ⟨b, off, none⟩)) (hb : ¬ b < E.old) (hg : h.get b = some (.cells c el ex)) (hv : c[off]? = some v) :
    resE E fr ⟨h, n⟩ (.cell a t) = some v := by
  have := ev_load1 (E := E) (fr := fr) (nid := 0) (g := h.get) (o := { dst := none, op := .load t (.tmp a), type := 0, pos := "", after := #[], guard := none }) rfl hP ha hx hb hg hv
  simp only [evOp, Opd] at this
  simp only [resE, this, Option.map_some]
theorem resE_cN {E : Env} {fr : List Value} {h : T} {n : Nat} {P : Program} {a : Nat} {t : TypeId} {b off k : Nat} {c l : List Value} {el : TypeId} {ex : Bool} (hP : E.P = P) (ha : isAggT P t = some true) (hx : fr.getD a undef = .pointer (some ⟨b, off, none⟩)) (hb : ¬ b < E.old) (hg : h.get b = some (.cells c el ex)) (hk : sizeT P t = some k) (hle : off + k ≤ c.length) (hl : (c.drop off).take k = l) :
    resE E fr ⟨h, n⟩ (.cell a t) = some (.agg l.toArray) := by
  have := ev_loadN (E := E) (fr := fr) (nid := 0) (g := h.get) (o := { dst := none, op := .load t (.tmp a), type := 0, pos := "", after := #[], guard := none }) rfl hP ha hx hb hg hk hle hl
  simp only [evOp, Opd] at this
  simp only [resE, this, Option.map_some]
theorem set5 {a0 a1 a2 a3 a4 v : Value} {l : List Value} {n : Nat} : (a0 :: a1 :: a2 :: a3 :: a4 :: l).set (n + 5) v = a0 :: a1 :: a2 :: a3 :: a4 :: l.set n v := by simp only [List.set_cons_succ]
theorem set16 {a0 a1 a2 a3 a4 a5 a6 a7 a8 a9 a10 a11 a12 a13 a14 a15 v : Value} {l : List Value} {n : Nat} : (a0 :: a1 :: a2 :: a3 :: a4 :: a5 :: a6 :: a7 :: a8 :: a9 :: a10 :: a11 :: a12 :: a13 :: a14 :: a15 :: l).set (n + 16) v = a0 :: a1 :: a2 :: a3 :: a4 :: a5 :: a6 :: a7 :: a8 :: a9 :: a10 :: a11 :: a12 :: a13 :: a14 :: a15 :: l.set n v := by simp only [List.set_cons_succ]
theorem set48 {a0 a1 a2 a3 a4 a5 a6 a7 a8 a9 a10 a11 a12 a13 a14 a15 a16 a17 a18 a19 a20 a21 a22 a23 a24 a25 a26 a27 a28 a29 a30 a31 a32 a33 a34 a35 a36 a37 a38 a39 a40 a41 a42 a43 a44 a45 a46 a47 v : Value} {l : List Value} {n : Nat} : (a0 :: a1 :: a2 :: a3 :: a4 :: a5 :: a6 :: a7 :: a8 :: a9 :: a10 :: a11 :: a12 :: a13 :: a14 :: a15 :: a16 :: a17 :: a18 :: a19 :: a20 :: a21 :: a22 :: a23 :: a24 :: a25 :: a26 :: a27 :: a28 :: a29 :: a30 :: a31 :: a32 :: a33 :: a34 :: a35 :: a36 :: a37 :: a38 :: a39 :: a40 :: a41 :: a42 :: a43 :: a44 :: a45 :: a46 :: a47 :: l).set (n + 48) v = a0 :: a1 :: a2 :: a3 :: a4 :: a5 :: a6 :: a7 :: a8 :: a9 :: a10 :: a11 :: a12 :: a13 :: a14 :: a15 :: a16 :: a17 :: a18 :: a19 :: a20 :: a21 :: a22 :: a23 :: a24 :: a25 :: a26 :: a27 :: a28 :: a29 :: a30 :: a31 :: a32 :: a33 :: a34 :: a35 :: a36 :: a37 :: a38 :: a39 :: a40 :: a41 :: a42 :: a43 :: a44 :: a45 :: a46 :: a47 :: l.set n v := by simp only [List.set_cons_succ]
theorem opd_tmp {fr : List Value} {t : Nat} {v : Value} (h : fr[t]? = some v) : Opd fr (.tmp t) = v := by simp [Opd, List.getD_eq_getElem?_getD, h]
theorem opd_const {fr : List Value} {v : Value} : Opd fr (.const v) = v := rfl
theorem opd_func {fr : List Value} {f : FuncId} : Opd fr (.func f) = .func (.func f) #[] #[] := rfl
theorem getD_of {fr : List Value} {t : Nat} {v : Value} (h : fr[t]? = some v) : fr.getD t undef = v := by simp [List.getD_eq_getElem?_getD, h]
theorem opds_nil {fr : List Value} : ([] : List Operand).map (Opd fr) = [] := rfl
theorem opds_cons {fr : List Value} {x : Operand} {l : List Operand} {v : Value} {vs : List Value} (h1 : Opd fr x = v) (h2 : l.map (Opd fr) = vs) : (x :: l).map (Opd fr) = v :: vs := by subst h1 h2; rfl
theorem put_set {fr fr' : List Value} {d : Tmp} {v : Value} (h : fr.set d v = fr') : put fr (some d) v = fr' := h
theorem put_none {fr : List Value} {v : Value} : put fr none v = fr := rfl
theorem callee_of {f : FuncId} {as : List Value} : callee? (.func (.func f) #[] #[]) as = some (f, as) := by simp [callee?]
theorem x_call2 {E : Env} {call : CallF} {fr : List Value} {h : T} {n : Nat} {ops : List Oper} {base i : Nat} {o : Oper} {rest : List Oper} {Q : List Rec → List Value → St → Prop} {f : Operand} {as : List Operand} {g : FuncId} {vs : List Value} {j : Nat} (hc : callOf o = some (f, as)) (hw : Region.wanted o (yieldA ops fr) = true) (hj : i + 1 = j)
    (hf : Opd fr f = .func (.func g) #[] #[]) (ha : as.map (Opd fr) = vs)
    (hx : WCall call g vs ⟨h, n⟩ fun v σ' => PutK fr o.dst v σ' fun fr1 σ1 => WXs E call ops base j rest fr1 σ1 fun rs fr2 σ2 => Q (.call ⟨h, n⟩ σ' :: rs) fr2 σ2) : WX E call ops base i (o :: rest) fr h n Q :=
  x_call hc hw hj (by rw [hf, ha]; exact callee_of) hx
theorem parts_nil {fr : List Value} : (([] : List (Nat × Operand)).map fun p => (p.1, Opd fr p.2)) = [] := rfl
theorem parts_cons {fr : List Value} {i : Nat} {x : Operand} {l : List (Nat × Operand)} {v : Value} {vs : List (Nat × Value)} (h1 : Opd fr x = v) (h2 : (l.map fun p => (p.1, Opd fr p.2)) = vs) : (((i, x) :: l).map fun p => (p.1, Opd fr p.2)) = (i, v) :: vs := by subst h1 h2; rfl
theorem ev_pick_t {E : Env} {fr : List Value} {nid : Nat} {g : Nat → Option Blk} {o : Oper} {c x y : Operand} {v : Value} (ho : o.op = .pick c x y) (hc : Opd fr c = .bool true) (hv : Opd fr x = v) : evOp E (Opd fr) nid g o = some ⟨v, [], []⟩ := ev_pick ho hc (by simpa using hv)
theorem ev_pick_f {E : Env} {fr : List Value} {nid : Nat} {g : Nat → Option Blk} {o : Oper} {c x y : Operand} {v : Value} (ho : o.op = .pick c x y) (hc : Opd fr c = .bool false) (hv : Opd fr y = v) : evOp E (Opd fr) nid g o = some ⟨v, [], []⟩ := ev_pick ho hc (by simpa using hv)
theorem om_none {fr : List Value} : (none : Option Operand).map (Opd fr) = none := rfl
theorem om_some {fr : List Value} {x : Operand} {v : Value} (h : Opd fr x = v) : (some x).map (Opd fr) = some v := by subst h; rfl
theorem opd_t {fr : List Value} {x : Operand} {t : Nat} {v : Value} (hx : x = .tmp t) (h : fr[t]? = some v) : Opd fr x = v := by subst hx; exact opd_tmp h
theorem opd_c {fr : List Value} {x : Operand} {v : Value} (hx : x = .const v) : Opd fr x = v := by subst hx; rfl
theorem opd_f {fr : List Value} {x : Operand} {f : FuncId} (hx : x = .func f) : Opd fr x = .func (.func f) #[] #[] := by subst hx; rfl
theorem put_s {fr fr' : List Value} {o : Option Tmp} {d : Tmp} {v : Value} (hd : o = some d) (h : fr.set d v = fr') : put fr o v = fr' := by subst hd; exact h
theorem put_n {fr : List Value} {o : Option Tmp} {v : Value} (hd : o = none) : put fr o v = fr := by subst hd; rfl
/-- The next operation of a region. -/
def WXC (E : Env) (call : CallF) (ops : List Oper) (base i : Nat) (o : Oper) (rest : List Oper) (fr : List Value) (h : T) (n : Nat) (Q : List Rec → List Value → St → Prop) : Prop := WX E call ops base i (o :: rest) fr h n Q
section
variable {E : Env} {call : CallF} {fr fr' : List Value} {h h' : T} {n : Nat} {ops : List Oper} {base i j : Nat} {o : Oper} {rest : List Oper} {Q : List Rec → List Value → St → Prop}
theorem x_cons (hx : WXC E call ops base i o rest fr h n Q) : WX E call ops base i (o :: rest) fr h n Q := hx
theorem c_op {e : Eff} {nid : Nat} (hc : callOf o = none) (hw : Region.wanted o (yieldA ops fr) = true) (hn : base + i = nid) (hj : i + 1 = j)
    (he : evOp E (Opd fr) nid h.get o = some e) (hf : put fr o.dst e.val = fr') (hh : upds h e.upd = h')
    (hx : WX E call ops base j rest fr' h' n fun rs fr1 σ => Q (.mem (fun g => evOp E (Opd fr) nid g o) e :: rs) fr1 σ) : WXC E call ops base i o rest fr h n Q := x_op hc hw hn hj he hf hh hx
theorem c_off (hw : Region.wanted o (yieldA ops fr) = false) (hj : i + 1 = j) (hf : put fr o.dst undef = fr')
    (hx : WX E call ops base j rest fr' h n fun rs fr1 σ => Q (.quiet :: rs) fr1 σ) : WXC E call ops base i o rest fr h n Q := x_off hw hj hf hx
theorem c_test {b : Bool} (hw : Region.wanted o (yieldA ops fr) = b)
    (h1 : b = true → Region.wanted o (yieldA ops fr) = true → WX E call ops base i (o :: rest) fr h n Q) (h2 : b = false → Region.wanted o (yieldA ops fr) = false → WX E call ops base i (o :: rest) fr h n Q) : WXC E call ops base i o rest fr h n Q := x_test hw h1 h2
theorem c_test_p {p : Prop} [Decidable p] (hw : Region.wanted o (yieldA ops fr) = decide p)
    (h1 : p → Region.wanted o (yieldA ops fr) = true → WX E call ops base i (o :: rest) fr h n Q) (h2 : ¬ p → Region.wanted o (yieldA ops fr) = false → WX E call ops base i (o :: rest) fr h n Q) : WXC E call ops base i o rest fr h n Q := x_test_p hw h1 h2
theorem c_call {f : Operand} {as : List Operand} {g : FuncId} {vs : List Value} (hc : callOf o = some (f, as)) (hw : Region.wanted o (yieldA ops fr) = true) (hj : i + 1 = j)
    (hf : Opd fr f = .func (.func g) #[] #[]) (ha : as.map (Opd fr) = vs)
    (hx : WCall call g vs ⟨h, n⟩ fun v σ' => PutK fr o.dst v σ' fun fr1 σ1 => WXs E call ops base j rest fr1 σ1 fun rs fr2 σ2 => Q (.call ⟨h, n⟩ σ' :: rs) fr2 σ2) : WXC E call ops base i o rest fr h n Q := x_call2 hc hw hj hf ha hx
end
/-! Guards: rules whose side conditions are only looked at where the goal is theirs. -/
def PutG (fr : List Value) (d : Option Tmp) (v : Value) (σ : St) (K : List Value → St → Prop) : Prop := PutK fr d v σ K
def CondG (E : Env) (call : CallF) (k : Nat) (fid : FuncId) (c : Operand) (x y : Code) (fr : List Value) (σ : St) (Q : Ex → List Value → St → Prop) : Prop := W E call k fid (.cond c x y) none fr σ Q
def RegG (E : Env) (call : CallF) (k : Nat) (fid : FuncId) (id : Nat) (ops : List Oper) (d : Bool) (fr : List Value) (h : T) (n : Nat) (Q : Ex → List Value → St → Prop) : Prop := W E call k fid (.region id ops.toArray d) none fr ⟨h, n⟩ Q
def FinG (E : Env) (fr : List Value) (σ : St) (rs : List ResultVar) (R : Value → Prop) : Prop := bindV (resR E fr σ rs) R
def CallG (g : FuncId) (E : Env) (t : Tbl) (k d : Nat) (args : List Value) (σ : St) (R : Value → St → Prop) : Prop := WCall (evFunT E t k d) g args σ R
section
variable {E : Env} {call : CallF} {k : Nat} {fid : FuncId} {fr fr' : List Value} {h h' : T} {n n' : Nat} {Q : Ex → List Value → St → Prop} {K : List Value → St → Prop} {σ : St} {R : Value → Prop} {rs : List ResultVar}
theorem g_put {d : Option Tmp} {v : Value} (hk : PutG fr d v σ K) : PutK fr d v σ K := hk
theorem gx_put {d : Option Tmp} {v : Value} (hf : put fr d v = fr') (hk : K fr' σ) : PutG fr d v σ K := x_put hf hk
theorem g_cond {c : Operand} {x y : Code} (hx : CondG E call k fid c x y fr σ Q) : W E call k fid (.cond c x y) none fr σ Q := hx
theorem gx_cond {c : Operand} {x y : Code} {b : Bool} (hc : Opd fr c = .bool b) (h1 : b = true → W E call k fid x none fr σ Q) (h2 : b = false → W E call k fid y none fr σ Q) : CondG E call k fid c x y fr σ Q := w_cond hc h1 h2
theorem g_reg {id : Nat} {ops : List Oper} {d : Bool} (hx : RegG E call k fid id ops d fr h n Q) : W E call k fid (.region id ops.toArray d) none fr ⟨h, n⟩ Q := hx
theorem gx_reg {id : Nat} {ops : List Oper} {d : Bool} (hp : E.pairs fid id = []) (hl : n + ops.length = n') (hx : WX E call ops n 0 ops fr h n' fun _ fr σ => Q .normal fr σ) : RegG E call k fid id ops d fr h n Q := x_region hp hl hx
theorem gx_regp {id : Nat} {ops : List Oper} {d : Bool} (ps : List (Nat × Nat)) (hp : E.pairs fid id = ps) (hl : n + ops.length = n') (hx : WX E call ops n 0 ops fr h n' fun rs fr σ => pairsOk n rs ps = true ∧ Q .normal fr σ) : RegG E call k fid id ops d fr h n Q := x_region_pairs ps hp hl hx
theorem g_fin_r (hx : FinG E fr σ rs R) : (Ex.ret = .normal ∨ Ex.ret = .ret) ∧ bindV (resR E fr σ rs) R := ⟨.inr rfl, hx⟩
theorem g_fin_n (hx : FinG E fr σ rs R) : (Ex.normal = .normal ∨ Ex.normal = .ret) ∧ bindV (resR E fr σ rs) R := ⟨.inl rfl, hx⟩
theorem gx_fin {v : Value} (hr : resR E fr σ rs = some v) (hk : R v) : FinG E fr σ rs R := ⟨v, hr, hk⟩
theorem g_call (g : FuncId) {t : Tbl} {k d : Nat} {args : List Value} {R : Value → St → Prop} (hx : CallG g E t k d args σ R) : WCall (evFunT E t k d) g args σ R := hx
theorem gx_tbl {t : Tbl} {k d : Nat} {f : FuncId} {s : List Value → Option Value} {args : List Value} {v : Value} {R : Value → St → Prop}
    (hcall : WCall (evFunT E t k d) f args σ R = bindV (s args) fun v => R v σ) (hv : s args = some v) (hk : R v σ) : CallG f E t k d args σ R := x_tbl hcall hv hk
theorem gx_fun {t : Tbl} {d : Nat} {f : FuncId} {fn : Func} {c : Code} {args : List Value} {R : Value → St → Prop} (m : Nat) (rs : List ResultVar) (ht : hasT t f = false) (hfn : E.P.funcs[f]? = some fn) (hb : fn.body = some c) (hn : fn.ntmps = m) (hr : fn.results.toList = rs)
    (hf : args ++ List.replicate (m - args.length) undef = fr)
    (hx : W E (evFunT E t k d) k f c none fr σ fun e fr σ => (e = .normal ∨ e = .ret) ∧ bindV (resR E fr σ rs) fun v => R v σ) :
    CallG f E t k (d + 1) args σ R := x_fun m rs ht hfn hb hn hr hf hx
end
theorem sb_t {b : Bool} : (some b == some true) = b := by cases b <;> rfl
theorem sb_f {b : Bool} : (some b == some false) = !b := by cases b <;> rfl
theorem c_test_np {E : Env} {call : CallF} {fr : List Value} {h : T} {n : Nat} {ops : List Oper} {base i : Nat} {o : Oper} {rest : List Oper} {Q : List Rec → List Value → St → Prop} {p : Prop} [Decidable p] (hw : Region.wanted o (yieldA ops fr) = !decide p)
    (h1 : ¬ p → Region.wanted o (yieldA ops fr) = true → WX E call ops base i (o :: rest) fr h n Q) (h2 : p → Region.wanted o (yieldA ops fr) = false → WX E call ops base i (o :: rest) fr h n Q) : WXC E call ops base i o rest fr h n Q := by
  by_cases hp : p
  · exact c_test (b := false) (by rw [hw]; simp [hp]) (fun h => by cases h) (fun _ => h2 hp)
  · exact c_test (b := true) (by rw [hw]; simp [hp]) (fun _ => h1 hp) (fun h => by cases h)
theorem ev_pick_t2 {E : Env} {fr : List Value} {nid : Nat} {g : Nat → Option Blk} {o : Oper} {c x y : Operand} {b : Bool} {v : Value} (ho : o.op = .pick c x y) (hc : Opd fr c = .bool b) (hb : b = true) (hv : Opd fr x = v) : evOp E (Opd fr) nid g o = some ⟨v, [], []⟩ := by subst hb; exact ev_pick_t ho hc hv
theorem ev_pick_f2 {E : Env} {fr : List Value} {nid : Nat} {g : Nat → Option Blk} {o : Oper} {c x y : Operand} {b : Bool} {v : Value} (ho : o.op = .pick c x y) (hc : Opd fr c = .bool b) (hb : b = false) (hv : Opd fr y = v) : evOp E (Opd fr) nid g o = some ⟨v, [], []⟩ := by subst hb; exact ev_pick_f ho hc hv
/-! Pairs of operations that are to be independent. -/
/-- Two operations whose order is open. -/
def PairP (base n i : Nat) (x y : Rec) : Prop := (indep x y || late base n i x y) = true
theorem pp_i {base n i : Nat} {x y : Rec} (h : indep x y = true) : PairP base n i x y := by unfold PairP; rw [h]; rfl
theorem pp_l {base n i : Nat} {b a : St} {f : (Nat → Option Blk) → Option Eff} {v : Value} {l : List Nat} (h : ∀ k ∈ l, base + i < k ∧ k < base + n) : PairP base n i (.call b a) (.mem f ⟨v, [], l⟩) := by
  unfold PairP
  have : late base n i (.call b a) (.mem f ⟨v, [], l⟩) = true := by
    simp only [late, List.isEmpty_nil, Bool.true_and, List.all_eq_true, Bool.and_eq_true, decide_eq_true_eq]
    exact h
  rw [this, Bool.or_true]
theorem pairs_nil {base : Nat} {rs : List Rec} : pairsOk base rs [] = true := rfl
theorem pairs_cons {base : Nat} {rs : List Rec} {i j : Nat} {r : List (Nat × Nat)} {x y : Rec} (hi : rs[i]? = some x) (hj : rs[j]? = some y) (hxy : PairP base rs.length i x y) (hr : pairsOk base rs r = true) : pairsOk base rs ((i, j) :: r) = true := by
  unfold PairP at hxy
  simp only [pairsOk, hi, hj, hxy, hr, Bool.and_self]
theorem ind_q1 {y : Rec} : indep .quiet y = true := by cases y <;> rfl
theorem ind_q2 {x : Rec} : indep x .quiet = true := by cases x <;> rfl
theorem ind_mm {f f' : (Nat → Option Blk) → Option Eff} {e e' : Eff} (h1 : disj (e.upd.map (·.1)) (e'.rds ++ e'.upd.map (·.1)) = true) (h2 : disj (e'.upd.map (·.1)) e.rds = true) : indep (.mem f e) (.mem f' e') = true := by
  simp only [indep, h1, h2, Bool.and_self]
theorem effSame_self {e : Eff} (hu : e.upd = []) (hv : beqV e.val e.val = true) : effSame e (some e) = true := by
  simp [effSame, hu, hv]
theorem ind_cm {b a : St} {f : (Nat → Option Blk) → Option Eff} {e : Eff} (hu : e.upd = []) (hv : beqV e.val e.val = true) (h1 : f b.heap.get = some e) (h2 : f a.heap.get = some e) : indep (.call b a) (.mem f e) = true := by
  simp only [indep, h1, h2, effSame_self hu hv, hu, List.isEmpty_nil, Bool.and_self, Bool.or_true]
theorem ind_ca {b a : St} {f : (Nat → Option Blk) → Option Eff} {v : Value} {k : Nat} {x : Blk} : indep (.call b a) (.mem f ⟨v, [(k, some x)], []⟩) = true := by
  simp only [indep, allocOnly, List.isEmpty_nil, Bool.and_self, Bool.true_or]
theorem ind_mc {b a : St} {f : (Nat → Option Blk) → Option Eff} {e : Eff} (hu : e.upd = []) (hv : beqV e.val e.val = true) (h1 : f b.heap.get = some e) (h2 : f a.heap.get = some e) : indep (.mem f e) (.call b a) = true := by
  simp only [indep, h1, h2, effSame_self hu hv, hu, List.isEmpty_nil, Bool.and_self]
end Go.Ab

/- Owned pieces of memory: code stepped through by what it owns, piece by piece. -/
set_option linter.all false
open Go.RowKit
namespace Go.Ab

/-- A piece: a block; a row (a slice: of one's own, nil or a block from its start on, with room behind that is of no matter (kind 0), one that is only read (kind 1), one that came in (kind 2)); numbers that are kept for blocks to come. -/
inductive Res where
  | blk (b : Nat) (c : List Value) (e : TypeId) (x : Bool)
  | row (kd : Nat) (s : Value) (n : Nat) (c : List Value) (e : TypeId) (sz : Nat)
  | rsv (lo n : Nat)
  | obj (b : Nat) (x : Blk)
  /-- Many blocks, as many as one likes. -/
  | many (l : List (Nat × List Value × TypeId × Bool))

/-- Where a slice begins. -/
def rowAt : Value → Option (Nat × Nat)
  | .slice (some a) _ _ => some (a.block, a.off)
  | _ => none

def RowOwn (g : Nat → Option Blk) (s : Value) (n : Nat) (c : List Value) (e : TypeId) (sz : Nat) : Prop :=
  ∃ b p m j x, s = .slice (some ⟨b, p.length, none⟩) n (n + m) ∧ j.length = m * sz ∧ g b = some (.cells (p ++ (c ++ j)) e x)

def RowOk (E : Env) (g : Nat → Option Blk) (kd : Nat) (s : Value) (n : Nat) (c : List Value) (e : TypeId) (sz : Nat) : Prop :=
  c.length = n * sz ∧
  match kd with
  | 0 => (s = .slice none 0 0 ∧ n = 0) ∨ RowOwn g s n c e sz
  | 1 => (∃ a m, s = .slice a 0 m ∧ n = 0) ∨ (0 < n ∧ RowOwn g s n c e sz)
  | _ => (∃ a m, s = .slice a 0 m ∧ n = 0) ∨ ∃ b o m, s = .slice (some ⟨b, o, none⟩) n m ∧ b < E.old ∧ rdOld E b o (n * sz) = some c

def Res.ids : Res → List Nat
  | .blk b _ _ _ => [b]
  | .row kd s n _ _ _ => if kd = 0 then (rowBlk s).toList else if kd = 1 then (if n = 0 then [] else (rowBlk s).toList) else []
  | .rsv lo n => List.range' lo n
  | .obj b _ => [b]
  | .many l => l.map (·.1)

def Res.ok (E : Env) (g : Nat → Option Blk) : Res → Prop
  | .blk b c e x => g b = some (.cells c e x)
  | .row kd s n c e sz => RowOk E g kd s n c e sz
  | .rsv _ _ => True
  | .obj b x => g b = some x
  | .many l => ∀ x ∈ l, g x.1 = some (.cells x.2.1 x.2.2.1 x.2.2.2)

def idsL (L : List Res) : List Nat := L.flatMap Res.ids

structure Own (E : Env) (σ : St) (L : List Res) : Prop where
  base : E.old ≤ σ.next
  nodup : (idsL L).Nodup
  lt : ∀ b ∈ idsL L, E.old ≤ b ∧ b < σ.next
  ok : ∀ r ∈ L, r.ok E σ.heap.get

theorem RowOwn.congr {g g' : Nat → Option Blk} {s : Value} {n : Nat} {c : List Value} {e : TypeId} {sz : Nat} (h : ∀ b, rowBlk s = some b → g' b = g b) (hr : RowOwn g s n c e sz) : RowOwn g' s n c e sz := by
  obtain ⟨b, p, m, j, x, h1, h2, h3⟩ := hr
  refine ⟨b, p, m, j, x, h1, h2, ?_⟩
  rw [h b (by subst h1; rfl)]; exact h3

theorem Res.ok_congr {E : Env} {g g' : Nat → Option Blk} {r : Res} (h : ∀ b ∈ r.ids, g' b = g b) (hr : r.ok E g) : r.ok E g' := by
  cases r with
  | blk b c e x => simp only [Res.ok] at hr ⊢; rw [h b (by simp [Res.ids])]; exact hr
  | rsv lo n => trivial
  | obj b x => simp only [Res.ok] at hr ⊢; rw [h b (by simp [Res.ids])]; exact hr
  | many l => simp only [Res.ok] at hr ⊢; intro x hx; rw [h x.1 (List.mem_map.2 ⟨x, hx, rfl⟩)]; exact hr x hx
  | row kd s n c e sz =>
    match kd with
    | 0 => exact ⟨hr.1, hr.2.imp id (·.congr fun b hb => h b (by simp [Res.ids, hb]))⟩
    | 1 => exact ⟨hr.1, hr.2.imp id fun ⟨h0, hr⟩ => ⟨h0, hr.congr fun b hb => h b (by simp [Res.ids, hb]; omega)⟩⟩
    | k + 2 => exact hr

theorem Own.perm {E : Env} {σ : St} {L L' : List Res} (hp : L.Perm L') (h : Own E σ L) : Own E σ L' := by
  have hi : (idsL L).Perm (idsL L') := hp.flatMap_right _
  exact ⟨h.base, hi.nodup_iff.1 h.nodup, fun b hb => h.lt b (hi.mem_iff.2 hb), fun r hr => h.ok r (hp.mem_iff.2 hr)⟩

theorem idsL_cons {r : Res} {L : List Res} : idsL (r :: L) = r.ids ++ idsL L := by simp [idsL]
theorem idsL_append {A L : List Res} : idsL (A ++ L) = idsL A ++ idsL L := by simp [idsL]

theorem Own.tail {E : Env} {σ : St} {r : Res} {L : List Res} (h : Own E σ (r :: L)) : Own E σ L := by
  have h1 := h.nodup
  rw [idsL_cons] at h1
  exact ⟨h.base, (List.nodup_append.1 h1).2.1, fun b hb => h.lt b (by rw [idsL_cons]; exact List.mem_append.2 (.inr hb)), fun x hx => h.ok x (by simp [hx])⟩

theorem Own.nil {E : Env} {σ : St} (h : E.old ≤ σ.next) : Own E σ [] := ⟨h, by simp [idsL], by simp [idsL], by simp⟩

/-- The first pieces made others, within the same blocks. -/
theorem Own.upd {E : Env} {σ : St} {A A' L : List Res} {h' : T} (h : Own E σ (A ++ L)) (hn : (idsL A').Nodup) (hs : ∀ b ∈ idsL A', b ∈ idsL A) (hok : ∀ r ∈ A', r.ok E h'.get) (hf : ∀ b, b ∉ idsL A → h'.get b = σ.heap.get b) : Own E ⟨h', σ.next⟩ (A' ++ L) := by
  have hd := h.nodup
  rw [idsL_append, List.nodup_append] at hd
  have hlt := h.lt
  rw [idsL_append] at hlt
  refine ⟨h.base, ?_, ?_, ?_⟩
  · rw [idsL_append, List.nodup_append]
    exact ⟨hn, hd.2.1, fun a ha b hb => hd.2.2 a (hs a ha) b hb⟩
  · rw [idsL_append]
    intro b hb
    rcases List.mem_append.1 hb with hb | hb
    · exact hlt b (List.mem_append.2 (.inl (hs b hb)))
    · exact hlt b (List.mem_append.2 (.inr hb))
  · intro r hr
    rcases List.mem_append.1 hr with hr | hr
    · exact hok r hr
    · refine Res.ok_congr (fun b hb => ?_) (h.ok r (by simp [hr]))
      refine hf b fun hA => ?_
      exact hd.2.2 b hA b (List.mem_flatMap.2 ⟨r, hr, hb⟩) rfl

/-- The piece x stands in L; the others are R. -/
inductive Sel : List Res → Res → List Res → Prop
  | head {x : Res} {R : List Res} : Sel (x :: R) x R
  | tail {x y : Res} {L R : List Res} (h : Sel L x R) : Sel (y :: L) x (y :: R)

theorem Sel.perm {L R : List Res} {x : Res} (h : Sel L x R) : L.Perm (x :: R) := by
  induction h with
  | head => exact .refl _
  | tail _ ih => exact (ih.cons _).trans (.swap _ _ _)

theorem Own.sel {E : Env} {σ : St} {L R : List Res} {x : Res} (h : Own E σ L) (hs : Sel L x R) : Own E σ (x :: R) := h.perm hs.perm
theorem Own.get {E : Env} {σ : St} {L R : List Res} {b : Nat} {c : List Value} {e : TypeId} {x : Bool} (h : Own E σ L) (hs : Sel L (.blk b c e x) R) : ¬ b < E.old ∧ σ.heap.get b = some (.cells c e x) := by
  have h1 := h.sel hs
  refine ⟨?_, h1.ok (.blk b c e x) (by simp)⟩
  have := (h1.lt b (by simp [idsL, Res.ids])).1
  omega

/-- All of L' stand in L. -/
inductive Ent : List Res → List Res → Prop
  | nil {L : List Res} : Ent L []
  | cons {L R L' : List Res} {x : Res} (h : Sel L x R) (r : Ent R L') : Ent L (x :: L')
  | refl {L : List Res} : Ent L L
  | skip {x : Res} {L L' : List Res} (r : Ent L L') : Ent (x :: L) L'

theorem Ent.sub {L L' : List Res} (h : Ent L L') : ∀ b ∈ idsL L', b ∈ idsL L := by
  induction h with
  | nil => intro b hb; simp [idsL] at hb
  | refl => intro b hb; exact hb
  | skip _ ih => intro b hb; rw [idsL_cons]; exact List.mem_append.2 (.inr (ih b hb))
  | cons hs _ ih =>
    intro b hb
    refine (List.Perm.mem_iff (hs.perm.flatMap_right Res.ids)).2 ?_
    show b ∈ idsL (_ :: _)
    rw [idsL_cons] at hb ⊢
    exact List.mem_append.2 ((List.mem_append.1 hb).imp id (ih b))

theorem Ent.own {L L' : List Res} (h : Ent L L') : ∀ {E : Env} {σ : St}, Own E σ L → Own E σ L' := by
  induction h with
  | nil => intro E σ h; exact .nil h.base
  | refl => intro E σ h; exact h
  | skip _ ih => intro E σ h; exact ih h.tail
  | cons hs r ih =>
    intro E σ h
    have h1 := h.sel hs
    have h2 := ih h1.tail
    refine ⟨h.base, ?_, ?_, ?_⟩
    · have h3 := h1.nodup
      rw [idsL_cons] at h3 ⊢
      rw [List.nodup_append] at h3 ⊢
      exact ⟨h3.1, h2.nodup, fun a ha b hb => h3.2.2 a ha b (r.sub b hb)⟩
    · intro b hb
      rw [idsL_cons] at hb
      rcases List.mem_append.1 hb with hb | hb
      · exact h1.lt b (by rw [idsL_cons]; exact List.mem_append.2 (.inl hb))
      · exact h2.lt b hb
    · intro r hr
      rcases List.mem_cons.1 hr with rfl | hr
      · exact h1.ok _ (by simp)
      · exact h2.ok r hr

/-- In every state in which L is owned. -/
def O (E : Env) (L : List Res) (G : St → Prop) : Prop := ∀ σ, Own E σ L → G σ

theorem O.ent {E : Env} {L L' : List Res} {G : St → Prop} (h : Ent L L') (hx : O E L' G) : O E L G := fun σ ho => hx σ (h.own ho)
theorem O.sel {E : Env} {L R : List Res} {x : Res} {G : St → Prop} (h : Sel L x R) (hx : O E (x :: R) G) : O E L G := fun σ ho => hx σ (ho.sel h)
theorem O.lift {E : Env} {L : List Res} {G G' : St → Prop} (h : ∀ σ, G' σ → G σ) (hx : O E L G') : O E L G := fun σ ho => h σ (hx σ ho)
theorem O.app {E : Env} {L : List Res} {G : St → Prop} {σ : St} (ho : Own E σ L) (hx : O E L G) : G σ := hx σ ho

/-! Code. -/
section
variable {E : Env} {call : CallF} {k : Nat} {fid : FuncId} {fr fr' : List Value} {Q : Ex → List Value → St → Prop} {K : List Value → St → Prop} {L L' R : List Res}

theorem o_seq {x y : Code} (h : O E L fun σ => W E call k fid x none fr σ (onward (fun fr σ => W E call k fid y none fr σ Q) Q)) : O E L fun σ => W E call k fid (.seq x y) none fr σ Q := h.lift fun _ => w_seq
theorem o_seq_at {x y : Code} {l : Nat} (hl : hasLabel x l = true) (h : O E L fun σ => W E call k fid x (some l) fr σ (onward (fun fr σ => W E call k fid y none fr σ Q) Q)) : O E L fun σ => W E call k fid (.seq x y) (some l) fr σ Q := h.lift fun _ => w_seq_at hl
theorem o_seq_past {x y : Code} {l : Nat} (hl : hasLabel x l = false) (h : O E L fun σ => W E call k fid y (some l) fr σ Q) : O E L fun σ => W E call k fid (.seq x y) (some l) fr σ Q := h.lift fun _ => w_seq_past hl
theorem o_label {l : Nat} (h : O E L (Q .normal fr)) : O E L fun σ => W E call k fid (.label l) none fr σ Q := h.lift fun _ => w_label
theorem o_label_at {l : Nat} (h : O E L (Q .normal fr)) : O E L fun σ => W E call k fid (.label l) (some l) fr σ Q := h.lift fun _ => w_label_at
theorem o_skip (h : O E L (Q .normal fr)) : O E L fun σ => W E call k fid .skip none fr σ Q := h.lift fun _ => w_skip
theorem o_ret (h : O E L (Q .ret fr)) : O E L fun σ => W E call k fid .ret none fr σ Q := h.lift fun _ => w_ret
theorem o_exit {id : Nat} (h : O E L (Q (.exit id) fr)) : O E L fun σ => W E call k fid (.exit id) none fr σ Q := h.lift fun _ => w_exit
theorem o_goto {l : Nat} (h : O E L (Q (.goto l) fr)) : O E L fun σ => W E call k fid (.goto l) none fr σ Q := h.lift fun _ => w_goto
theorem o_block {id : Nat} {c : Code} (h : O E L fun σ => W E call k fid c none fr σ (caught id Q)) : O E L fun σ => W E call k fid (.block id c) none fr σ Q := h.lift fun _ => w_block

def OCond (E : Env) (call : CallF) (k : Nat) (fid : FuncId) (c : Operand) (x y : Code) (fr : List Value) (L : List Res) (Q : Ex → List Value → St → Prop) : Prop := O E L fun σ => W E call k fid (.cond c x y) none fr σ Q
theorem o_cond {c : Operand} {x y : Code} (h : OCond E call k fid c x y fr L Q) : O E L fun σ => W E call k fid (.cond c x y) none fr σ Q := h
theorem oc_b {c : Operand} {x y : Code} {b : Bool} (hc : Opd fr c = .bool b) (h1 : b = true → O E L fun σ => W E call k fid x none fr σ Q) (h2 : b = false → O E L fun σ => W E call k fid y none fr σ Q) : OCond E call k fid c x y fr L Q :=
  fun σ ho => w_cond hc (fun h => h1 h σ ho) (fun h => h2 h σ ho)
theorem oc_t {c : Operand} {x y : Code} (hc : Opd fr c = .bool true) (h1 : O E L fun σ => W E call k fid x none fr σ Q) : OCond E call k fid c x y fr L Q := oc_b hc (fun _ => h1) (fun h => by cases h)
theorem oc_f {c : Operand} {x y : Code} (hc : Opd fr c = .bool false) (h1 : O E L fun σ => W E call k fid y none fr σ Q) : OCond E call k fid c x y fr L Q := oc_b hc (fun h => by cases h) (fun _ => h1)
theorem oc_p {c : Operand} {x y : Code} {p : Prop} [Decidable p] (hc : Opd fr c = .bool (decide p)) (h1 : p → O E L fun σ => W E call k fid x none fr σ Q) (h2 : ¬ p → O E L fun σ => W E call k fid y none fr σ Q) : OCond E call k fid c x y fr L Q :=
  oc_b hc (fun h => h1 (of_decide_eq_true h)) (fun h => h2 (of_decide_eq_false h))
theorem oc_np {c : Operand} {x y : Code} {p : Prop} [Decidable p] (hc : Opd fr c = .bool (!decide p)) (h1 : ¬ p → O E L fun σ => W E call k fid x none fr σ Q) (h2 : p → O E L fun σ => W E call k fid y none fr σ Q) : OCond E call k fid c x y fr L Q :=
  oc_b hc (fun h => h1 (by simpa using h)) (fun h => h2 (by simpa using h))

theorem on_n (h : O E L (K fr)) : O E L (onward K Q .normal fr) := h
theorem on_r (h : O E L (Q .ret fr)) : O E L (onward K Q .ret fr) := h
theorem on_e {i : Nat} (h : O E L (Q (.exit i) fr)) : O E L (onward K Q (.exit i) fr) := h
theorem on_g {i : Nat} (h : O E L (Q (.goto i) fr)) : O E L (onward K Q (.goto i) fr) := h
theorem ca_n {id : Nat} (h : O E L (Q .normal fr)) : O E L (caught id Q .normal fr) := h
theorem ca_r {id : Nat} (h : O E L (Q .ret fr)) : O E L (caught id Q .ret fr) := h
theorem ca_g {id i : Nat} (h : O E L (Q (.goto i) fr)) : O E L (caught id Q (.goto i) fr) := h
theorem ca_e {id : Nat} (h : O E L (Q .normal fr)) : O E L (caught id Q (.exit id) fr) := h.lift fun _ => caught_e
theorem ca_ne {id i : Nat} (hi : i ≠ id) (h : O E L (Q (.exit i) fr)) : O E L (caught id Q (.exit i) fr) := h.lift fun _ => caught_ne hi
theorem ju_n {c : Code} {f : Nat → List Value → St → Prop} (h : O E L (Q .normal fr)) : O E L (jumps c f Q .normal fr) := h
theorem ju_r {c : Code} {f : Nat → List Value → St → Prop} (h : O E L (Q .ret fr)) : O E L (jumps c f Q .ret fr) := h
theorem ju_e {c : Code} {i : Nat} {f : Nat → List Value → St → Prop} (h : O E L (Q (.exit i) fr)) : O E L (jumps c f Q (.exit i) fr) := h
theorem ju_g {c : Code} {l : Nat} {f : Nat → List Value → St → Prop} (hl : hasLabel c l = true) (h : O E L (f l fr)) : O E L (jumps c f Q (.goto l) fr) := h.lift fun _ => jumps_g hl
theorem ju_ng {c : Code} {l : Nat} {f : Nat → List Value → St → Prop} (hl : hasLabel c l = false) (h : O E L (Q (.goto l) fr)) : O E L (jumps c f Q (.goto l) fr) := h.lift fun _ => jumps_ng hl

theorem o_scope {c : Code} (h : O E L fun σ => WHop E call k fid c k none fr σ Q) : O E L fun σ => W E call k fid (.scope c) none fr σ Q := h
theorem o_hop1 {c : Code} {m : Nat} {en : Option Nat} (h : O E L fun σ => W E call k fid c en fr σ (jumps c (fun l fr σ => WHop E call k fid c m (some l) fr σ Q) Q)) : O E L fun σ => WHop E call k fid c (m + 1) en fr σ Q := h.lift fun _ => whop_pass
theorem o_loop1 {c : Code} {m : Nat} (h : O E L fun σ => W E call k fid c none fr σ (onward (fun fr σ => WLoop E call k fid c m fr σ Q) Q)) : O E L fun σ => WLoop E call k fid c (m + 1) fr σ Q := h.lift fun _ => wloop_round

/-- A loop, by what holds ahead of each round. -/
theorem o_loop {c : Code} (J : Nat → List Value → List Res → Prop) (n : Nat) (hm : n < k) (h0 : J 0 fr L)
    (step : ∀ i fr L, i ≤ n → J i fr L → O E L fun σ => W E call k fid c none fr σ (onward (fun fr σ => i < n ∧ ∃ L', J (i + 1) fr L' ∧ Own E σ L') Q)) : O E L fun σ => W E call k fid (.loop c) none fr σ Q := by
  intro σ ho
  refine w_loop (wloop_from (fun i fr σ => ∃ L', J i fr L' ∧ Own E σ L') n hm ⟨L, h0, ho⟩ ?_)
  rintro i fr σ hi ⟨L', hj, ho⟩
  exact step i fr L' hi hj σ ho

/-- A scope whose code jumps back to one label: what holds at each jump; the code is passed the first time from its beginning. -/
theorem o_hop {c : Code} (l : Nat) (hl : hasLabel c l = true) (J : Nat → List Value → List Res → Prop) (n : Nat) (hm : n + 1 < k)
    (h0 : O E L fun σ => W E call k fid c none fr σ (jumps c (fun l' fr σ => l' = l ∧ ∃ L', J 0 fr L' ∧ Own E σ L') Q))
    (step : ∀ i fr L, i ≤ n → J i fr L → O E L fun σ => W E call k fid c (some l) fr σ (jumps c (fun l' fr σ => l' = l ∧ i < n ∧ ∃ L', J (i + 1) fr L' ∧ Own E σ L') Q)) : O E L fun σ => W E call k fid (.scope c) none fr σ Q := by
  intro σ ho
  refine w_scope ?_
  obtain ⟨k, rfl⟩ : ∃ m, k = m + 1 := ⟨k - 1, by omega⟩
  refine whop_pass ((h0 σ ho).mono ?_)
  intro e fr σ he
  cases e with
  | goto l' =>
    simp only [jumps] at he ⊢
    split at he
    · rename_i hy
      rw [if_pos hy]
      obtain ⟨rfl, hi⟩ := he
      refine whop_inv l' hl (fun i fr σ => ∃ L', J i fr L' ∧ Own E σ L') n ?_ n 0 k fr σ rfl (Nat.zero_le _) (by omega) hi
      rintro i fr σ hi ⟨L', hj, ho⟩
      exact step i fr L' hi hj σ ho
    · rename_i hn; rw [if_neg hn]; exact he
  | _ => exact he

theorem o_next {i n : Nat} {J : List Res → Prop} (hi : i < n) (hj : J L') (he : Ent L L') : O E L fun σ => i < n ∧ ∃ L', J L' ∧ Own E σ L' := fun σ ho => ⟨hi, L', hj, he.own ho⟩
theorem o_nextg {i n l l' : Nat} {J : List Res → Prop} (hl : l' = l) (hi : i < n) (hj : J L') (he : Ent L L') : O E L fun σ => l' = l ∧ i < n ∧ ∃ L', J L' ∧ Own E σ L' := fun σ ho => ⟨hl, hi, L', hj, he.own ho⟩
theorem o_firstg {l l' : Nat} {J : List Res → Prop} (hl : l' = l) (hj : J L') (he : Ent L L') : O E L fun σ => l' = l ∧ ∃ L', J L' ∧ Own E σ L' := fun σ ho => ⟨hl, L', hj, he.own ho⟩
theorem exists_ts {fr : List Value} {F : (Nat → Value) → List Value} (h : fr = F (fun i => fr.getD i undef)) : ∃ ts, fr = F ts := ⟨_, h⟩
end

/-! Regions. -/
/-- The rest of a region: 'base' is the number of its first block to come. -/
def RSV (ops : List Oper) (base i : Nat) : Res := .rsv (base + i) (ops.length - i)
def RO (E : Env) (call : CallF) (ops : List Oper) (base i : Nat) (rest : List Oper) (fr : List Value) (L : List Res) (K : List Rec → List Value → St → Prop) : Prop :=
  O E (RSV ops base i :: L) fun σ => WR E call ops base i rest fr σ K
/-- The next operation of a region. -/
def ROC (E : Env) (call : CallF) (ops : List Oper) (base i : Nat) (o : Oper) (rest : List Oper) (fr : List Value) (L : List Res) (K : List Rec → List Value → St → Prop) : Prop := RO E call ops base i (o :: rest) fr L K

section
variable {E : Env} {call : CallF} {k : Nat} {fid : FuncId} {fr fr' : List Value} {L L' R : List Res}

theorem Own.begin {σ : St} {m : Nat} (h : Own E σ L) : Own E ⟨σ.heap, σ.next + m⟩ (.rsv σ.next m :: L) := by
  have hb := h.base
  refine ⟨by simp only; omega, ?_, ?_, ?_⟩
  · rw [idsL_cons, List.nodup_append]
    refine ⟨List.nodup_range', h.nodup, ?_⟩
    intro a ha b hb e
    subst e
    have := (h.lt a hb).2
    have := (List.mem_range'_1.1 ha).1
    omega
  · intro b hb
    rw [idsL_cons] at hb
    rcases List.mem_append.1 hb with hb | hb
    · have := List.mem_range'_1.1 hb
      exact ⟨by omega, by simp only; omega⟩
    · have := h.lt b hb
      exact ⟨this.1, by simp only; omega⟩
  · intro r hr
    rcases List.mem_cons.1 hr with rfl | hr
    · trivial
    · exact h.ok r hr

theorem Own.split {σ : St} {lo n : Nat} (h : Own E σ (.rsv lo (n + 1) :: L)) : Own E σ (.rsv lo 1 :: .rsv (lo + 1) n :: L) := by
  have := Own.upd (A := [.rsv lo (n + 1)]) (A' := [.rsv lo 1, .rsv (lo + 1) n]) (h' := σ.heap) h (by simp [idsL, Res.ids, List.nodup_range', List.mem_range'_1]; omega) (by simp only [idsL, List.flatMap_cons, List.flatMap_nil, Res.ids, List.mem_append, List.mem_range'_1, List.append_nil]; intro b hb; omega) (by simp [Res.ok]) (fun _ _ => rfl)
  exact this

theorem o_region {pr : FuncId → Nat → List (Nat × Nat)} {id : Nat} {ops : List Oper} {d : Bool} {Q : Ex → List Value → St → Prop} (hpr : E.pairs = pr) (hp : pr fid id = []) (hx : ∀ base, RO E call ops base 0 ops fr L fun _ fr σ => Q .normal fr σ) : O E L fun σ => W E call k fid (.region id ops.toArray d) none fr σ Q := by
  intro σ ho
  subst hpr
  refine w_region hp (hx σ.next _ ?_)
  have := ho.begin (m := ops.length)
  simpa [RSV] using this

theorem o_regionP {pr : FuncId → Nat → List (Nat × Nat)} {id : Nat} {ops : List Oper} {d : Bool} {Q : Ex → List Value → St → Prop} (ps : List (Nat × Nat)) (hpr : E.pairs = pr) (hp : pr fid id = ps) (hx : ∀ base, RO E call ops base 0 ops fr L fun rs fr σ => pairsOk base rs ps = true ∧ Q .normal fr σ) : O E L fun σ => W E call k fid (.region id ops.toArray d) none fr σ Q := by
  intro σ ho
  subst hpr
  refine w_region_pairs ps hp (hx σ.next _ ?_)
  have := ho.begin (m := ops.length)
  simpa [RSV] using this
end

section
variable {E : Env} {call : CallF} {ops : List Oper} {base i : Nat} {o : Oper} {rest : List Oper} {fr fr' : List Value} {L L' R : List Res} {K : List Rec → List Value → St → Prop} {P : Program}

theorem ro_nil (hx : O E L (K [] fr)) : RO E call ops base i [] fr L K := fun σ ho => wr_nil (hx σ ho.tail)
theorem ro_pairs {base : Nat} {rs : List Rec} {ps : List (Nat × Nat)} {G : St → Prop} (hp : ∀ σ, Own E σ L → pairsOk base rs ps = true) (hx : O E L G) : O E L fun σ => pairsOk base rs ps = true ∧ G σ := fun σ ho => ⟨hp σ ho, hx σ ho⟩
theorem ro_cons (hx : ROC E call ops base i o rest fr L K) : RO E call ops base i (o :: rest) fr L K := hx
theorem ro_put {d : Option Tmp} {v : Value} {j : Nat} {rest : List Oper} (hf : put fr d v = fr') (hx : RO E call ops base j rest fr' L K) : RO E call ops base j rest (put fr d v) L K := by subst hf; exact hx

/-- An operation that is carried out, in general. -/
theorem ro_mem (hc : callOf o = none) (hw : Region.wanted o (yieldA ops fr) = true)
    (h : ∀ σ r, Own E σ (.rsv (base + i) 1 :: r :: L) → ∃ e L', evOp E (Opd fr) (base + i) σ.heap.get o = some e ∧ Own E ⟨upds σ.heap e.upd, σ.next⟩ (r :: L') ∧
      RO E call ops base (i + 1) rest (put fr o.dst e.val) L' fun rs => K (.mem (fun g => evOp E (Opd fr) (base + i) g o) e :: rs)) : ROC E call ops base i o rest fr L K := by
  intro σ ho hl
  have ho' : ops[i]? = some o := by simpa using (hl 0).symm
  have hlt : i < ops.length := (List.getElem?_eq_some_iff.1 ho').1
  refine wr_cons ?_ hl
  unfold WStep
  rw [if_pos hw]
  simp only [hc]
  have e1 : ops.length - i = (ops.length - (i + 1)) + 1 := by omega
  unfold RSV at ho
  rw [e1] at ho
  obtain ⟨e, L', he, hown, hx⟩ := h σ _ ho.split
  exact ⟨e, he, hx _ (by unfold RSV; rw [← Nat.add_assoc]; exact hown)⟩

theorem ro_off (hw : Region.wanted o (yieldA ops fr) = false) (hx : RO E call ops base (i + 1) rest (put fr o.dst undef) L fun rs => K (.quiet :: rs)) : ROC E call ops base i o rest fr L K := by
  intro σ ho hl
  have ho' : ops[i]? = some o := by simpa using (hl 0).symm
  have hlt : i < ops.length := (List.getElem?_eq_some_iff.1 ho').1
  refine wr_cons ?_ hl
  unfold WStep
  rw [if_neg (by simp [hw])]
  have e1 : ops.length - i = (ops.length - (i + 1)) + 1 := by omega
  unfold RSV at ho
  rw [e1] at ho
  exact hx _ (by unfold RSV; rw [← Nat.add_assoc]; exact ho.split.tail)

theorem ro_test {b : Bool} (hw : Region.wanted o (yieldA ops fr) = b)
    (h1 : b = true → Region.wanted o (yieldA ops fr) = true → RO E call ops base i (o :: rest) fr L K) (h2 : b = false → Region.wanted o (yieldA ops fr) = false → RO E call ops base i (o :: rest) fr L K) : ROC E call ops base i o rest fr L K := by
  cases b
  · exact h2 rfl hw
  · exact h1 rfl hw
theorem ro_test_p {p : Prop} [Decidable p] (hw : Region.wanted o (yieldA ops fr) = decide p)
    (h1 : p → Region.wanted o (yieldA ops fr) = true → RO E call ops base i (o :: rest) fr L K) (h2 : ¬ p → Region.wanted o (yieldA ops fr) = false → RO E call ops base i (o :: rest) fr L K) : ROC E call ops base i o rest fr L K := by
  by_cases hp : p
  · exact h1 hp (by rw [hw]; exact decide_eq_true hp)
  · exact h2 hp (by rw [hw]; exact decide_eq_false hp)
theorem ro_test_np {p : Prop} [Decidable p] (hw : Region.wanted o (yieldA ops fr) = !decide p)
    (h1 : ¬ p → Region.wanted o (yieldA ops fr) = true → RO E call ops base i (o :: rest) fr L K) (h2 : p → Region.wanted o (yieldA ops fr) = false → RO E call ops base i (o :: rest) fr L K) : ROC E call ops base i o rest fr L K := by
  by_cases hp : p
  · exact h2 hp (by rw [hw]; simp [hp])
  · exact h1 hp (by rw [hw]; simp [hp])

/-- An operation that touches no memory. -/
theorem ro_pure {v : Value} (hc : callOf o = none) (hw : Region.wanted o (yieldA ops fr) = true) (he : ∀ g nid, evOp E (Opd fr) nid g o = some ⟨v, [], []⟩)
    (hx : RO E call ops base (i + 1) rest (put fr o.dst v) L fun rs => K (.mem (fun g => evOp E (Opd fr) (base + i) g o) ⟨v, [], []⟩ :: rs)) : ROC E call ops base i o rest fr L K :=
  ro_mem hc hw fun σ r ho => ⟨_, L, he _ _, ho.tail, hx⟩

theorem Own.alloc {σ : St} {b : Nat} {r : Res} {c : List Value} {el : TypeId} {ex : Bool} (ho : Own E σ (.rsv b 1 :: r :: L)) : Own E ⟨σ.heap.set b (some (.cells c el ex)), σ.next⟩ (r :: .blk b c el ex :: L) := by
  have h1 := Own.upd (A := [.rsv b 1]) (A' := [.blk b c el ex]) (h' := σ.heap.set b (some (.cells c el ex))) ho (by simp [idsL, Res.ids]) (by simp [idsL, Res.ids]) (by simp [Res.ok, T.get_set_self]) (fun x hx => by simp [idsL, Res.ids] at hx; exact T.get_set_ne _ _ _ _ hx)
  exact h1.perm (List.Perm.swap _ _ _)

/-- A new block. -/
theorem ro_alloc {v : Nat → Value} {c : List Value} {el : TypeId} {ex : Bool} (hc : callOf o = none) (hw : Region.wanted o (yieldA ops fr) = true) (he : ∀ g nid, evOp E (Opd fr) nid g o = some ⟨v nid, [(nid, some (.cells c el ex))], []⟩)
    (hx : ∀ b, RO E call ops base (i + 1) rest (put fr o.dst (v b)) (.blk b c el ex :: L) fun rs => K (.mem (fun g => evOp E (Opd fr) (base + i) g o) ⟨v b, [(b, some (.cells c el ex))], []⟩ :: rs)) : ROC E call ops base i o rest fr L K :=
  ro_mem hc hw fun σ r ho => ⟨_, _, he _ _, ho.alloc, hx _⟩

theorem ro_load1 {t : TypeId} {x : Operand} {b off : Nat} {c : List Value} {el : TypeId} {ex : Bool} {v : Value} (hw : Region.wanted o (yieldA ops fr) = true) (hop : o.op = .load t x) (hP : E.P = P) (ha : isAggT P t = some false) (hx : Opd fr x = .pointer (some ⟨b, off, none⟩)) (hs : Sel L (.blk b c el ex) R) (hv : c[off]? = some v)
    (hk : RO E call ops base (i + 1) rest (put fr o.dst v) L fun rs => K (.mem (fun g => evOp E (Opd fr) (base + i) g o) ⟨v, [], [b]⟩ :: rs)) : ROC E call ops base i o rest fr L K :=
  ro_mem (by unfold callOf; rw [hop]) hw fun σ r ho => by
    have hg := ho.tail.tail.get hs
    exact ⟨_, L, ev_load1 hop hP ha hx hg.1 hg.2 hv, ho.tail, hk⟩

theorem ro_loadN {t : TypeId} {x : Operand} {b off m : Nat} {c l : List Value} {el : TypeId} {ex : Bool} (hw : Region.wanted o (yieldA ops fr) = true) (hop : o.op = .load t x) (hP : E.P = P) (ha : isAggT P t = some true) (hx : Opd fr x = .pointer (some ⟨b, off, none⟩)) (hs : Sel L (.blk b c el ex) R)
    (hm : sizeT P t = some m) (hle : off + m ≤ c.length) (hl : (c.drop off).take m = l)
    (hk : RO E call ops base (i + 1) rest (put fr o.dst (.agg l.toArray)) L fun rs => K (.mem (fun g => evOp E (Opd fr) (base + i) g o) ⟨.agg l.toArray, [], [b]⟩ :: rs)) : ROC E call ops base i o rest fr L K :=
  ro_mem (by unfold callOf; rw [hop]) hw fun σ r ho => by
    have hg := ho.tail.tail.get hs
    exact ⟨_, L, ev_loadN hop hP ha hx hg.1 hg.2 hm hle hl, ho.tail, hk⟩

theorem Own.write {σ : St} {b : Nat} {c c' : List Value} {el : TypeId} {ex : Bool} (ho : Own E σ (.blk b c el ex :: L)) : Own E ⟨σ.heap.set b (some (.cells c' el ex)), σ.next⟩ (.blk b c' el ex :: L) :=
  Own.upd (A := [.blk b c el ex]) (A' := [.blk b c' el ex]) ho (by simp [idsL, Res.ids]) (by simp [idsL, Res.ids]) (by simp [Res.ok, T.get_set_self]) (fun x hx => by simp [idsL, Res.ids] at hx; exact T.get_set_ne _ _ _ _ hx)

theorem ro_store {t : TypeId} {x y : Operand} {b off m : Nat} {c c' l : List Value} {el : TypeId} {ex : Bool} {v : Value} (hw : Region.wanted o (yieldA ops fr) = true) (hop : o.op = .store t x y) (hP : E.P = P) (hx : Opd fr x = .pointer (some ⟨b, off, none⟩)) (hy : Opd fr y = v) (hs : Sel L (.blk b c el ex) R)
    (hm : sizeT P t = some m) (hl : v.cells.toList = l) (hlen : l.length = m) (hone : l.all oneCell = true) (hle : off + m ≤ c.length) (hwr : wrList c off l = c')
    (hk : RO E call ops base (i + 1) rest (put fr o.dst (.tuple #[])) (.blk b c' el ex :: R) fun rs => K (.mem (fun g => evOp E (Opd fr) (base + i) g o) ⟨.tuple #[], [(b, some (.cells c' el ex))], [b]⟩ :: rs)) : ROC E call ops base i o rest fr L K :=
  ro_mem (by unfold callOf; rw [hop]) hw fun σ r ho => by
    have hg := ho.tail.tail.get hs
    refine ⟨_, .blk b c' el ex :: R, ev_store hop hP hx hy hg.1 hg.2 hm hl hlen hone hle hwr, ?_, hk⟩
    have h1 : Own E σ (.blk b c el ex :: r :: R) := (ho.tail.perm (hs.perm.cons r)).perm (List.Perm.swap _ _ _)
    exact (h1.write (c' := c')).perm (List.Perm.swap _ _ _)
end
end Go.Ab
