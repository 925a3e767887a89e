/- Equality of structs and arrays of plain cells; rows of cells of elements. -/
import Derived.Test.YtllffogcdeempaaFwU
set_option linter.all false
open Go.RowKit
namespace Go.Ab

/-- Equality of plain values, by type: mirrors the model's. -/
def eqV (P : Program) : Nat → TypeId → Value → Value → Option Bool
  | 0, _, _, _ => none
  | d + 1, t, x, y =>
    match P.underlying t, x, y with
    | some .bool, .bool a, .bool b => some (a == b)
    | some (.int _), .int k a, .int k' b => if k = k' then some (a == b) else none
    | some .string, .string a, .string b => some (a == b)
    | some (.struct fs), .agg xs, .agg ys => if P.stoodInHeld t then none else go P (eqV P d) xs ys fs.toList
    | some (.array n e), .agg xs, .agg ys => match sizeT P e with
      | some z => goA P (eqV P d e) (isAggT P e) z xs ys 0 n
      | none => none
    | _, _, _ => none
where
  pt (P : Program) (t : TypeId) (cs : Array Value) (off : Nat) : Option Value :=
    match isAggT P t, sizeT P t with
    | some true, some n => some (.agg (cs.extract off (off + n)))
    | some false, _ => cs[off]?
    | _, _ => none
  go (P : Program) (r : TypeId → Value → Value → Option Bool) (xs ys : Array Value) : List Field → Option Bool
    | [] => some true
    | f :: l => if f.name ≠ "_" then
        match pt P f.type xs f.offset, pt P f.type ys f.offset with
        | some a, some b => match r f.type a b, go P r xs ys l with
          | some u, some v => some (u && v)
          | _, _ => none
        | _, _ => none
      else go P r xs ys l
  goA (P : Program) (r : Value → Value → Option Bool) (ag : Option Bool) (z : Nat) (xs ys : Array Value) (i : Nat) : Nat → Option Bool
    | 0 => some true
    | n + 1 =>
      match (match ag with | some true => some (Value.agg (xs.extract (i * z) (i * z + z))) | some false => xs[i * z]? | none => none), (match ag with | some true => some (Value.agg (ys.extract (i * z) (i * z + z))) | some false => ys[i * z]? | none => none) with
      | some a, some b => match r a b, goA P r ag z xs ys (i + 1) n with
        | some u, some v => some (u && v)
        | _, _ => none
      | _, _ => none

theorem pureRun_ite' {α : Type} {P : Program} {c : Prop} [Decidable c] {x y : Sem α} : pureRun P (if c then x else y) = if c then pureRun P x else pureRun P y := by split <;> rfl

theorem pureRun_forIn {α β : Type} (P : Program) (l : List α) (init : β) (f : α → β → Sem (ForInStep β)) : pureRun P (forIn l init f) = forIn l init fun a b => pureRun P (f a b) := by
  induction l generalizing init with
  | nil => rfl
  | cons a l ih =>
    simp only [List.forIn_cons, pureRun_bind]
    cases h : pureRun P (f a init) with
    | none => rfl
    | some x =>
      cases x with
      | done b => rfl
      | yield b => exact ih b

theorem isAgg_run {P : Program} {t : TypeId} {b : Bool} (h : isAggT P t = some b) : pureRun P (isAgg t) = some b := by
  unfold isAggT at h
  unfold isAgg
  simp only [pureRun_bind, pureRun_underlying]
  split at h <;> rename_i hu <;> simp_all <;> first | rfl | (split <;> simp_all <;> rfl) | skip

theorem sizeOf_run {P : Program} {t : TypeId} {n : Nat} (h : sizeT P t = some n) : pureRun P (sizeOf t) = some n := by
  unfold sizeT at h
  unfold sizeOf typeInfo
  simp only [pureRun_bind, pureRun_program, Option.bind_some]
  cases hi : P.info? t with
  | none => rw [hi] at h; cases h
  | some i => rw [hi] at h; simp only [Option.map_some] at h; simp only [pureRun_pure, Option.bind_some, h]

theorem part_run {P : Program} {t : TypeId} {cs : Array Value} {off : Nat} {v : Value} (h : eqV.pt P t cs off = some v) : pureRun P (part t cs off) = some v := by
  unfold eqV.pt at h
  unfold part
  simp only [pureRun_bind]
  split at h
  · rename_i n ha hn
    cases h
    simp only [isAgg_run ha, sizeOf_run hn, Option.bind_some, if_true, pureRun_bind, pureRun_pure]
  · rename_i ha
    simp only [isAgg_run ha, Option.bind_some, h]
    rfl
  · cases h

theorem go_run {P : Program} {r : TypeId → Value → Value → Option Bool} {d' : Nat} (hr : ∀ t x y b, r t x y = some b → pureRun P (Op.equalIn d' t x y) = some b) (xs ys : Array Value) :
    ∀ (l : List Field) (b : Bool), eqV.go P r xs ys l = some b →
      pureRun P (forIn l ((none, ()) : Option Bool × Unit) fun f __s =>
              if f.name ≠ "_" then do
                let __do_lift ← part f.type xs f.offset
                let __do_lift_1 ← part f.type ys f.offset
                let __do_lift ← Op.equalIn d' f.type __do_lift __do_lift_1
                if (!__do_lift) = true then pure (ForInStep.done (some false, ()))
                  else pure (ForInStep.yield (none, ()))
              else pure (ForInStep.yield (none, ()))) = some (if b then (none, ()) else (some false, ()))
  | [], b, h => by
    simp only [eqV.go, Option.some.injEq] at h
    subst h
    rfl
  | f :: l, b, h => by
    have ih := go_run hr xs ys l
    simp only [eqV.go] at h
    rw [List.forIn_cons]
    by_cases hn : f.name ≠ "_"
    · rw [if_pos hn] at h
      rw [if_pos hn]
      split at h
      case h_2 => cases h
      rename_i a c ha hc
      split at h
      case h_2 => cases h
      rename_i u v hu hv
      cases h
      simp only [pureRun_bind, part_run ha, part_run hc, hr _ _ _ _ hu, Option.bind_some]
      cases u
      · simp only [Bool.not_false, if_true, pureRun_pure, Option.bind_some]
        simp
      · simp only [Bool.not_true, Bool.false_eq_true, if_false, Bool.true_and]
        exact ih v hv
    · rw [if_neg hn] at h
      rw [if_neg hn]
      simp only [pureRun_bind, pureRun_pure, Option.bind_some]
      exact ih b h

theorem goA_run {P : Program} {r : Value → Value → Option Bool} {d' : Nat} {e : TypeId} {z : Nat} (hz : sizeT P e = some z) (hr : ∀ x y b, r x y = some b → pureRun P (Op.equalIn d' e x y) = some b) (xs ys : Array Value) :
    ∀ (n i : Nat) (b : Bool), eqV.goA P r (isAggT P e) z xs ys i n = some b →
      pureRun P (forIn (List.range' i n) ((none, ()) : Option Bool × Unit) fun i __s => do
              let __do_lift ← part e xs (i * z)
              let __do_lift_1 ← part e ys (i * z)
              let __do_lift ← Op.equalIn d' e __do_lift __do_lift_1
              if (!__do_lift) = true then pure (ForInStep.done (some false, ()))
                else pure (ForInStep.yield (none, ()))) = some (if b then (none, ()) else (some false, ()))
  | 0, i, b, h => by
    simp only [eqV.goA, Option.some.injEq] at h
    subst h
    rfl
  | n + 1, i, b, h => by
    have ih := goA_run hz hr xs ys n (i + 1)
    simp only [eqV.goA] at h
    rw [List.range'_succ, List.forIn_cons]
    split at h
    case h_2 => cases h
    rename_i a c ha hc
    have pa : ∀ (cs : Array Value) (v : Value), (match isAggT P e with | some true => some (Value.agg (cs.extract (i * z) (i * z + z))) | some false => cs[i * z]? | none => none) = some v → pureRun P (part e cs (i * z)) = some v := by
      intro cs v hv
      refine part_run ?_
      unfold eqV.pt
      rw [hz]
      split at hv <;> simp_all
    split at h
    case h_2 => cases h
    rename_i u v hu hv
    cases h
    simp only [pureRun_bind, pa _ _ ha, pa _ _ hc, hr _ _ _ hu, Option.bind_some]
    cases u
    · simp only [Bool.not_false, if_true, pureRun_pure, Option.bind_some]
      simp
    · simp only [Bool.not_true, Bool.false_eq_true, if_false, Bool.true_and]
      exact ih v hv

theorem eqV_ok {P : Program} : ∀ (d : Nat) (t : TypeId) (x y : Value) (b : Bool), eqV P d t x y = some b → ∀ d', d ≤ d' → pureRun P (Op.equalIn d' t x y) = some b
  | 0, _, _, _, _, h, _, _ => by cases h
  | d + 1, t, x, y, b, h, d', hd => by
    obtain ⟨d', rfl⟩ : ∃ m, d' = m + 1 := ⟨d' - 1, by omega⟩
    have hd : d ≤ d' := by omega
    have ih := eqV_ok (P := P) d
    unfold Op.equalIn
    simp only [pureRun_bind, pureRun_underlying]
    unfold eqV at h
    split at h
    · rename_i ht; cases h; simp only [ht, Option.bind_some]; rfl
    · rename_i ht
      split at h
      · cases h; rename_i hk; simp only [ht, Option.bind_some, hk, if_true]; rfl
      · cases h
    · rename_i ht; cases h; simp only [ht, Option.bind_some]; rfl
    · rename_i fs xs ys ht
      split at h
      · cases h
      · rename_i hs
        simp only [ht, Option.bind_some, pureRun_bind, pureRun_program, hs]
        rw [if_neg (by simp)]
        rw [pureRun_bind, ← Array.forIn_toList, go_run (fun t x y b h => ih t x y b h d' hd) xs ys _ b h]
        cases b <;> rfl
    · rename_i n e xs ys ht
      split at h
      · rename_i z hz
        simp only [ht, Option.bind_some, pureRun_bind, pureRun_program, sizeOf_run hz]
        rw [Std.Legacy.Range.forIn_eq_forIn_range']
        have := goA_run hz (fun x y b h => ih e x y b h d' hd) xs ys n 0 b h
        simp only [Std.Legacy.Range.size]
        simp at this ⊢
        rw [this]
        cases b <;> rfl
      · cases h
    · cases h

theorem eqg_agg {P : Program} {t : TypeId} {xo yo : Operand} {xs ys : Array Value} {op : BinOp} (hg : P.eqGuardType P.depth t = false) : pureRun P (eqGuard op t xo yo (.agg xs) (.agg ys)) = some () := by
  unfold eqGuard
  cases op <;> simp [pureRun_bind, pureRun_pure, pureRun_program, hg]

theorem eq_agg (d : Nat) {P : Program} {t : TypeId} {xo yo : Operand} {xs ys : Array Value} {b : Bool} (h1 : isPtr P t = false) (h2 : isSl P t = false) (hx : scalar (.agg xs) = true) (hy : scalar (.agg ys) = true) (hg : P.eqGuardType P.depth t = false)
    (h : eqV P d t (.agg xs) (.agg ys) = some b) (hd : d ≤ 10000 := by decide) : evBin P .eql t xo yo (.agg xs) (.agg ys) = some (.bool b) := by
  rw [evBin_scalar h1 h2 hx hy]
  have := eqV_ok d t _ _ b h Op.maxDepth hd
  simp only [pureV, pureRun_bind, eqg_agg hg, Option.bind_some, binOp, Op.equal, this, pureRun_pure, flatS, if_true]
theorem ne_agg (d : Nat) {P : Program} {t : TypeId} {xo yo : Operand} {xs ys : Array Value} {b : Bool} (h1 : isPtr P t = false) (h2 : isSl P t = false) (hx : scalar (.agg xs) = true) (hy : scalar (.agg ys) = true) (hg : P.eqGuardType P.depth t = false)
    (h : eqV P d t (.agg xs) (.agg ys) = some b) (hd : d ≤ 10000 := by decide) : evBin P .neq t xo yo (.agg xs) (.agg ys) = some (.bool (!b)) := by
  rw [evBin_scalar h1 h2 hx hy]
  have := eqV_ok d t _ _ b h Op.maxDepth hd
  simp only [pureV, pureRun_bind, eqg_agg hg, Option.bind_some, binOp, Op.equal, this, pureRun_pure, flatS, if_true]

/-! Rules for a type, in bundles. -/
section
variable {P : Program} {t : TypeId}
theorem int_rules (h1 : isPtr P t = false) (h2 : isSl P t = false) :
    (∀ xo yo k a b, evBin P .add t xo yo (.int k a) (.int k b) = some (.int k (k.wrap (a + b)))) ∧
    (∀ xo yo k a b, evBin P .sub t xo yo (.int k a) (.int k b) = some (.int k (k.wrap (a - b)))) ∧
    (∀ xo yo k a b, evBin P .mul t xo yo (.int k a) (.int k b) = some (.int k (k.wrap (a * b)))) ∧
    (∀ xo yo k a b, evBin P .lss t xo yo (.int k a) (.int k b) = some (.bool (decide (a < b)))) ∧
    (∀ xo yo k a b, evBin P .leq t xo yo (.int k a) (.int k b) = some (.bool (decide (a ≤ b)))) ∧
    (∀ xo yo k a b, evBin P .gtr t xo yo (.int k a) (.int k b) = some (.bool (decide (b < a)))) ∧
    (∀ xo yo k a b, evBin P .geq t xo yo (.int k a) (.int k b) = some (.bool (decide (b ≤ a)))) ∧
    (∀ xo yo k a b, evBin P .eql t xo yo (.int k a) (.int k b) = some (.bool (decide (a = b)))) ∧
    (∀ xo yo k a b, evBin P .neq t xo yo (.int k a) (.int k b) = some (.bool (!decide (a = b)))) ∧
    (∀ xo yo k a b, b < 0 ∨ 0 < b → evBin P .rem t xo yo (.int k a) (.int k b) = some (.int k (a.tmod b))) ∧
    (∀ xo yo k a b, b < 0 ∨ 0 < b → evBin P .quo t xo yo (.int k a) (.int k b) = some (.int k (k.wrap (a.tdiv b)))) ∧
    (∀ xo yo k a b, evBin P .and t xo yo (.int k a) (.int k b) = some (.int k (k.wrap ((BitVec.ofInt k.bits a &&& BitVec.ofInt k.bits b).toNat)))) ∧
    (∀ xo yo k a b, evBin P .or t xo yo (.int k a) (.int k b) = some (.int k (k.wrap ((BitVec.ofInt k.bits a ||| BitVec.ofInt k.bits b).toNat)))) ∧
    (∀ xo yo k a b, evBin P .xor t xo yo (.int k a) (.int k b) = some (.int k (k.wrap ((BitVec.ofInt k.bits a ^^^ BitVec.ofInt k.bits b).toNat)))) ∧
    (∀ xo yo k a b, evBin P .andNot t xo yo (.int k a) (.int k b) = some (.int k (k.wrap ((BitVec.ofInt k.bits a &&& ~~~BitVec.ofInt k.bits b).toNat)))) ∧
    (∀ xo yo k k' a b, 0 ≤ b → evBin P .shl t xo yo (.int k a) (.int k' b) = some (.int k (k.wrap (a * 2 ^ min b.toNat k.bits)))) ∧
    (∀ xo yo k k' a b, 0 ≤ b → evBin P .shr t xo yo (.int k a) (.int k' b) = some (.int k (a.fdiv (2 ^ min b.toNat k.bits)))) :=
  ⟨fun _ _ _ _ _ => bin_add h1 h2, fun _ _ _ _ _ => bin_sub h1 h2, fun _ _ _ _ _ => bin_mul h1 h2, fun _ _ _ _ _ => bin_lss h1 h2, fun _ _ _ _ _ => bin_leq h1 h2, fun _ _ _ _ _ => bin_gtr h1 h2, fun _ _ _ _ _ => bin_geq h1 h2,
   fun _ _ _ _ _ => bin_eql h1 h2, fun _ _ _ _ _ => bin_neq h1 h2, fun _ _ _ _ _ h => bin_rem h1 h2 (by omega), fun _ _ _ _ _ h => bin_quo h1 h2 (by omega), fun _ _ _ _ _ => bin_and h1 h2, fun _ _ _ _ _ => bin_or h1 h2, fun _ _ _ _ _ => bin_xor h1 h2,
   fun _ _ _ _ _ => bin_andNot h1 h2, fun _ _ _ _ _ _ h => bin_shl h1 h2 h, fun _ _ _ _ _ _ h => bin_shr h1 h2 h⟩

theorem bin_bneq {xo yo : Operand} {x y : Bool} (ht : P.underlying t = some .bool) (h1 : isPtr P t = false) (h2 : isSl P t = false) : evBin P .neq t xo yo (.bool x) (.bool y) = some (.bool (!(x == y))) := by
  rw [evBin_scalar h1 h2 rfl rfl]
  have : pureRun P (Op.equal t (.bool x) (.bool y)) = some (x == y) := by
    simp only [Op.equal, Op.maxDepth]
    unfold Op.equalIn
    simp only [pureRun_bind, pureRun_underlying, ht, Option.bind_some, pureRun_pure]
  simp only [pureV, eqGuard, binOp, pureRun_bind, this, Option.bind_some, pureRun_pure, flatS, if_true]
  rfl

theorem bool_rules (ht : P.underlying t = some .bool) (h1 : isPtr P t = false) (h2 : isSl P t = false) :
    (∀ xo yo x y, evBin P .eql t xo yo (.bool x) (.bool y) = some (.bool (x == y))) ∧
    (∀ xo yo x y, evBin P .neq t xo yo (.bool x) (.bool y) = some (.bool (!(x == y)))) :=
  ⟨fun _ _ _ _ => bin_beql ht h1 h2, fun _ _ _ _ => bin_bneq ht h1 h2⟩

theorem str_add {xo yo : Operand} {x y : ByteArray} (h1 : isPtr P t = false) (h2 : isSl P t = false) (h : x.size + y.size ≤ 9223372036854775807) : evBin P .add t xo yo (.string x) (.string y) = some (.string (x ++ y)) := by
  rw [evBin_scalar h1 h2 rfl rfl]
  have : ¬ (((x.size + y.size : Nat) : Int) > IntKind.i64.max) := by
    have : IntKind.i64.max = 9223372036854775807 := by decide
    omega
  simp only [eqGuard, binOp, Op.stringOp, if_neg this]
  rfl

theorem str_rules (ht : P.underlying t = some .string) (h1 : isPtr P t = false) (h2 : isSl P t = false) :
    (∀ xo yo x y, evBin P .eql t xo yo (.string x) (.string y) = some (.bool (x.toList == y.toList))) ∧
    (∀ xo yo x y, evBin P .neq t xo yo (.string x) (.string y) = some (.bool (!(x.toList == y.toList)))) ∧
    (∀ xo yo x y, x.size + y.size ≤ 9223372036854775807 → evBin P .add t xo yo (.string x) (.string y) = some (.string (x ++ y))) ∧
    (∀ x, evLen P #[t] (.string x) = some (.int .i64 x.size)) ∧
    (∀ s k i, 0 ≤ i → i < (s.size : Int) → evIndex P t (.string s) (.int k i) = some (.int .u8 (s[i.toNat]!).toNat)) ∧
    (∀ (E : Env) g s (lo hi : Int) (_ : E.P = P), 0 ≤ lo → lo ≤ hi → hi ≤ s.size → evSlice E g t (.string s) (some (.int .i64 lo)) (some (.int .i64 hi)) none = some ⟨.string (s.extract lo.toNat hi.toNat), [], []⟩) ∧
    (∀ (E : Env) g s (lo : Int) (_ : E.P = P), 0 ≤ lo → lo ≤ s.size → evSlice E g t (.string s) (some (.int .i64 lo)) none none = some ⟨.string (s.extract lo.toNat s.size), [], []⟩) ∧
    (∀ (E : Env) g s (hi : Int) (_ : E.P = P), 0 ≤ hi → hi ≤ s.size → evSlice E g t (.string s) none (some (.int .i64 hi)) none = some ⟨.string (s.extract 0 hi.toNat), [], []⟩) := by
  refine ⟨fun _ _ _ _ => bin_seql h1 h2, fun _ _ _ _ => bin_sneq h1 h2, fun _ _ _ _ h => str_add h1 h2 h, fun x => by simp [evLen, ht], fun s k i g0 g1 => by simp [evIndex, ht, g0, g1], ?_, ?_, ?_⟩
  · intro E g s lo hi hE g0 g1 g2
    simp [evSlice, hE, ht, bound?, show (0 : Int) ≤ hi by omega, g2, g0, show lo ≤ hi.toNat by omega, show lo ≤ max hi 0 by omega]
  · intro E g s lo hE g0 g1
    simp [evSlice, hE, ht, bound?, g0, g1]
  · intro E g s hi hE g0 g1
    simp [evSlice, hE, ht, bound?, g0, g1]

theorem ptr_rules (h1 : isPtr P t = true) :
    (∀ xo yo x y, evBin P .eql t xo yo x y = evNilP true x y) ∧
    (∀ xo yo x y, evBin P .neq t xo yo x y = evNilP false x y) := by
  refine ⟨fun _ _ _ _ => ?_, fun _ _ _ _ => ?_⟩ <;> simp [evBin, h1]

theorem slice_rules {e : TypeId} {n : Nat} (ht : P.underlying t = some (.slice e)) (hn : sizeT P e = some n) (h1 : isPtr P t = false) (h2 : isSl P t = true) :
    (∀ a m c, evLen P #[t] (.slice a m c) = some (.int .i64 (m : Nat))) ∧
    (∀ b o (m : Nat) c k i, 0 ≤ i → i < (m : Int) → evIndexAddr P t (.slice (some ⟨b, o, none⟩) m c) (.int k i) = some (.pointer (some ⟨b, o + i.toNat * n, none⟩))) ∧
    (∀ xo yo x y, evBin P .eql t xo yo x y = evNilS true x y) ∧
    (∀ xo yo x y, evBin P .neq t xo yo x y = evNilS false x y) := by
  refine ⟨fun a m c => by simp [evLen, ht], fun b o m c k i g0 g1 => by simp [evIndexAddr, ht, hn, g0, g1], fun _ _ _ _ => ?_, fun _ _ _ _ => ?_⟩ <;> simp [evBin, h1, h2]

theorem array_rules {e : TypeId} {len n : Nat} (ht : P.underlying t = some (.array len e)) (hn : sizeT P e = some n) :
    (∀ x, evLen P #[t] x = some (.int .i64 (len : Nat))) ∧
    (∀ b o k i, 0 ≤ i → i < (len : Int) → evIndexAddr P t (.pointer (some ⟨b, o, none⟩)) (.int k i) = some (.pointer (some ⟨b, o + i.toNat * n, none⟩))) := by
  refine ⟨fun x => by simp [evLen, ht], fun b o k i g0 g1 => by simp [evIndexAddr, ht, hn, g0, g1]⟩

theorem array_ix {e : TypeId} {len n : Nat} (ht : P.underlying t = some (.array len e)) (hn : sizeT P e = some n) (ha : isAggT P e = some false) :
    ∀ cs k i, 0 ≤ i → i < (len : Int) → evIndex P t (.agg cs) (.int k i) = cs[i.toNat * n]? := fun cs k i g0 g1 => by simp [evIndex, ht, hn, ha, g0, g1]
end
end Go.Ab
