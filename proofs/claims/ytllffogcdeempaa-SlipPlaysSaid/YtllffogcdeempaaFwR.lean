/- Arithmetic and comparisons, as the stepping meets them. -/
import Derived.Test.YtllffogcdeempaaFwQ
set_option linter.all false
namespace Go.Ab
theorem pureRun_bind {α β : Type} (P : Program) (x : Sem α) (f : α → Sem β) : pureRun P (x >>= f) = (pureRun P x).bind fun a => pureRun P (f a) := by
  induction x with
  | pure a => rfl
  | program k ih => exact ih P
  | _ => rfl
theorem pureRun_pure {α : Type} (P : Program) (a : α) : pureRun P (pure a) = some a := rfl
theorem pureRun_program (P : Program) : pureRun P program = some P := rfl
theorem pureRun_underlying (P : Program) (t : TypeId) : pureRun P (underlying t) = P.underlying t := by
  unfold underlying
  rw [pureRun_bind]
  simp only [pureRun_program, Option.bind_some]
  cases P.underlying t <;> rfl

section
variable {P : Program} {t : TypeId} {xo yo : Operand} {k : IntKind} {a b : Int}

theorem evBin_scalar {op : BinOp} {x y : Value} (h1 : isPtr P t = false) (h2 : isSl P t = false) (hx : scalar x = true) (hy : scalar y = true) : evBin P op t xo yo x y = pureV P (do eqGuard op t xo yo x y; binOp op t x y) := by
  simp [evBin, h1, h2, hx, hy]

theorem bin_add (h1 : isPtr P t = false) (h2 : isSl P t = false) : evBin P .add t xo yo (.int k a) (.int k b) = some (.int k (k.wrap (a + b))) := by
  rw [evBin_scalar h1 h2 rfl rfl]; simp [pureV, eqGuard, binOp, Op.intArith]; rfl
theorem bin_sub (h1 : isPtr P t = false) (h2 : isSl P t = false) : evBin P .sub t xo yo (.int k a) (.int k b) = some (.int k (k.wrap (a - b))) := by
  rw [evBin_scalar h1 h2 rfl rfl]; simp [pureV, eqGuard, binOp, Op.intArith]; rfl
theorem bin_mul (h1 : isPtr P t = false) (h2 : isSl P t = false) : evBin P .mul t xo yo (.int k a) (.int k b) = some (.int k (k.wrap (a * b))) := by
  rw [evBin_scalar h1 h2 rfl rfl]; simp [pureV, eqGuard, binOp, Op.intArith]; rfl
theorem bin_lss (h1 : isPtr P t = false) (h2 : isSl P t = false) : evBin P .lss t xo yo (.int k a) (.int k b) = some (.bool (decide (a < b))) := by
  rw [evBin_scalar h1 h2 rfl rfl]; simp [pureV, eqGuard, binOp, Op.intCmp]; rfl
theorem bin_leq (h1 : isPtr P t = false) (h2 : isSl P t = false) : evBin P .leq t xo yo (.int k a) (.int k b) = some (.bool (decide (a ≤ b))) := by
  rw [evBin_scalar h1 h2 rfl rfl]; simp [pureV, eqGuard, binOp, Op.intCmp]; rfl
theorem bin_gtr (h1 : isPtr P t = false) (h2 : isSl P t = false) : evBin P .gtr t xo yo (.int k a) (.int k b) = some (.bool (decide (b < a))) := by
  rw [evBin_scalar h1 h2 rfl rfl]; simp [pureV, eqGuard, binOp, Op.intCmp]; rfl
theorem bin_geq (h1 : isPtr P t = false) (h2 : isSl P t = false) : evBin P .geq t xo yo (.int k a) (.int k b) = some (.bool (decide (b ≤ a))) := by
  rw [evBin_scalar h1 h2 rfl rfl]; simp [pureV, eqGuard, binOp, Op.intCmp]; rfl
theorem bin_eql (h1 : isPtr P t = false) (h2 : isSl P t = false) : evBin P .eql t xo yo (.int k a) (.int k b) = some (.bool (decide (a = b))) := by
  rw [evBin_scalar h1 h2 rfl rfl]; simp [pureV, eqGuard, binOp, Op.intCmp]; rfl
theorem bin_neq (h1 : isPtr P t = false) (h2 : isSl P t = false) : evBin P .neq t xo yo (.int k a) (.int k b) = some (.bool (!decide (a = b))) := by
  rw [evBin_scalar h1 h2 rfl rfl]; simp [pureV, eqGuard, binOp, Op.intCmp]; rfl

theorem bin_rem (h1 : isPtr P t = false) (h2 : isSl P t = false) (hb : b ≠ 0) : evBin P .rem t xo yo (.int k a) (.int k b) = some (.int k (a.tmod b)) := by
  rw [evBin_scalar h1 h2 rfl rfl]; simp [pureV, eqGuard, binOp, Op.intDiv, hb]; rfl
theorem bin_quo (h1 : isPtr P t = false) (h2 : isSl P t = false) (hb : b ≠ 0) : evBin P .quo t xo yo (.int k a) (.int k b) = some (.int k (k.wrap (a.tdiv b))) := by
  rw [evBin_scalar h1 h2 rfl rfl]; simp [pureV, eqGuard, binOp, Op.intDiv, hb]; rfl
theorem bin_and (h1 : isPtr P t = false) (h2 : isSl P t = false) : evBin P .and t xo yo (.int k a) (.int k b) = some (.int k (k.wrap ((BitVec.ofInt k.bits a &&& BitVec.ofInt k.bits b).toNat))) := by
  rw [evBin_scalar h1 h2 rfl rfl]; simp [pureV, eqGuard, binOp, Op.intBits]; rfl
theorem bin_or (h1 : isPtr P t = false) (h2 : isSl P t = false) : evBin P .or t xo yo (.int k a) (.int k b) = some (.int k (k.wrap ((BitVec.ofInt k.bits a ||| BitVec.ofInt k.bits b).toNat))) := by
  rw [evBin_scalar h1 h2 rfl rfl]; simp [pureV, eqGuard, binOp, Op.intBits]; rfl
theorem bin_xor (h1 : isPtr P t = false) (h2 : isSl P t = false) : evBin P .xor t xo yo (.int k a) (.int k b) = some (.int k (k.wrap ((BitVec.ofInt k.bits a ^^^ BitVec.ofInt k.bits b).toNat))) := by
  rw [evBin_scalar h1 h2 rfl rfl]; simp [pureV, eqGuard, binOp, Op.intBits]; rfl
theorem bin_andNot (h1 : isPtr P t = false) (h2 : isSl P t = false) : evBin P .andNot t xo yo (.int k a) (.int k b) = some (.int k (k.wrap ((BitVec.ofInt k.bits a &&& ~~~BitVec.ofInt k.bits b).toNat))) := by
  rw [evBin_scalar h1 h2 rfl rfl]; simp [pureV, eqGuard, binOp, Op.intBits]; rfl
theorem bin_shl {k' : IntKind} (h1 : isPtr P t = false) (h2 : isSl P t = false) (hb : 0 ≤ b) : evBin P .shl t xo yo (.int k a) (.int k' b) = some (.int k (k.wrap (a * 2 ^ min b.toNat k.bits))) := by
  rw [evBin_scalar h1 h2 rfl rfl]; simp [pureV, eqGuard, binOp, Op.shift, show ¬ b < 0 by omega]; rfl
theorem bin_shr {k' : IntKind} (h1 : isPtr P t = false) (h2 : isSl P t = false) (hb : 0 ≤ b) : evBin P .shr t xo yo (.int k a) (.int k' b) = some (.int k (a.fdiv (2 ^ min b.toNat k.bits))) := by
  rw [evBin_scalar h1 h2 rfl rfl]; simp [pureV, eqGuard, binOp, Op.shift, show ¬ b < 0 by omega]; rfl
theorem bin_seql {x y : ByteArray} (h1 : isPtr P t = false) (h2 : isSl P t = false) : evBin P .eql t xo yo (.string x) (.string y) = some (.bool (x.toList == y.toList)) := by
  rw [evBin_scalar h1 h2 rfl rfl]; simp [pureV, eqGuard, binOp, Op.stringOp]; rfl
theorem bin_sneq {x y : ByteArray} (h1 : isPtr P t = false) (h2 : isSl P t = false) : evBin P .neq t xo yo (.string x) (.string y) = some (.bool (!(x.toList == y.toList))) := by
  rw [evBin_scalar h1 h2 rfl rfl]; simp [pureV, eqGuard, binOp, Op.stringOp]; rfl
theorem equal_bool {x y : Bool} (ht : P.underlying t = some .bool) : pureV P (do pure (.bool (← Op.equal t (.bool x) (.bool y)))) = some (.bool (x == y)) := by
  simp only [pureV, Op.equal, Op.maxDepth, pureRun_bind]
  unfold Op.equalIn
  simp only [pureRun_bind, pureRun_underlying, ht, Option.bind_some, pureRun_pure, flatS, if_true]
theorem bin_beql {x y : Bool} (ht : P.underlying t = some .bool) (h1 : isPtr P t = false) (h2 : isSl P t = false) : evBin P .eql t xo yo (.bool x) (.bool y) = some (.bool (x == y)) := by
  rw [evBin_scalar h1 h2 rfl rfl]; exact equal_bool ht
theorem un_not {x : Bool} : pureV P (Op.unary .not (.bool x)) = some (.bool (!x)) := rfl
theorem un_neg : pureV P (Op.unary .neg (.int k a)) = some (.int k (k.wrap (0 - a))) := rfl
theorem conv_int {E : Env} {g : Nat → Option Blk} {nid : Nat} {s d : TypeId} {k' : IntKind} (hs : E.P.underlying s = some (.int k)) (hd : E.P.underlying d = some (.int k')) : evConvert E g nid s d (.int k a) = some ⟨.int k' (k'.wrap a), [], []⟩ := by
  unfold evConvert
  have : pureRun E.P (convert s d (.int k a)) = some (.int k' (k'.wrap a)) := by
    unfold convert
    simp only [pureRun_bind, pureRun_underlying, hs, hd, Option.bind_some, Conv.intToInt, pureRun_pure]
  simp only [hs, hd, scalar, flatS, if_true, pureV, this, Option.map_some]
theorem min_int {ts : Array TypeId} : pureV P (Builtin.min_ ts t #[.int k a, .int k b]) = some (.int k (if b < a then b else a)) := rfl
theorem max_int {ts : Array TypeId} : pureV P (Builtin.max_ ts t #[.int k a, .int k b]) = some (.int k (if a < b then b else a)) := rfl
theorem scal_int : scalar (.int k a) = true := rfl
theorem scal_bool {x : Bool} : scalar (.bool x) = true := rfl
end

section
variable {E : Env} {call : CallF} {k : Nat} {fid : FuncId} {fr : List Value} {σ : St} {Q : Ex → List Value → St → Prop}
theorem w_cond_t {c : Operand} {x y : Code} {b : Bool} (hc : Opd fr c = .bool b) (hb : b = true) (h1 : W E call k fid x none fr σ Q) : W E call k fid (.cond c x y) none fr σ Q :=
  w_cond hc (fun _ => h1) (fun h => by rw [hb] at h; cases h)
theorem w_cond_f {c : Operand} {x y : Code} {b : Bool} (hc : Opd fr c = .bool b) (hb : b = false) (h1 : W E call k fid y none fr σ Q) : W E call k fid (.cond c x y) none fr σ Q :=
  w_cond hc (fun h => by rw [hb] at h; cases h) (fun _ => h1)
end
end Go.Ab
