/- What each kind of operation comes to, by side conditions of its own. -/
import Derived.Test.YtllffogcdeempaaFwX
set_option linter.all false
open Go.RowKit
namespace Go.Ab

section
variable {E : Env} {fr : List Value} {nid : Nat} {g : Nat → Option Blk} {o : Oper} {P : Program}

theorem ev_move {x : Operand} {v : Value} (ho : o.op = .move x) (hx : Opd fr x = v) : evOp E (Opd fr) nid g o = some ⟨v, [], []⟩ := by
  subst hx; unfold evOp; rw [ho]
theorem ev_assign {x : Operand} {v : Value} (ho : o.op = .assign x) (hx : Opd fr x = v) : evOp E (Opd fr) nid g o = some ⟨v, [], []⟩ := by
  subst hx; unfold evOp; rw [ho]
theorem ev_pick {c x y : Operand} {b : Bool} {v : Value} (ho : o.op = .pick c x y) (hc : Opd fr c = .bool b) (hv : (if b then Opd fr x else Opd fr y) = v) : evOp E (Opd fr) nid g o = some ⟨v, [], []⟩ := by
  subst hv; unfold evOp; simp only [ho, hc]; cases b <;> rfl
theorem ev_alloc {e : TypeId} {z : Array Value} {l : List Value} (ho : o.op = .alloc e) (hP : E.P = P) (hz : zeroCells? P e = some z) (hl : z.toList = l) : evOp E (Opd fr) nid g o = some ⟨.pointer (some ⟨nid, 0, none⟩), [(nid, some (.cells l e true))], []⟩ := by
  subst hP hl; unfold evOp; simp only [ho, hz]
theorem ev_box {e : TypeId} {x : Operand} {v : Value} {l : List Value} (ho : o.op = .box e x) (hx : Opd fr x = v) (hl : v.cells.toList = l) : evOp E (Opd fr) nid g o = some ⟨.pointer (some ⟨nid, 0, none⟩), [(nid, some (.cells l e true))], []⟩ := by
  subst hx hl; unfold evOp; simp only [ho]
theorem ev_build {t : TypeId} {parts : Array (Nat × Operand)} {v : Value} {l : List (Nat × Value)} (ho : o.op = .build t parts) (hP : E.P = P) (hl : (parts.toList.map fun p => (p.1, Opd fr p.2)) = l) (hv : evBuild P t l = some v) : evOp E (Opd fr) nid g o = some ⟨v, [], []⟩ := by
  subst hP hl; unfold evOp; simp only [ho, hv, Option.map_some]
theorem ev_buildSlice {t : TypeId} {len : Nat} {parts : Array (Nat × Operand)} {e : Eff} {l : List (Nat × Value)} (ho : o.op = .buildSlice t len parts) (hP : E.P = P) (hl : (parts.toList.map fun p => (p.1, Opd fr p.2)) = l) (hv : evBuildSlice P nid t len l = some e) : evOp E (Opd fr) nid g o = some e := by
  subst hP hl; unfold evOp; simp only [ho, hv]

/-- One cell of one's own. -/
theorem ev_load1 {t : TypeId} {x : Operand} {b off : Nat} {c : List Value} {el : TypeId} {ex : Bool} {v : Value} (ho : o.op = .load t x) (hP : E.P = P) (ha : isAggT P t = some false) (hx : Opd fr x = .pointer (some ⟨b, off, none⟩)) (hb : ¬ b < E.old) (hg : g b = some (.cells c el ex)) (hv : c[off]? = some v) :
    evOp E (Opd fr) nid g o = some ⟨v, [], [b]⟩ := by
  subst hP; unfold evOp
  have hlt : off < c.length := (List.getElem?_eq_some_iff.1 hv).1
  have hv2 : c[off] = v := (List.getElem?_eq_some_iff.1 hv).2
  have : rd E g ⟨b, off, none⟩ 1 = some [v] := by
    simp only [rd, Option.isSome_none, hb, hg, if_false, Bool.false_eq_true]
    rw [if_pos (by omega), List.drop_eq_getElem_cons hlt]
    simp [hv2]
  simp only [ho, hx, evLoad, ha, this]
/-- Several cells of one's own. -/
theorem ev_loadN {t : TypeId} {x : Operand} {b off k : Nat} {c l : List Value} {el : TypeId} {ex : Bool} (ho : o.op = .load t x) (hP : E.P = P) (ha : isAggT P t = some true) (hx : Opd fr x = .pointer (some ⟨b, off, none⟩)) (hb : ¬ b < E.old) (hg : g b = some (.cells c el ex)) (hk : sizeT P t = some k) (hle : off + k ≤ c.length) (hl : (c.drop off).take k = l) :
    evOp E (Opd fr) nid g o = some ⟨.agg l.toArray, [], [b]⟩ := by
  subst hP hl; unfold evOp
  have : rd E g ⟨b, off, none⟩ k = some ((c.drop off).take k) := by
    simp only [rd, Option.isSome_none, hb, hg, if_false, Bool.false_eq_true]
    rw [if_pos hle]
  simp only [ho, hx, evLoad, ha, hk, this]
/-- One cell that came in. -/
theorem ev_load1o {t : TypeId} {x : Operand} {b off : Nat} {v : Value} (ho : o.op = .load t x) (hP : E.P = P) (ha : isAggT P t = some false) (hx : Opd fr x = .pointer (some ⟨b, off, none⟩)) (hb : b < E.old) (hr : rdOld E b off 1 = some [v]) :
    evOp E (Opd fr) nid g o = some ⟨v, [], [b]⟩ := by
  subst hP; unfold evOp
  have : rd E g ⟨b, off, none⟩ 1 = some [v] := by simp only [rd, Option.isSome_none, hb, if_true, Bool.false_eq_true, if_false]; simpa using hr
  simp only [ho, hx, evLoad, ha, this]
theorem ev_loadNo {t : TypeId} {x : Operand} {b off k : Nat} {l : List Value} (ho : o.op = .load t x) (hP : E.P = P) (ha : isAggT P t = some true) (hx : Opd fr x = .pointer (some ⟨b, off, none⟩)) (hb : b < E.old) (hk : sizeT P t = some k) (hr : rdOld E b off k = some l) :
    evOp E (Opd fr) nid g o = some ⟨.agg l.toArray, [], [b]⟩ := by
  subst hP; unfold evOp
  have : rd E g ⟨b, off, none⟩ k = some l := by simp only [rd, Option.isSome_none, hb, if_true, Bool.false_eq_true, if_false]; simpa using hr
  simp only [ho, hx, evLoad, ha, hk, this]
theorem ev_store {t : TypeId} {x y : Operand} {b off k : Nat} {c c' l : List Value} {el : TypeId} {ex : Bool} {v : Value} (ho : o.op = .store t x y) (hP : E.P = P) (hx : Opd fr x = .pointer (some ⟨b, off, none⟩)) (hy : Opd fr y = v) (hb : ¬ b < E.old) (hg : g b = some (.cells c el ex))
    (hk : sizeT P t = some k) (hl : v.cells.toList = l) (hlen : l.length = k) (hone : l.all oneCell = true) (hle : off + k ≤ c.length) (hw : wrList c off l = c') : evOp E (Opd fr) nid g o = some ⟨.tuple #[], [(b, some (.cells c' el ex))], [b]⟩ := by
  subst hP hy hw hlen hl; unfold evOp
  have : wr E g ⟨b, off, none⟩ (Opd fr y).cells.toList = some (b, some (.cells (wrList c off (Opd fr y).cells.toList) el ex)) := by
    have h0 : ¬ (((⟨b, off, none⟩ : Addr).spot.isSome || decide (b < E.old)) || !(Opd fr y).cells.toList.all oneCell) = true := by simp [hb]; simpa using hone
    unfold wr
    rw [if_neg h0]
    simp only [hg]
    rw [if_pos hle]
  simp only [ho, hx, evStore]
  rw [if_pos (by rw [hk]; simp), this]

theorem ev_nil {x : Operand} {a : Addr} (ho : o.op = .nilCheck x) (hx : Opd fr x = .pointer (some a)) : evOp E (Opd fr) nid g o = some ⟨.pointer (some a), [], []⟩ := by
  unfold evOp; simp only [ho, hx]
theorem ev_fa {t : TypeId} {x : Operand} {f : Nat} {v u : Value} (ho : o.op = .fieldAddr t x f) (hP : E.P = P) (hx : Opd fr x = v) (hv : evFieldAddr P t v f = some u) : evOp E (Opd fr) nid g o = some ⟨u, [], []⟩ := by
  subst hP hx; unfold evOp; simp only [ho, hv, Option.map_some]
theorem ev_field {t : TypeId} {x : Operand} {f : Nat} {v u : Value} (ho : o.op = .field t x f) (hP : E.P = P) (hx : Opd fr x = v) (hv : evField P t v f = some u) : evOp E (Opd fr) nid g o = some ⟨u, [], []⟩ := by
  subst hP hx; unfold evOp; simp only [ho, hv, Option.map_some]
theorem ev_ia {t : TypeId} {x i : Operand} {v w u : Value} (ho : o.op = .indexAddr t x i) (hP : E.P = P) (hx : Opd fr x = v) (hi : Opd fr i = w) (hv : evIndexAddr P t v w = some u) : evOp E (Opd fr) nid g o = some ⟨u, [], []⟩ := by
  subst hP hx hi; unfold evOp; simp only [ho, hv, Option.map_some]
theorem ev_ix {t : TypeId} {x i : Operand} {v w u : Value} (ho : o.op = .index t x i) (hP : E.P = P) (hx : Opd fr x = v) (hi : Opd fr i = w) (hv : evIndex P t v w = some u) : evOp E (Opd fr) nid g o = some ⟨u, [], []⟩ := by
  subst hP hx hi; unfold evOp; simp only [ho, hv, Option.map_some]
theorem ev_extract {x : Operand} {i : Nat} {vs : Array Value} {u : Value} (ho : o.op = .extract x i) (hx : Opd fr x = .tuple vs) (hv : vs[i]? = some u) : evOp E (Opd fr) nid g o = some ⟨u, [], []⟩ := by
  unfold evOp; simp only [ho, hx, hv, Option.map_some]
theorem ev_un {op : UnOp} {t : TypeId} {x : Operand} {v u : Value} (ho : o.op = .unOp op t x) (hP : E.P = P) (hx : Opd fr x = v) (hs : scalar v = true) (hv : pureV P (Op.unary op v) = some u) : evOp E (Opd fr) nid g o = some ⟨u, [], []⟩ := by
  subst hP hx; unfold evOp; simp only [ho, hs, hv, if_true, Option.map_some]
theorem ev_conv {s d : TypeId} {x : Operand} {v : Value} {e : Eff} (ho : o.op = .convert s d x) (hx : Opd fr x = v) (hv : evConvert E g nid s d v = some e) : evOp E (Opd fr) nid g o = some e := by
  subst hx; unfold evOp; simp only [ho, hv]
theorem ev_mk {t : TypeId} {l c : Operand} {v w : Value} {e : Eff} (ho : o.op = .makeSlice t l c) (hl : Opd fr l = v) (hc : Opd fr c = w) (hv : evMakeSlice E nid t v w = some e) : evOp E (Opd fr) nid g o = some e := by
  subst hl hc; unfold evOp; simp only [ho, hv]
theorem ev_slice {t : TypeId} {x : Operand} {lo hi mx : Option Operand} {v : Value} {a b c : Option Value} {e : Eff} (ho : o.op = .slice t x lo hi mx) (hx : Opd fr x = v) (h1 : lo.map (Opd fr) = a) (h2 : hi.map (Opd fr) = b) (h3 : mx.map (Opd fr) = c) (hv : evSlice E g t v a b c = some e) : evOp E (Opd fr) nid g o = some e := by
  subst hx h1 h2 h3; unfold evOp; simp only [ho, hv]
theorem ev_fn {fn : Fn} {x y : Array Operand} {u v : Array Value} (ho : o.op = .makeFunc fn x y) (hx : x.map (Opd fr) = u) (hy : y.map (Opd fr) = v) : evOp E (Opd fr) nid g o = some ⟨.func fn u v, [], []⟩ := by
  subst hx hy; unfold evOp; simp only [ho]
theorem ev_bi {b : Builtin} {args : Array Operand} {ts : Array TypeId} {l : List Value} {e : Eff} (ho : o.op = .call { callee := .builtin b, args := args, argTypes := ts }) (hl : args.toList.map (Opd fr) = l) (hv : evBuiltin E g nid b ts o.type l = some e) : evOp E (Opd fr) nid g o = some e := by
  subst hl; unfold evOp; simp only [ho, hv]
theorem ev_len {x : Operand} {ts : Array TypeId} {v u : Value} (ho : o.op = .call { callee := .builtin .len, args := #[x], argTypes := ts }) (hP : E.P = P) (hx : Opd fr x = v) (hv : evLen P ts v = some u) : evOp E (Opd fr) nid g o = some ⟨u, [], []⟩ := by
  subst hP hx; unfold evOp; simp only [ho, evBuiltin, List.map_cons, List.map_nil, hv, Option.map_some]
theorem ev_min {x y : Operand} {ts : Array TypeId} {k : IntKind} {a b : Int} {r : Value} (ho : o.op = .call { callee := .builtin .min, args := #[x, y], argTypes := ts }) (hx : Opd fr x = .int k a) (hy : Opd fr y = .int k b) (hv : .int k (min a b) = r) : evOp E (Opd fr) nid g o = some ⟨r, [], []⟩ := by
  subst hv; unfold evOp
  simp only [ho, evBuiltin, List.map_cons, List.map_nil, hx, hy, List.all_cons, List.all_nil, scal_int, Bool.and_self, if_true, List.toArray, min_int, Option.map_some]
  have : (if b < a then b else a) = min a b := by omega
  simp [this, min_int]
theorem ev_max {x y : Operand} {ts : Array TypeId} {k : IntKind} {a b : Int} {r : Value} (ho : o.op = .call { callee := .builtin .max, args := #[x, y], argTypes := ts }) (hx : Opd fr x = .int k a) (hy : Opd fr y = .int k b) (hv : .int k (max a b) = r) : evOp E (Opd fr) nid g o = some ⟨r, [], []⟩ := by
  subst hv; unfold evOp
  simp only [ho, evBuiltin, List.map_cons, List.map_nil, hx, hy, List.all_cons, List.all_nil, scal_int, Bool.and_self, if_true, List.toArray, max_int, Option.map_some]
  have : (if a < b then b else a) = max a b := by omega
  simp [this, max_int]

/-- Arithmetic on integers of one kind. -/
def intBin (k : IntKind) : BinOp → Int → Int → Option Value
  | .add, a, b => some (.int k (k.wrap (a + b)))
  | .sub, a, b => some (.int k (k.wrap (a - b)))
  | .mul, a, b => some (.int k (k.wrap (a * b)))
  | .lss, a, b => some (.bool (decide (a < b)))
  | .leq, a, b => some (.bool (decide (a ≤ b)))
  | .gtr, a, b => some (.bool (decide (b < a)))
  | .geq, a, b => some (.bool (decide (b ≤ a)))
  | .eql, a, b => some (.bool (decide (a = b)))
  | .neq, a, b => some (.bool (!decide (a = b)))
  | .rem, a, b => if b < 0 ∨ 0 < b then some (.int k (a.tmod b)) else none
  | .quo, a, b => if b < 0 ∨ 0 < b then some (.int k (k.wrap (a.tdiv b))) else none
  | .and, a, b => some (.int k (k.wrap ((BitVec.ofInt k.bits a &&& BitVec.ofInt k.bits b).toNat)))
  | .or, a, b => some (.int k (k.wrap ((BitVec.ofInt k.bits a ||| BitVec.ofInt k.bits b).toNat)))
  | .xor, a, b => some (.int k (k.wrap ((BitVec.ofInt k.bits a ^^^ BitVec.ofInt k.bits b).toNat)))
  | .andNot, a, b => some (.int k (k.wrap ((BitVec.ofInt k.bits a &&& ~~~BitVec.ofInt k.bits b).toNat)))
  | _, _, _ => none

theorem ev_bin {op : BinOp} {t ty : TypeId} {x y : Operand} {k : IntKind} {a b : Int} {r : Value} (ho : o.op = .binOp op t x y ty) (hP : E.P = P) (h1 : isPtr P t = false) (h2 : isSl P t = false) (hx : Opd fr x = .int k a) (hy : Opd fr y = .int k b) (hv : intBin k op a b = some r) :
    evOp E (Opd fr) nid g o = some ⟨r, [], []⟩ := by
  subst hP; unfold evOp
  have : evBin E.P op t x y (.int k a) (.int k b) = some r := by
    have R := int_rules h1 h2
    cases op <;> simp only [intBin, Option.some.injEq, reduceCtorEq] at hv <;> (try cases hv) <;> (try simp only [R])
    all_goals
      split at hv
      · rename_i hb; cases hv; simp only [R, hb]
      · cases hv
  simp only [ho, hx, hy, this, Option.map_some]
theorem ev_shl {t ty : TypeId} {x y : Operand} {k k' : IntKind} {a b : Int} {r : Int} (ho : o.op = .binOp .shl t x y ty) (hP : E.P = P) (h1 : isPtr P t = false) (h2 : isSl P t = false) (hx : Opd fr x = .int k a) (hy : Opd fr y = .int k' b) (hb : 0 ≤ b) (hv : k.wrap (a * 2 ^ min b.toNat k.bits) = r) :
    evOp E (Opd fr) nid g o = some ⟨.int k r, [], []⟩ := by
  subst hP hv; unfold evOp; simp only [ho, hx, hy, bin_shl h1 h2 hb, Option.map_some]
theorem ev_shr {t ty : TypeId} {x y : Operand} {k k' : IntKind} {a b : Int} {r : Int} (ho : o.op = .binOp .shr t x y ty) (hP : E.P = P) (h1 : isPtr P t = false) (h2 : isSl P t = false) (hx : Opd fr x = .int k a) (hy : Opd fr y = .int k' b) (hb : 0 ≤ b) (hv : a.fdiv (2 ^ min b.toNat k.bits) = r) :
    evOp E (Opd fr) nid g o = some ⟨.int k r, [], []⟩ := by
  subst hP hv; unfold evOp; simp only [ho, hx, hy, bin_shr h1 h2 hb, Option.map_some]
theorem ev_binB {op : BinOp} {t ty : TypeId} {x y : Operand} {a b : Bool} {r : Value} (ho : o.op = .binOp op t x y ty) (hP : E.P = P) (hx : Opd fr x = .bool a) (hy : Opd fr y = .bool b) (hv : evBin P op t x y (.bool a) (.bool b) = some r) : evOp E (Opd fr) nid g o = some ⟨r, [], []⟩ := by
  subst hP; unfold evOp; simp only [ho, hx, hy, hv, Option.map_some]
theorem ev_binS {op : BinOp} {t ty : TypeId} {x y : Operand} {a b : ByteArray} {r : Value} (ho : o.op = .binOp op t x y ty) (hP : E.P = P) (hx : Opd fr x = .string a) (hy : Opd fr y = .string b) (hv : evBin P op t x y (.string a) (.string b) = some r) : evOp E (Opd fr) nid g o = some ⟨r, [], []⟩ := by
  subst hP; unfold evOp; simp only [ho, hx, hy, hv, Option.map_some]
theorem ev_binP {op : BinOp} {t ty : TypeId} {x y : Operand} {a b : Option Addr} {r : Value} (ho : o.op = .binOp op t x y ty) (hP : E.P = P) (hx : Opd fr x = .pointer a) (hy : Opd fr y = .pointer b) (hv : evBin P op t x y (.pointer a) (.pointer b) = some r) : evOp E (Opd fr) nid g o = some ⟨r, [], []⟩ := by
  subst hP; unfold evOp; simp only [ho, hx, hy, hv, Option.map_some]
theorem ev_binL {op : BinOp} {t ty : TypeId} {x y : Operand} {a b : Option Addr} {n c m d : Nat} {r : Value} (ho : o.op = .binOp op t x y ty) (hP : E.P = P) (hx : Opd fr x = .slice a n c) (hy : Opd fr y = .slice b m d) (hv : evBin P op t x y (.slice a n c) (.slice b m d) = some r) : evOp E (Opd fr) nid g o = some ⟨r, [], []⟩ := by
  subst hP; unfold evOp; simp only [ho, hx, hy, hv, Option.map_some]
theorem ev_binA {op : BinOp} {t ty : TypeId} {x y : Operand} {a b : Array Value} {r : Value} (ho : o.op = .binOp op t x y ty) (hP : E.P = P) (hx : Opd fr x = .agg a) (hy : Opd fr y = .agg b) (hv : evBin P op t x y (.agg a) (.agg b) = some r) : evOp E (Opd fr) nid g o = some ⟨r, [], []⟩ := by
  subst hP; unfold evOp; simp only [ho, hx, hy, hv, Option.map_some]
end

theorem str_rules2 {P : Program} {t : TypeId} (ht : P.underlying t = some .string) (h1 : isPtr P t = false) (h2 : isSl P t = false) :
    (∀ xo yo x y, evBin P .eql t xo yo (.string x) (.string y) = some (.bool (x.toList == y.toList))) ∧
    (∀ xo yo x y, evBin P .neq t xo yo (.string x) (.string y) = some (.bool (!(x.toList == y.toList)))) ∧
    (∀ xo yo x y, x.size + y.size ≤ 9223372036854775807 → evBin P .add t xo yo (.string x) (.string y) = some (.string (x ++ y))) :=
  ⟨(str_rules ht h1 h2).1, (str_rules ht h1 h2).2.1, (str_rules ht h1 h2).2.2.1⟩
theorem str_ix {P : Program} {t : TypeId} (ht : P.underlying t = some .string) : ∀ s k i, 0 ≤ i → i < (s.size : Int) → evIndex P t (.string s) (.int k i) = some (.int .u8 (s[i.toNat]!).toNat) := fun s k i g0 g1 => by simp [evIndex, ht, g0, g1]
theorem str_len {P : Program} {t : TypeId} (ht : P.underlying t = some .string) : ∀ x, evLen P #[t] (.string x) = some (.int .i64 x.size) := fun x => by simp [evLen, ht]
theorem str_sl {P : Program} {t : TypeId} (ht : P.underlying t = some .string) (h1 : isPtr P t = false) (h2 : isSl P t = false) :
    (∀ (E : Env) g s (lo hi : Int) (_ : E.P = P), 0 ≤ lo → lo ≤ hi → hi ≤ s.size → evSlice E g t (.string s) (some (.int .i64 lo)) (some (.int .i64 hi)) none = some ⟨.string (s.extract lo.toNat hi.toNat), [], []⟩) ∧
    (∀ (E : Env) g s (lo : Int) (_ : E.P = P), 0 ≤ lo → lo ≤ s.size → evSlice E g t (.string s) (some (.int .i64 lo)) none none = some ⟨.string (s.extract lo.toNat s.size), [], []⟩) ∧
    (∀ (E : Env) g s (hi : Int) (_ : E.P = P), 0 ≤ hi → hi ≤ s.size → evSlice E g t (.string s) none (some (.int .i64 hi)) none = some ⟨.string (s.extract 0 hi.toNat), [], []⟩) :=
  (str_rules ht h1 h2).2.2.2.2.2
theorem slice_len {P : Program} {t e : TypeId} (ht : P.underlying t = some (.slice e)) : ∀ a m c, evLen P #[t] (.slice a m c) = some (.int .i64 (m : Nat)) := fun a m c => by simp [evLen, ht]
theorem slice_ia {P : Program} {t e : TypeId} {n : Nat} (ht : P.underlying t = some (.slice e)) (hn : sizeT P e = some n) : ∀ b o (m : Nat) c k i, 0 ≤ i → i < (m : Int) → evIndexAddr P t (.slice (some ⟨b, o, none⟩) m c) (.int k i) = some (.pointer (some ⟨b, o + i.toNat * n, none⟩)) := fun b o m c k i g0 g1 => by simp [evIndexAddr, ht, hn, g0, g1]
theorem slice_nil {P : Program} {t : TypeId} (h1 : isPtr P t = false) (h2 : isSl P t = true) : (∀ xo yo x y, evBin P .eql t xo yo x y = evNilS true x y) ∧ (∀ xo yo x y, evBin P .neq t xo yo x y = evNilS false x y) := by
  refine ⟨fun _ _ _ _ => ?_, fun _ _ _ _ => ?_⟩ <;> simp [evBin, h1, h2]
theorem array_len {P : Program} {t e : TypeId} {len : Nat} (ht : P.underlying t = some (.array len e)) : ∀ x, evLen P #[t] x = some (.int .i64 (len : Nat)) := fun x => by simp [evLen, ht]
theorem array_ia {P : Program} {t e : TypeId} {len n : Nat} (ht : P.underlying t = some (.array len e)) (hn : sizeT P e = some n) : ∀ b o k i, 0 ≤ i → i < (len : Int) → evIndexAddr P t (.pointer (some ⟨b, o, none⟩)) (.int k i) = some (.pointer (some ⟨b, o + i.toNat * n, none⟩)) := fun b o k i g0 g1 => by simp [evIndexAddr, ht, hn, g0, g1]
theorem cv_rule {P : Program} {s d : TypeId} {k k' : IntKind} (hs : P.underlying s = some (.int k)) (hd : P.underlying d = some (.int k')) : ∀ (E : Env) g nid a (_ : E.P = P), evConvert E g nid s d (.int k a) = some ⟨.int k' (k'.wrap a), [], []⟩ := fun E g nid a hE => conv_int (by rw [hE]; exact hs) (by rw [hE]; exact hd)
/-- make([]T, l, c) of one-cell elements. -/
theorem mk_rule {P : Program} {t e : TypeId} {z : Value} {by_ : Nat} (ht : elemT P t = some e) (hz : zeroCells? P e = some #[z]) (hs : sizeT P e = some 1) (hb : bytesT P e = some by_) : ∀ (E : Env) nid k k' l c (_ : E.P = P), 0 ≤ l → l ≤ c → (by_ : Int) * c ≤ 281474976710656 → c ≤ 9223372036854775807 →
    evMakeSlice E nid t (.int k l) (.int k' c) = some ⟨.slice (some ⟨nid, 0, none⟩) l.toNat c.toNat, [(nid, some (.cells (List.replicate c.toNat z) e true))], []⟩ := by
  intro E nid k k' l c hE h0 h1 h2 h3
  subst hE
  unfold evMakeSlice
  simp only [ht, hz]
  cases hi : E.P.info? e with
  | none => simp [sizeT, hi] at hs
  | some i =>
    have e3 : i.size = 1 := by simpa [sizeT, hi] using hs
    have e4 : i.bytes = by_ := by simpa [bytesT, hi] using hb
    simp only [e3, e4, List.size_toArray, List.length_cons, List.length_nil]
    rw [if_pos ⟨h0, h1, h3, h2, trivial, by omega⟩]
    simp [zeroRow]
theorem envAtP {P : Program} {pairs : FuncId → Nat → List (Nat × Nat)} {w : World} : (envAt P pairs w).P = P := rfl
theorem envNilP {P : Program} {pairs : FuncId → Nat → List (Nat × Nat)} : (envNil P pairs).P = P := rfl
theorem noFacts : (undef = undef) = True := by simp
theorem min_eq_l {a b : Int} (h : a ≤ b) : min a b = a := by omega
theorem min_eq_r {a b : Int} (h : b ≤ a) : min a b = b := by omega
theorem max_eq_l {a b : Int} (h : b ≤ a) : max a b = a := by omega
theorem max_eq_r {a b : Int} (h : a ≤ b) : max a b = b := by omega
theorem resR_four {E : Env} {fr : List Value} {σ : St} {s t u v : Nat} : resR E fr σ [.tmp s, .tmp t, .tmp u, .tmp v] = some (.tuple #[fr.getD s undef, fr.getD t undef, fr.getD u undef, fr.getD v undef]) := rfl
/-- So many zero bytes. -/
def zs (n : Nat) : ByteArray := ⟨(List.replicate n (0 : UInt8)).toArray⟩
theorem zs_size {n : Nat} : (zs n).size = n := by simp [zs, ByteArray.size]
theorem bytes_rep {n : Nat} : bytesOf? (List.take n (List.drop 0 (List.replicate n (Value.int .u8 0)))) = some (zs n) := by
  simp [bytesOf?, zs, isByte, byteV]
theorem ev_convBS {E : Env} {fr : List Value} {nid : Nat} {g : Nat → Option Blk} {o : Oper} {P : Program} {s d e : TypeId} {x : Operand} {b off n m : Nat} {c : List Value} {el : TypeId} {ex : Bool} {bs : ByteArray}
    (ho : o.op = .convert s d x) (hP : E.P = P) (hs : P.underlying s = some (.slice e)) (hd : P.underlying d = some .string) (he : P.underlying e = some (.int .u8)) (hx : Opd fr x = .slice (some ⟨b, off, none⟩) n m) (hb : ¬ b < E.old) (hg : g b = some (.cells c el ex))
    (hle : off + n ≤ c.length) (hl : bytesOf? ((c.drop off).take n) = some bs) : evOp E (Opd fr) nid g o = some ⟨.string bs, [], [b]⟩ := by
  subst hP; unfold evOp
  have : rd E g ⟨b, off, none⟩ n = some ((c.drop off).take n) := by
    simp only [rd, Option.isSome_none, hb, hg, if_false, Bool.false_eq_true]
    rw [if_pos hle]
  simp only [ho, hx]
  unfold evConvert
  simp only [hs, hd, he, this, hl, Option.map_some]
theorem ev_convBS0 {E : Env} {fr : List Value} {nid : Nat} {g : Nat → Option Blk} {o : Oper} {P : Program} {s d e : TypeId} {x : Operand} {n m : Nat}
    (ho : o.op = .convert s d x) (hP : E.P = P) (hs : P.underlying s = some (.slice e)) (hd : P.underlying d = some .string) (he : P.underlying e = some (.int .u8)) (hx : Opd fr x = .slice none n m) : evOp E (Opd fr) nid g o = some ⟨.string .empty, [], []⟩ := by
  subst hP; unfold evOp
  simp only [ho, hx]
  unfold evConvert
  simp only [hs, hd, he]
theorem ev_convSB {E : Env} {fr : List Value} {nid : Nat} {g : Nat → Option Blk} {o : Oper} {P : Program} {s d e : TypeId} {x : Operand} {bs : ByteArray} {l : List Value}
    (ho : o.op = .convert s d x) (hP : E.P = P) (hs : P.underlying s = some .string) (hd : P.underlying d = some (.slice e)) (he : P.underlying e = some (.int .u8)) (hz : sizeT P e = some 1) (hx : Opd fr x = .string bs) (hl : (bs.data.map fun b => Value.int .u8 b.toNat).toList = l) :
    evOp E (Opd fr) nid g o = some ⟨.slice (some ⟨nid, 0, none⟩) bs.size bs.size, [(nid, some (.cells l e false))], []⟩ := by
  subst hP hl; unfold evOp
  simp only [ho, hx]
  unfold evConvert
  simp only [hs, hd, he, hz, if_true]
/-- One result. -/
def resE (E : Env) (fr : List Value) (σ : St) : ResultVar → Option Value
  | .tmp t => some (fr.getD t undef)
  | .cell a t => (evLoad E σ.heap.get t (fr.getD a undef)).map fun e => e.val
theorem resV_nil {E : Env} {fr : List Value} {σ : St} : resV E fr σ [] = some [] := rfl
theorem resV_cons {E : Env} {fr : List Value} {σ : St} {r : ResultVar} {rs : List ResultVar} {v : Value} {l : List Value} (h1 : resE E fr σ r = some v) (h2 : resV E fr σ rs = some l) : resV E fr σ (r :: rs) = some (v :: l) := by
  cases r with
  | tmp t => simp only [resE, Option.some.injEq] at h1; subst h1; simp only [resV, h2, Option.map_some]
  | cell a t =>
    simp only [resE] at h1
    cases he : evLoad E σ.heap.get t (fr.getD a undef) with
    | none => rw [he] at h1; cases h1
    | some e => rw [he] at h1; simp only [Option.map_some, Option.some.injEq] at h1; subst h1; simp only [resV, he, h2]
theorem resR_1 {E : Env} {fr : List Value} {σ : St} {rs : List ResultVar} {v : Value} (h : resV E fr σ rs = some [v]) : resR E fr σ rs = some v := by simp only [resR, h]
theorem resR_m {E : Env} {fr : List Value} {σ : St} {rs : List ResultVar} {l : List Value} (h : resV E fr σ rs = some l) (hl : l.length ≠ 1) : resR E fr σ rs = some (.tuple l.toArray) := by
  simp only [resR, h]
  match l, hl with
  | [], _ => rfl
  | _ :: _ :: _, _ => rfl
theorem resE_tmp {E : Env} {fr : List Value} {σ : St} {t : Nat} {v : Value} (h : fr.getD t undef = v) : resE E fr σ (.tmp t) = some v := by subst h; rfl
theorem resE_c1 {E : Env} {fr : List Value} {h : T} {n : Nat} {P : Program} {a : Nat} {t : TypeId} {b off : Nat} {c : List Value} {el : TypeId} {ex : Bool} {v : Value} (hP : E.P = P) (ha : isAggT P t = some false) (hx : fr.getD a undef = .pointer (some ⟨b, off, none⟩)) (hb : ¬ b < E.old) (hg : h.get b = some (.cells c el ex)) (hv : c[off]? = some v) :
    resE E fr ⟨h, n⟩ (.cell a t) = some v := by
  have := ev_load1 (E := E) (fr := fr) (nid := 0) (g := h.get) (o := { dst := none, op := .load t (.tmp a), type := 0, pos := "", after := #[], guard := none }) rfl hP ha hx hb hg hv
  simp only [evOp, Opd] at this
  simp only [resE, this, Option.map_some]
theorem resE_cN {E : Env} {fr : List Value} {h : T} {n : Nat} {P : Program} {a : Nat} {t : TypeId} {b off k : Nat} {c l : List Value} {el : TypeId} {ex : Bool} (hP : E.P = P) (ha : isAggT P t = some true) (hx : fr.getD a undef = .pointer (some ⟨b, off, none⟩)) (hb : ¬ b < E.old) (hg : h.get b = some (.cells c el ex)) (hk : sizeT P t = some k) (hle : off + k ≤ c.length) (hl : (c.drop off).take k = l) :
    resE E fr ⟨h, n⟩ (.cell a t) = some (.agg l.toArray) := by
  have := ev_loadN (E := E) (fr := fr) (nid := 0) (g := h.get) (o := { dst := none, op := .load t (.tmp a), type := 0, pos := "", after := #[], guard := none }) rfl hP ha hx hb hg hk hle hl
  simp only [evOp, Opd] at this
  simp only [resE, this, Option.map_some]
theorem set5 {a0 a1 a2 a3 a4 v : Value} {l : List Value} {n : Nat} : (a0 :: a1 :: a2 :: a3 :: a4 :: l).set (n + 5) v = a0 :: a1 :: a2 :: a3 :: a4 :: l.set n v := by simp only [List.set_cons_succ]
theorem set16 {a0 a1 a2 a3 a4 a5 a6 a7 a8 a9 a10 a11 a12 a13 a14 a15 v : Value} {l : List Value} {n : Nat} : (a0 :: a1 :: a2 :: a3 :: a4 :: a5 :: a6 :: a7 :: a8 :: a9 :: a10 :: a11 :: a12 :: a13 :: a14 :: a15 :: l).set (n + 16) v = a0 :: a1 :: a2 :: a3 :: a4 :: a5 :: a6 :: a7 :: a8 :: a9 :: a10 :: a11 :: a12 :: a13 :: a14 :: a15 :: l.set n v := by simp only [List.set_cons_succ]
theorem set48 {a0 a1 a2 a3 a4 a5 a6 a7 a8 a9 a10 a11 a12 a13 a14 a15 a16 a17 a18 a19 a20 a21 a22 a23 a24 a25 a26 a27 a28 a29 a30 a31 a32 a33 a34 a35 a36 a37 a38 a39 a40 a41 a42 a43 a44 a45 a46 a47 v : Value} {l : List Value} {n : Nat} : (a0 :: a1 :: a2 :: a3 :: a4 :: a5 :: a6 :: a7 :: a8 :: a9 :: a10 :: a11 :: a12 :: a13 :: a14 :: a15 :: a16 :: a17 :: a18 :: a19 :: a20 :: a21 :: a22 :: a23 :: a24 :: a25 :: a26 :: a27 :: a28 :: a29 :: a30 :: a31 :: a32 :: a33 :: a34 :: a35 :: a36 :: a37 :: a38 :: a39 :: a40 :: a41 :: a42 :: a43 :: a44 :: a45 :: a46 :: a47 :: l).set (n + 48) v = a0 :: a1 :: a2 :: a3 :: a4 :: a5 :: a6 :: a7 :: a8 :: a9 :: a10 :: a11 :: a12 :: a13 :: a14 :: a15 :: a16 :: a17 :: a18 :: a19 :: a20 :: a21 :: a22 :: a23 :: a24 :: a25 :: a26 :: a27 :: a28 :: a29 :: a30 :: a31 :: a32 :: a33 :: a34 :: a35 :: a36 :: a37 :: a38 :: a39 :: a40 :: a41 :: a42 :: a43 :: a44 :: a45 :: a46 :: a47 :: l.set n v := by simp only [List.set_cons_succ]
theorem opd_tmp {fr : List Value} {t : Nat} {v : Value} (h : fr[t]? = some v) : Opd fr (.tmp t) = v := by simp [Opd, List.getD_eq_getElem?_getD, h]
theorem opd_const {fr : List Value} {v : Value} : Opd fr (.const v) = v := rfl
theorem opd_func {fr : List Value} {f : FuncId} : Opd fr (.func f) = .func (.func f) #[] #[] := rfl
theorem getD_of {fr : List Value} {t : Nat} {v : Value} (h : fr[t]? = some v) : fr.getD t undef = v := by simp [List.getD_eq_getElem?_getD, h]
theorem opds_nil {fr : List Value} : ([] : List Operand).map (Opd fr) = [] := rfl
theorem opds_cons {fr : List Value} {x : Operand} {l : List Operand} {v : Value} {vs : List Value} (h1 : Opd fr x = v) (h2 : l.map (Opd fr) = vs) : (x :: l).map (Opd fr) = v :: vs := by subst h1 h2; rfl
theorem put_set {fr fr' : List Value} {d : Tmp} {v : Value} (h : fr.set d v = fr') : put fr (some d) v = fr' := h
theorem put_none {fr : List Value} {v : Value} : put fr none v = fr := rfl
theorem callee_of {f : FuncId} {as : List Value} : callee? (.func (.func f) #[] #[]) as = some (f, as) := by simp [callee?]
theorem x_call2 {E : Env} {call : CallF} {fr : List Value} {h : T} {n : Nat} {ops : List Oper} {base i : Nat} {o : Oper} {rest : List Oper} {Q : List Rec → List Value → St → Prop} {f : Operand} {as : List Operand} {g : FuncId} {vs : List Value} {j : Nat} (hc : callOf o = some (f, as)) (hw : Region.wanted o (yieldA ops fr) = true) (hj : i + 1 = j)
    (hf : Opd fr f = .func (.func g) #[] #[]) (ha : as.map (Opd fr) = vs)
    (hx : WCall call g vs ⟨h, n⟩ fun v σ' => PutK fr o.dst v σ' fun fr1 σ1 => WXs E call ops base j rest fr1 σ1 fun rs fr2 σ2 => Q (.call ⟨h, n⟩ σ' :: rs) fr2 σ2) : WX E call ops base i (o :: rest) fr h n Q :=
  x_call hc hw hj (by rw [hf, ha]; exact callee_of) hx
theorem parts_nil {fr : List Value} : (([] : List (Nat × Operand)).map fun p => (p.1, Opd fr p.2)) = [] := rfl
theorem parts_cons {fr : List Value} {i : Nat} {x : Operand} {l : List (Nat × Operand)} {v : Value} {vs : List (Nat × Value)} (h1 : Opd fr x = v) (h2 : (l.map fun p => (p.1, Opd fr p.2)) = vs) : (((i, x) :: l).map fun p => (p.1, Opd fr p.2)) = (i, v) :: vs := by subst h1 h2; rfl
theorem ev_pick_t {E : Env} {fr : List Value} {nid : Nat} {g : Nat → Option Blk} {o : Oper} {c x y : Operand} {v : Value} (ho : o.op = .pick c x y) (hc : Opd fr c = .bool true) (hv : Opd fr x = v) : evOp E (Opd fr) nid g o = some ⟨v, [], []⟩ := ev_pick ho hc (by simpa using hv)
theorem ev_pick_f {E : Env} {fr : List Value} {nid : Nat} {g : Nat → Option Blk} {o : Oper} {c x y : Operand} {v : Value} (ho : o.op = .pick c x y) (hc : Opd fr c = .bool false) (hv : Opd fr y = v) : evOp E (Opd fr) nid g o = some ⟨v, [], []⟩ := ev_pick ho hc (by simpa using hv)
theorem om_none {fr : List Value} : (none : Option Operand).map (Opd fr) = none := rfl
theorem om_some {fr : List Value} {x : Operand} {v : Value} (h : Opd fr x = v) : (some x).map (Opd fr) = some v := by subst h; rfl
theorem opd_t {fr : List Value} {x : Operand} {t : Nat} {v : Value} (hx : x = .tmp t) (h : fr[t]? = some v) : Opd fr x = v := by subst hx; exact opd_tmp h
theorem opd_c {fr : List Value} {x : Operand} {v : Value} (hx : x = .const v) : Opd fr x = v := by subst hx; rfl
theorem opd_f {fr : List Value} {x : Operand} {f : FuncId} (hx : x = .func f) : Opd fr x = .func (.func f) #[] #[] := by subst hx; rfl
theorem put_s {fr fr' : List Value} {o : Option Tmp} {d : Tmp} {v : Value} (hd : o = some d) (h : fr.set d v = fr') : put fr o v = fr' := by subst hd; exact h
theorem put_n {fr : List Value} {o : Option Tmp} {v : Value} (hd : o = none) : put fr o v = fr := by subst hd; rfl
/-- The next operation of a region. -/
def WXC (E : Env) (call : CallF) (ops : List Oper) (base i : Nat) (o : Oper) (rest : List Oper) (fr : List Value) (h : T) (n : Nat) (Q : List Rec → List Value → St → Prop) : Prop := WX E call ops base i (o :: rest) fr h n Q
section
variable {E : Env} {call : CallF} {fr fr' : List Value} {h h' : T} {n : Nat} {ops : List Oper} {base i j : Nat} {o : Oper} {rest : List Oper} {Q : List Rec → List Value → St → Prop}
theorem x_cons (hx : WXC E call ops base i o rest fr h n Q) : WX E call ops base i (o :: rest) fr h n Q := hx
theorem c_op {e : Eff} {nid : Nat} (hc : callOf o = none) (hw : Region.wanted o (yieldA ops fr) = true) (hn : base + i = nid) (hj : i + 1 = j)
    (he : evOp E (Opd fr) nid h.get o = some e) (hf : put fr o.dst e.val = fr') (hh : upds h e.upd = h')
    (hx : WX E call ops base j rest fr' h' n fun rs fr1 σ => Q (.mem (fun g => evOp E (Opd fr) nid g o) e :: rs) fr1 σ) : WXC E call ops base i o rest fr h n Q := x_op hc hw hn hj he hf hh hx
theorem c_off (hw : Region.wanted o (yieldA ops fr) = false) (hj : i + 1 = j) (hf : put fr o.dst undef = fr')
    (hx : WX E call ops base j rest fr' h n fun rs fr1 σ => Q (.quiet :: rs) fr1 σ) : WXC E call ops base i o rest fr h n Q := x_off hw hj hf hx
theorem c_test {b : Bool} (hw : Region.wanted o (yieldA ops fr) = b)
    (h1 : b = true → Region.wanted o (yieldA ops fr) = true → WX E call ops base i (o :: rest) fr h n Q) (h2 : b = false → Region.wanted o (yieldA ops fr) = false → WX E call ops base i (o :: rest) fr h n Q) : WXC E call ops base i o rest fr h n Q := x_test hw h1 h2
theorem c_test_p {p : Prop} [Decidable p] (hw : Region.wanted o (yieldA ops fr) = decide p)
    (h1 : p → Region.wanted o (yieldA ops fr) = true → WX E call ops base i (o :: rest) fr h n Q) (h2 : ¬ p → Region.wanted o (yieldA ops fr) = false → WX E call ops base i (o :: rest) fr h n Q) : WXC E call ops base i o rest fr h n Q := x_test_p hw h1 h2
theorem c_call {f : Operand} {as : List Operand} {g : FuncId} {vs : List Value} (hc : callOf o = some (f, as)) (hw : Region.wanted o (yieldA ops fr) = true) (hj : i + 1 = j)
    (hf : Opd fr f = .func (.func g) #[] #[]) (ha : as.map (Opd fr) = vs)
    (hx : WCall call g vs ⟨h, n⟩ fun v σ' => PutK fr o.dst v σ' fun fr1 σ1 => WXs E call ops base j rest fr1 σ1 fun rs fr2 σ2 => Q (.call ⟨h, n⟩ σ' :: rs) fr2 σ2) : WXC E call ops base i o rest fr h n Q := x_call2 hc hw hj hf ha hx
end
/-! Guards: rules whose side conditions are only looked at where the goal is theirs. -/
def PutG (fr : List Value) (d : Option Tmp) (v : Value) (σ : St) (K : List Value → St → Prop) : Prop := PutK fr d v σ K
def CondG (E : Env) (call : CallF) (k : Nat) (fid : FuncId) (c : Operand) (x y : Code) (fr : List Value) (σ : St) (Q : Ex → List Value → St → Prop) : Prop := W E call k fid (.cond c x y) none fr σ Q
def RegG (E : Env) (call : CallF) (k : Nat) (fid : FuncId) (id : Nat) (ops : List Oper) (d : Bool) (fr : List Value) (h : T) (n : Nat) (Q : Ex → List Value → St → Prop) : Prop := W E call k fid (.region id ops.toArray d) none fr ⟨h, n⟩ Q
def FinG (E : Env) (fr : List Value) (σ : St) (rs : List ResultVar) (R : Value → Prop) : Prop := bindV (resR E fr σ rs) R
def CallG (g : FuncId) (E : Env) (t : Tbl) (k d : Nat) (args : List Value) (σ : St) (R : Value → St → Prop) : Prop := WCall (evFunT E t k d) g args σ R
section
variable {E : Env} {call : CallF} {k : Nat} {fid : FuncId} {fr fr' : List Value} {h h' : T} {n n' : Nat} {Q : Ex → List Value → St → Prop} {K : List Value → St → Prop} {σ : St} {R : Value → Prop} {rs : List ResultVar}
theorem g_put {d : Option Tmp} {v : Value} (hk : PutG fr d v σ K) : PutK fr d v σ K := hk
theorem gx_put {d : Option Tmp} {v : Value} (hf : put fr d v = fr') (hk : K fr' σ) : PutG fr d v σ K := x_put hf hk
theorem g_cond {c : Operand} {x y : Code} (hx : CondG E call k fid c x y fr σ Q) : W E call k fid (.cond c x y) none fr σ Q := hx
theorem gx_cond {c : Operand} {x y : Code} {b : Bool} (hc : Opd fr c = .bool b) (h1 : b = true → W E call k fid x none fr σ Q) (h2 : b = false → W E call k fid y none fr σ Q) : CondG E call k fid c x y fr σ Q := w_cond hc h1 h2
theorem g_reg {id : Nat} {ops : List Oper} {d : Bool} (hx : RegG E call k fid id ops d fr h n Q) : W E call k fid (.region id ops.toArray d) none fr ⟨h, n⟩ Q := hx
theorem gx_reg {id : Nat} {ops : List Oper} {d : Bool} (hp : E.pairs fid id = []) (hl : n + ops.length = n') (hx : WX E call ops n 0 ops fr h n' fun _ fr σ => Q .normal fr σ) : RegG E call k fid id ops d fr h n Q := x_region hp hl hx
theorem gx_regp {id : Nat} {ops : List Oper} {d : Bool} (ps : List (Nat × Nat)) (hp : E.pairs fid id = ps) (hl : n + ops.length = n') (hx : WX E call ops n 0 ops fr h n' fun rs fr σ => pairsOk rs ps = true ∧ Q .normal fr σ) : RegG E call k fid id ops d fr h n Q := x_region_pairs ps hp hl hx
theorem g_fin_r (hx : FinG E fr σ rs R) : (Ex.ret = .normal ∨ Ex.ret = .ret) ∧ bindV (resR E fr σ rs) R := ⟨.inr rfl, hx⟩
theorem g_fin_n (hx : FinG E fr σ rs R) : (Ex.normal = .normal ∨ Ex.normal = .ret) ∧ bindV (resR E fr σ rs) R := ⟨.inl rfl, hx⟩
theorem gx_fin {v : Value} (hr : resR E fr σ rs = some v) (hk : R v) : FinG E fr σ rs R := ⟨v, hr, hk⟩
theorem g_call (g : FuncId) {t : Tbl} {k d : Nat} {args : List Value} {R : Value → St → Prop} (hx : CallG g E t k d args σ R) : WCall (evFunT E t k d) g args σ R := hx
theorem gx_tbl {t : Tbl} {k d : Nat} {f : FuncId} {s : List Value → Option Value} {args : List Value} {v : Value} {R : Value → St → Prop}
    (hcall : WCall (evFunT E t k d) f args σ R = bindV (s args) fun v => R v σ) (hv : s args = some v) (hk : R v σ) : CallG f E t k d args σ R := x_tbl hcall hv hk
theorem gx_fun {t : Tbl} {d : Nat} {f : FuncId} {fn : Func} {c : Code} {args : List Value} {R : Value → St → Prop} (m : Nat) (rs : List ResultVar) (ht : hasT t f = false) (hfn : E.P.funcs[f]? = some fn) (hb : fn.body = some c) (hn : fn.ntmps = m) (hr : fn.results.toList = rs)
    (hf : args ++ List.replicate (m - args.length) undef = fr)
    (hx : W E (evFunT E t k d) k f c none fr σ fun e fr σ => (e = .normal ∨ e = .ret) ∧ bindV (resR E fr σ rs) fun v => R v σ) :
    CallG f E t k (d + 1) args σ R := x_fun m rs ht hfn hb hn hr hf hx
end
theorem sb_t {b : Bool} : (some b == some true) = b := by cases b <;> rfl
theorem sb_f {b : Bool} : (some b == some false) = !b := by cases b <;> rfl
theorem c_test_np {E : Env} {call : CallF} {fr : List Value} {h : T} {n : Nat} {ops : List Oper} {base i : Nat} {o : Oper} {rest : List Oper} {Q : List Rec → List Value → St → Prop} {p : Prop} [Decidable p] (hw : Region.wanted o (yieldA ops fr) = !decide p)
    (h1 : ¬ p → Region.wanted o (yieldA ops fr) = true → WX E call ops base i (o :: rest) fr h n Q) (h2 : p → Region.wanted o (yieldA ops fr) = false → WX E call ops base i (o :: rest) fr h n Q) : WXC E call ops base i o rest fr h n Q := by
  by_cases hp : p
  · exact c_test (b := false) (by rw [hw]; simp [hp]) (fun h => by cases h) (fun _ => h2 hp)
  · exact c_test (b := true) (by rw [hw]; simp [hp]) (fun _ => h1 hp) (fun h => by cases h)
theorem ev_pick_t2 {E : Env} {fr : List Value} {nid : Nat} {g : Nat → Option Blk} {o : Oper} {c x y : Operand} {b : Bool} {v : Value} (ho : o.op = .pick c x y) (hc : Opd fr c = .bool b) (hb : b = true) (hv : Opd fr x = v) : evOp E (Opd fr) nid g o = some ⟨v, [], []⟩ := by subst hb; exact ev_pick_t ho hc hv
theorem ev_pick_f2 {E : Env} {fr : List Value} {nid : Nat} {g : Nat → Option Blk} {o : Oper} {c x y : Operand} {b : Bool} {v : Value} (ho : o.op = .pick c x y) (hc : Opd fr c = .bool b) (hb : b = false) (hv : Opd fr y = v) : evOp E (Opd fr) nid g o = some ⟨v, [], []⟩ := by subst hb; exact ev_pick_f ho hc hv
/-! Pairs of operations that are to be independent. -/
theorem pairs_nil {rs : List Rec} : pairsOk rs [] = true := rfl
theorem pairs_cons {rs : List Rec} {i j : Nat} {r : List (Nat × Nat)} {x y : Rec} (hi : rs[i]? = some x) (hj : rs[j]? = some y) (hxy : indep x y = true) (hr : pairsOk rs r = true) : pairsOk rs ((i, j) :: r) = true := by
  simp only [pairsOk, hi, hj, hxy, hr, Bool.and_self]
theorem ind_q1 {y : Rec} : indep .quiet y = true := by cases y <;> rfl
theorem ind_q2 {x : Rec} : indep x .quiet = true := by cases x <;> rfl
theorem ind_mm {f f' : (Nat → Option Blk) → Option Eff} {e e' : Eff} (h1 : disj (e.upd.map (·.1)) (e'.rds ++ e'.upd.map (·.1)) = true) (h2 : disj (e'.upd.map (·.1)) e.rds = true) : indep (.mem f e) (.mem f' e') = true := by
  simp only [indep, h1, h2, Bool.and_self]
theorem effSame_self {e : Eff} (hu : e.upd = []) (hv : beqV e.val e.val = true) : effSame e (some e) = true := by
  simp [effSame, hu, hv]
theorem ind_cm {b a : St} {f : (Nat → Option Blk) → Option Eff} {e : Eff} (hu : e.upd = []) (hv : beqV e.val e.val = true) (h1 : f b.heap.get = some e) (h2 : f a.heap.get = some e) : indep (.call b a) (.mem f e) = true := by
  simp only [indep, h1, h2, effSame_self hu hv, hu, List.isEmpty_nil, Bool.and_self, Bool.or_true]
theorem ind_ca {b a : St} {f : (Nat → Option Blk) → Option Eff} {v : Value} {k : Nat} {x : Blk} : indep (.call b a) (.mem f ⟨v, [(k, some x)], []⟩) = true := by
  simp only [indep, allocOnly, List.isEmpty_nil, Bool.and_self, Bool.true_or]
theorem ind_mc {b a : St} {f : (Nat → Option Blk) → Option Eff} {e : Eff} (hu : e.upd = []) (hv : beqV e.val e.val = true) (h1 : f b.heap.get = some e) (h2 : f a.heap.get = some e) : indep (.mem f e) (.call b a) = true := by
  simp only [indep, h1, h2, effSame_self hu hv, hu, List.isEmpty_nil, Bool.and_self]
end Go.Ab
