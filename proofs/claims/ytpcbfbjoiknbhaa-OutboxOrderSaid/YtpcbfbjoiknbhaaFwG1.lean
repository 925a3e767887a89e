/- A part of the framework: an abstract evaluator of the model's code and its soundness. -/
import Derived.Orders
import Derived.Scope
import Derived.LoopN
import Derived.Below
import Derived.Laws.Tables
import Derived.KernelRfl
import Derived.Laws.CopyRow
import Derived.Laws.Append
import Derived.Laws.AppendOwn
import Derived.Laws.Sem
import Derived.Laws.World
import Derived.Laws.Entries
import Derived.Great.BuildSlice
import Derived.Lib.ConvBytes
import Derived.Laws.BytesString
import Derived.IntWalk
import Derived.Lib.AppendZerosOnto
import Derived.MapKept
/- An abstract evaluator of the model's code (deterministic, over a small abstract heap): definitions. -/
set_option linter.all false
namespace Go.Ab

/-- A block of the abstract heap: its cells, their type, whether the concrete block bears no cell beyond them. -/
inductive Blk where
  | cells (c : List Value) (elem : TypeId) (ex : Bool)
  /-- A map with whole numbers for keys: its entries (key, value, when it was made), its clock. -/
  | mp (kd : IntKind) (es : List (Int × Value × Nat)) (clock : Nat)
  /-- Bytes that strings may share: what is known of them, the type. -/
  | froz (c : List Value) (elem : TypeId)

/-- A finite map from numbers to blocks. -/
inductive T where
  | leaf
  | node (v : Option Blk) (l r : T)

def T.get : T → Nat → Option Blk
  | .leaf, _ => none
  | .node v l r, n => if n = 0 then v else if n % 2 = 1 then l.get (n / 2) else r.get (n / 2 - 1)

def T.setF : Nat → T → Nat → Option Blk → T
  | 0, t, _, _ => t
  | k + 1, .leaf, n, x =>
    if n = 0 then .node x .leaf .leaf else if n % 2 = 1 then .node none (T.setF k .leaf (n / 2) x) .leaf else .node none .leaf (T.setF k .leaf (n / 2 - 1) x)
  | k + 1, .node v l r, n, x =>
    if n = 0 then .node x l r else if n % 2 = 1 then .node v (T.setF k l (n / 2) x) r else .node v l (T.setF k r (n / 2 - 1) x)

def T.set (t : T) (n : Nat) (x : Option Blk) : T := T.setF (n + 1) t n x

theorem T.get_setF : ∀ (k : Nat) (t : T) (n m : Nat) (x : Option Blk), n < k → (T.setF k t n x).get m = if m = n then x else t.get m := by
  intro k
  induction k with
  | zero => intro t n m x h; omega
  | succ k ih =>
    intro t n m x h
    cases t with
    | leaf =>
      simp only [T.setF]
      by_cases h0 : n = 0
      · subst h0
        by_cases hm : m = 0
        · simp [T.get, hm]
        · simp [T.get, hm]
      · rw [if_neg h0]
        by_cases h1 : n % 2 = 1
        · rw [if_pos h1]
          by_cases hm : m = 0
          · subst hm; simp [T.get, Ne.symm h0]
          · by_cases hm1 : m % 2 = 1
            · simp only [T.get, hm, hm1, if_false, if_true]
              rw [ih _ _ _ _ (by omega)]
              by_cases e : m = n
              · subst e; simp
              · rw [if_neg e, if_neg (by omega)]; simp [T.get]
            · simp only [T.get, hm, hm1, if_false]
              rw [if_neg (by intro e; subst e; exact hm1 h1)]
        · rw [if_neg h1]
          by_cases hm : m = 0
          · subst hm; simp [T.get, Ne.symm h0]
          · by_cases hm1 : m % 2 = 1
            · simp only [T.get, hm, hm1, if_false, if_true]
              rw [if_neg (by intro e; subst e; exact h1 hm1)]
            · simp only [T.get, hm, hm1, if_false]
              rw [ih _ _ _ _ (by omega)]
              by_cases e : m = n
              · subst e; simp
              · rw [if_neg e, if_neg (by omega)]; simp [T.get]
    | node v l r =>
      simp only [T.setF]
      by_cases h0 : n = 0
      · subst h0
        by_cases hm : m = 0
        · simp [T.get, hm]
        · simp [T.get, hm]
      · rw [if_neg h0]
        by_cases h1 : n % 2 = 1
        · rw [if_pos h1]
          by_cases hm : m = 0
          · subst hm; simp [T.get, Ne.symm h0]
          · by_cases hm1 : m % 2 = 1
            · simp only [T.get, hm, hm1, if_false, if_true]
              rw [ih _ _ _ _ (by omega)]
              by_cases e : m = n
              · subst e; simp
              · rw [if_neg e, if_neg (by omega)]
            · simp only [T.get, hm, hm1, if_false]
              rw [if_neg (by intro e; subst e; exact hm1 h1)]
        · rw [if_neg h1]
          by_cases hm : m = 0
          · subst hm; simp [T.get, Ne.symm h0]
          · by_cases hm1 : m % 2 = 1
            · simp only [T.get, hm, hm1, if_false, if_true]
              rw [if_neg (by intro e; subst e; exact h1 hm1)]
            · simp only [T.get, hm, hm1, if_false]
              rw [ih _ _ _ _ (by omega)]
              by_cases e : m = n
              · subst e; simp
              · rw [if_neg e, if_neg (by omega)]

theorem T.get_set (t : T) (n m : Nat) (x : Option Blk) : (t.set n x).get m = if m = n then x else t.get m := T.get_setF _ _ _ _ _ (Nat.lt_succ_self n)
theorem T.get_set_self (t : T) (n : Nat) (x : Option Blk) : (t.set n x).get n = x := by rw [T.get_set, if_pos rfl]
theorem T.get_set_ne (t : T) (n m : Nat) (x : Option Blk) (h : m ≠ n) : (t.set n x).get m = t.get m := by rw [T.get_set, if_neg h]

theorem T.setF_fuel : ∀ (k k' : Nat) (t : T) (n : Nat) (x : Option Blk), n < k → n < k' → T.setF k t n x = T.setF k' t n x := by
  intro k
  induction k with
  | zero => intro k' t n x h; omega
  | succ k ih =>
    intro k' t n x h h'
    obtain ⟨k', rfl⟩ : ∃ m, k' = m + 1 := ⟨k' - 1, by omega⟩
    cases t <;> simp only [T.setF] <;> by_cases h0 : n = 0
    · simp [h0]
    · by_cases h1 : n % 2 = 1
      · simp only [h0, h1, if_false, if_true]; rw [ih k' _ _ _ (by omega) (by omega)]
      · simp only [h0, h1, if_false]; rw [ih k' _ _ _ (by omega) (by omega)]
    · simp [h0]
    · by_cases h1 : n % 2 = 1
      · simp only [h0, h1, if_false, if_true]; rw [ih k' _ _ _ (by omega) (by omega)]
      · simp only [h0, h1, if_false]; rw [ih k' _ _ _ (by omega) (by omega)]

theorem T.setF_comm : ∀ (k : Nat) (t : T) (n m : Nat) (x y : Option Blk), n < k → m < k → n ≠ m →
    T.setF k (T.setF k t n x) m y = T.setF k (T.setF k t m y) n x := by
  intro k
  induction k with
  | zero => intro t n m x y h; omega
  | succ k ih =>
    intro t n m x y hn hm hne
    rcases Nat.eq_zero_or_pos n with h0 | h0 <;> rcases Nat.eq_zero_or_pos m with g0 | g0
    · omega
    · subst h0
      have g0' : m ≠ 0 := by omega
      by_cases g1 : m % 2 = 1 <;> cases t <;> simp [T.setF, g0', g1]
    · subst g0
      have h0' : n ≠ 0 := by omega
      by_cases h1 : n % 2 = 1 <;> cases t <;> simp [T.setF, h0', h1]
    · have h0' : n ≠ 0 := by omega
      have g0' : m ≠ 0 := by omega
      by_cases h1 : n % 2 = 1 <;> by_cases g1 : m % 2 = 1 <;> cases t <;> simp only [T.setF, h0', g0', h1, g1, if_false, if_true]
      · rw [ih _ _ _ _ _ (by omega) (by omega) (by omega)]
      · rw [ih _ _ _ _ _ (by omega) (by omega) (by omega)]
      · rw [ih _ _ _ _ _ (by omega) (by omega) (by omega)]
      · rw [ih _ _ _ _ _ (by omega) (by omega) (by omega)]

theorem T.set_comm (t : T) (n m : Nat) (x y : Option Blk) (h : n ≠ m) : (t.set n x).set m y = (t.set m y).set n x := by
  unfold T.set
  rw [T.setF_fuel (n + 1) (n + m + 1) _ _ _ (by omega) (by omega), T.setF_fuel (m + 1) (n + m + 1) _ _ _ (by omega) (by omega),
    T.setF_fuel (m + 1) (n + m + 1) _ _ _ (by omega) (by omega), T.setF_fuel (n + 1) (n + m + 1) _ _ _ (by omega) (by omega)]
  exact T.setF_comm _ _ _ _ _ _ (by omega) (by omega) h

structure St where
  heap : T
  next : Nat

def upds (t : T) : List (Nat × Option Blk) → T
  | [] => t
  | (n, x) :: r => upds (t.set n x) r

/-- What an operation does: its value, the blocks that it writes, those that it reads. -/
structure Eff where
  val : Value
  upd : List (Nat × Option Blk)
  rds : List Nat

/-- The fixed part: the program; the numbers below 'old' are blocks that were there, read by 'base'; contracts of functions; the pairs of operations of a region that are to be looked at while it runs. -/
structure Env where
  P : Program
  old : Nat
  base : Addr → Option Value
  sum : FuncId → List Value → St → Option (Value × St)
  pairs : FuncId → Nat → List (Nat × Nat)

def pureRun {α : Type} (P : Program) : Sem α → Option α
  | .pure a => some a
  | .program k => pureRun P (k P)
  | _ => none

/-- One cell, and no number of a block in it. -/
def flatS : Value → Bool
  | .bool _ | .int _ _ | .float _ _ | .complex _ _ _ | .string _ | .nilFunc | .nilIface => true
  | .pointer none => true
  | .slice none 0 0 => true
  | .map none => true
  | _ => false

def pureV (P : Program) (s : Sem Value) : Option Value :=
  match pureRun P s with
  | some v => if flatS v then some v else none
  | none => none

def scalar : Value → Bool
  | .agg cs => cs.toList.all flatS
  | v => flatS v

def oneCell : Value → Bool
  | .agg _ | .tuple _ => false
  | _ => true

/-- A value of old memory: its numbers are of old blocks. -/
def oldV (old : Nat) : Value → Bool
  | .pointer (some a) => decide (a.block < old) && a.spot.isNone
  | .slice (some a) _ _ => decide (a.block < old) && a.spot.isNone
  | v => flatS v

def rdOld (E : Env) (b : Nat) (off : Nat) : Nat → Option (List Value)
  | 0 => some []
  | n + 1 =>
    match E.base ⟨b, off, none⟩ with
    | some v => if oldV E.old v then (match rdOld E b (off + 1) n with | some l => some (v :: l) | none => none) else none
    | none => none

/-- n cells from an address on. -/
def rd (E : Env) (g : Nat → Option Blk) (a : Addr) (n : Nat) : Option (List Value) :=
  if a.spot.isSome then none else
  if a.block < E.old then rdOld E a.block a.off n else
  match g a.block with
  | some (.cells c _ _) => if a.off + n ≤ c.length then some ((c.drop a.off).take n) else none
  | _ => none

def wrList (c : List Value) (off : Nat) (vs : List Value) : List Value := c.take off ++ (vs ++ c.drop (off + vs.length))

/-- Cells written from an address on. -/
def wr (E : Env) (g : Nat → Option Blk) (a : Addr) (vs : List Value) : Option (Nat × Option Blk) :=
  if a.spot.isSome || decide (a.block < E.old) || !vs.all oneCell then none else
  match g a.block with
  | some (.cells c e x) => if a.off + vs.length ≤ c.length then some (a.block, some (.cells (wrList c a.off vs) e x)) else none
  | _ => none

def isAggT (P : Program) (t : TypeId) : Option Bool :=
  match P.underlying t with
  | some (.struct _) | some (.array _ _) => some true
  | some _ => some false
  | none => none

def sizeT (P : Program) (t : TypeId) : Option Nat := (P.info? t).map (·.size)

def evLoad (E : Env) (g : Nat → Option Blk) (t : TypeId) (x : Value) : Option Eff :=
  match x with
  | .pointer (some a) =>
    match isAggT E.P t with
    | some true =>
      match sizeT E.P t with
      | some n => match rd E g a n with
        | some l => some ⟨.agg l.toArray, [], [a.block]⟩
        | none => none
      | none => none
    | some false => match rd E g a 1 with
      | some [v] => some ⟨v, [], [a.block]⟩
      | _ => none
    | none => none
  | _ => none

def evStore (E : Env) (g : Nat → Option Blk) (t : TypeId) (x v : Value) : Option Eff :=
  match x with
  | .pointer (some a) =>
    if sizeT E.P t = some v.cells.size then
      match wr E g a v.cells.toList with
      | some u => some ⟨.tuple #[], [u], [a.block]⟩
      | none => none
    else none
  | _ => none

def zeroCells? (P : Program) (t : TypeId) : Option (Array Value) :=
  match (P.info? t).bind (·.zero) with
  | some v => if scalar v then some v.cells else none
  | none => none

def evBuild (P : Program) (t : TypeId) (parts : List (Nat × Value)) : Option Value :=
  match zeroCells? P t with
  | some _ => (P.built t parts).map .agg
  | none => none

def zeroRow (z : Array Value) (n : Nat) : List Value :=
  if z.size = 1 then List.replicate n (z.getD 0 default) else (List.range n).map fun i => z[i % z.size]!

def elemT (P : Program) (t : TypeId) : Option TypeId :=
  match P.underlying t with
  | some (.slice e) => some e
  | _ => none

def evBuildSlice (P : Program) (nid : Nat) (t : TypeId) (len : Nat) (parts : List (Nat × Value)) : Option Eff :=
  match elemT P t with
  | some e => match sizeT P e, zeroCells? P e with
    | some size, some z =>
      if len * size ≤ 2 ^ 24 ∧ 0 < z.size then
        match Instr.fill (fun i => some (i * size, size)) (zeroRow z (len * size)).toArray parts with
        | some cs => some ⟨.slice (some ⟨nid, 0, none⟩) len len, [(nid, some (.cells cs.toList e true))], []⟩
        | none => none
      else none
    | _, _ => none
  | none => none

def evField (P : Program) (t : TypeId) (x : Value) (i : Nat) : Option Value :=
  match P.underlying t, x with
  | some (.struct fields), .agg cs =>
    match fields[i]? with
    | some f => match isAggT P f.type with
      | some true => match sizeT P f.type with
        | some n => some (.agg (cs.extract f.offset (f.offset + n)))
        | none => none
      | some false => cs[f.offset]?
      | none => none
    | none => none
  | _, _ => none

def evFieldAddr (P : Program) (t : TypeId) (x : Value) (i : Nat) : Option Value :=
  match P.underlying t, x with
  | some (.struct fields), .pointer (some a) =>
    match fields[i]? with
    | some f => match sizeT P f.type with
      | some n => if n = 0 ∨ a.spot.isSome then none else some (.pointer (some ⟨a.block, a.off + f.offset, none⟩))
      | none => none
    | none => none
  | _, _ => none

def evIndexAddr (P : Program) (t : TypeId) (x ix : Value) : Option Value :=
  match P.underlying t, x, ix with
  | some (.array len e), .pointer (some a), .int _ i =>
    match sizeT P e with
    | some n => if 0 ≤ i ∧ i < len ∧ a.spot.isNone then some (.pointer (some ⟨a.block, a.off + i.toNat * n, none⟩)) else none
    | none => none
  | some (.slice e), .slice (some a) len _, .int _ i =>
    match sizeT P e with
    | some n => if 0 ≤ i ∧ i < len ∧ a.spot.isNone then some (.pointer (some ⟨a.block, a.off + i.toNat * n, none⟩)) else none
    | none => none
  | _, _, _ => none

def evIndex (P : Program) (t : TypeId) (x ix : Value) : Option Value :=
  match P.underlying t, x, ix with
  | some (.array len e), .agg cs, .int _ i =>
    match sizeT P e, isAggT P e with
    | some n, some true => if 0 ≤ i ∧ i < len then some (.agg (cs.extract (i.toNat * n) (i.toNat * n + n))) else none
    | some n, some false => if 0 ≤ i ∧ i < len then cs[i.toNat * n]? else none
    | _, _ => none
  | some .string, .string s, .int _ i => if 0 ≤ i ∧ i < s.size then some (.int .u8 (s[i.toNat]!).toNat) else none
  | _, _, _ => none

def bound? (x : Option Value) (d y : Nat) : Option Nat :=
  match x with
  | none => some d
  | some (.int _ i) => if 0 ≤ i ∧ i ≤ y then some i.toNat else none
  | _ => none

/-- Does a slice reach to the end of a block that may bear more cells than are known? -/
def opens (E : Env) (g : Nat → Option Blk) (a : Addr) (cap : Nat) (el : TypeId) (size : Nat) : Option Bool :=
  if a.block < E.old then some false else
  match g a.block with
  | some (.cells c e x) => if x then some false else if e = el then some (decide (a.off + cap * size = c.length)) else none
  | _ => none

def szOk (E : Env) (g : Nat → Option Blk) (a : Addr) (n : Nat) : Bool :=
  if a.block < E.old then true else
  match g a.block with
  | some (.cells _ e x) => x || decide (sizeT E.P e = some n)
  | _ => false

def evSlice (E : Env) (g : Nat → Option Blk) (t : TypeId) (x : Value) (lo hi mx : Option Value) : Option Eff :=
  match E.P.underlying t, x with
  | some .string, .string s =>
    match mx, bound? hi s.size s.size with
    | none, some h => match bound? lo 0 h with
      | some l => some ⟨.string (s.extract l h), [], []⟩
      | none => none
    | _, _ => none
  | some (.slice e), .slice none 0 0 =>
    match mx, bound? hi 0 0, bound? lo 0 0 with
    | none, some _, some _ => match sizeT E.P e with
      | some _ => some ⟨.slice none 0 0, [], []⟩
      | none => none
    | some m, some _, some _ => match hi, bound? (some m) 0 0, sizeT E.P e with
      | some _, some _, some _ => some ⟨.slice none 0 0, [], []⟩
      | _, _, _ => none
    | _, _, _ => none
  | some (.slice e), .slice (some a) len cap =>
    match sizeT E.P e, mx with
    | some n, none =>
      if szOk E g a n = true ∧ len ≤ cap then
        match bound? hi len cap with
        | some h => match bound? lo 0 h with
          | some l => some ⟨.slice (some ⟨a.block, a.off + l * n, none⟩) (h - l) (cap - l), [], [a.block]⟩
          | none => none
        | none => none
      else none
    | some n, some m =>
      if szOk E g a n = true ∧ len ≤ cap then
        match hi, bound? (some m) 0 cap with
        | some hi, some m => match bound? (some hi) 0 m with
          | some h => match bound? lo 0 h with
            | some l => some ⟨.slice (some ⟨a.block, a.off + l * n, none⟩) (h - l) (m - l), [], [a.block]⟩
            | none => none
          | none => none
        | _, _ => none
      else none
    | none, _ => none
  | some (.array n e), .pointer (some a) =>
    match sizeT E.P e, mx, bound? hi n n with
    | some z, none, some h => match bound? lo 0 h with
      | some l => some ⟨.slice (some ⟨a.block, a.off + l * z, none⟩) (h - l) (n - l), [], []⟩
      | none => none
    | _, _, _ => none
  | _, _ => none

def rdRow (E : Env) (g : Nat → Option Blk) (size n : Nat) : Value → Option (List Value)
  | .slice none _ _ => if n = 0 then some [] else none
  | .slice (some a) len _ => if n = 0 then some [] else if n ≤ len then rd E g a (n * size) else none
  | .string s => if n ≤ s.size then some (((s.extract 0 n).data.map fun b => Value.int .u8 b.toNat).toList) else none
  | _ => none

def lenV : Value → Option Nat
  | .slice none 0 _ => some 0
  | .slice (some _) n _ => some n
  | .string s => some s.size
  | _ => none

def blkOf : Value → List Nat
  | .slice (some a) _ _ => [a.block]
  | _ => []

def isSlStr : TypeDesc → Bool
  | .slice _ | .string => true
  | _ => false

def strOk : Value → Nat → Bool
  | .string _, s => s == 1
  | _, _ => true

/-- append of so many zero values to a slice that has no room for them and is known to the end. -/
def evAppendZ (E : Env) (g : Nat → Option Blk) (nid : Nat) (e : TypeId) (u : TypeDesc) (s x : Value) : Option Eff :=
  match u, s, x with
  | .int _, .slice (some a) sLen sCap, .int _ q =>
    match E.P.info? e, zeroCells? E.P e with
    | some i, some z =>
      if i.size = 0 ∨ z.size ≠ i.size ∨ q ≤ 0 ∨ sLen + q.toNat ≤ sCap ∨ 140737488355328 < (sLen + q.toNat) * i.bytes ∨ 9223372036854775807 < sLen + q.toNat then none else
      match rdRow E g i.size sLen s, opens E g a sCap e i.size with
      | some old, some false => some ⟨.slice (some ⟨nid, 0, none⟩) (sLen + q.toNat) (sLen + q.toNat), [(nid, some (.cells (old ++ zeroRow z (q.toNat * i.size)) e false))], [a.block]⟩
      | _, _ => none
    | _, _ => none
  | _, _, _ => none

def evCap (E : Env) (g : Nat → Option Blk) (ts : Array TypeId) (x : Value) : Option Eff :=
  match (ts[0]?).bind (elemT E.P), x with
  | some _, .slice none 0 0 => some ⟨.int .i64 0, [], []⟩
  | some e, .slice (some a) _ c =>
    match sizeT E.P e with
    | some sz => match opens E g a c e sz with
      | some false => some ⟨.int .i64 c, [], [a.block]⟩
      | _ => none
    | none => none
  | _, _ => none

/-- 'append(s, x...)'. A slice that may have room that nobody knows of is used up: its block is struck. -/
def evAppend (E : Env) (g : Nat → Option Blk) (nid : Nat) (ts : Array TypeId) (s x : Value) : Option Eff :=
  match (ts[0]?).bind (elemT E.P), ((ts[1]?).bind fun u => E.P.underlying u) with
  | some e, some u =>
    if !isSlStr u then evAppendZ E g nid e u s x else
    match E.P.info? e, zeroCells? E.P e, lenV x with
    | some i, some z, some n =>
      if i.size = 0 ∨ z.size ≠ i.size ∨ strOk x i.size = false then none else
      match s, rdRow E g i.size n x with
      | .slice base sLen sCap, some new =>
        if (sLen + n) ≤ sCap then
          if n = 0 then some ⟨.slice base (sLen + n) sCap, [], blkOf x⟩ else
          match base with
          | some a =>
            if a.spot.isSome then none else
            match wr E g ⟨a.block, a.off + sLen * i.size, none⟩ new with
            | some w => some ⟨.slice base (sLen + n) sCap, [w], a.block :: blkOf x⟩
            | none => none
          | none => none
        else
          if (sLen + n) * i.bytes ≤ 140737488355328 ∧ (sLen + n) ≤ 9223372036854775807 then
            match base with
            | none =>
              if sLen = 0 ∧ sCap = 0 then some ⟨.slice (some ⟨nid, 0, none⟩) (sLen + n) (sLen + n), [(nid, some (.cells new e false))], blkOf x⟩ else none
            | some a =>
              match rdRow E g i.size sLen s, opens E g a sCap e i.size with
              | some old, some true => if new.all oneCell = false then none else some ⟨.slice (some ⟨nid, 0, none⟩) (sLen + n) (sLen + n), [(a.block, none), (nid, some (.cells (old ++ new) e false))], a.block :: blkOf x⟩
              | some old, some false => some ⟨.slice (some ⟨nid, 0, none⟩) (sLen + n) (sLen + n), [(nid, some (.cells (old ++ new) e false))], a.block :: blkOf x⟩
              | _, _ => none
          else none
      | _, _ => none
    | _, _, _ => none
  | _, _ => none

def evCopy (E : Env) (g : Nat → Option Blk) (ts : Array TypeId) (d x : Value) : Option Eff :=
  match (ts[0]?).bind (elemT E.P) with
  | some e =>
    match sizeT E.P e, d, lenV x with
    | some size, .slice base dLen _, some xl =>
      match rdRow E g size (Nat.min xl dLen) x with
      | some l =>
        if Nat.min xl dLen = 0 then some ⟨.int .i64 0, [], blkOf x⟩ else
        match base with
        | some a => match wr E g a l with
          | some w => some ⟨.int .i64 (Nat.min xl dLen : Nat), [w], a.block :: blkOf x⟩
          | none => none
        | none => none
      | none => none
    | _, _, _ => none
  | none => none

def evClear (E : Env) (g : Nat → Option Blk) (ts : Array TypeId) (d : Value) : Option Eff :=
  match (ts[0]?).bind (elemT E.P), d with
  | some _, .slice none _ _ => some ⟨.tuple #[], [], []⟩
  | some e, .slice (some a) n _ =>
    if n = 0 then some ⟨.tuple #[], [], []⟩ else
    match sizeT E.P e, zeroCells? E.P e with
    | some size, some z =>
      if z.size = size ∧ size ≠ 0 then
        match wr E g a (zeroRow z (n * z.size)) with
        | some w => some ⟨.tuple #[], [w], [a.block]⟩
        | none => none
      else none
    | _, _ => none
  | _, _ => none

def evMakeSlice (E : Env) (nid : Nat) (t : TypeId) (l c : Value) : Option Eff :=
  match elemT E.P t, l, c with
  | some e, .int _ l, .int _ c =>
    match E.P.info? e, zeroCells? E.P e with
    | some i, some z =>
      if 0 ≤ l ∧ l ≤ c ∧ c ≤ 9223372036854775807 ∧ (i.bytes : Int) * c ≤ 281474976710656 ∧ z.size = i.size ∧ 0 < i.size then
        some ⟨.slice (some ⟨nid, 0, none⟩) l.toNat c.toNat, [(nid, some (.cells (zeroRow z (c.toNat * i.size)) e true))], []⟩
      else none
    | _, _ => none
  | _, _, _ => none

def isByte : Value → Bool
  | .int .u8 _ => true
  | _ => false

def byteV : Value → UInt8
  | .int _ n => UInt8.ofNat n.toNat
  | _ => 0

def bytesOf? (l : List Value) : Option ByteArray := if l.all isByte then some ⟨(l.map byteV).toArray⟩ else none

def evConvert (E : Env) (g : Nat → Option Blk) (nid : Nat) (src dst : TypeId) (x : Value) : Option Eff :=
  match E.P.underlying src, E.P.underlying dst, x with
  | some .string, some (.slice e), .string s =>
    match E.P.underlying e with
    | some (.int .u8) => if sizeT E.P e = some 1 then some ⟨.slice (some ⟨nid, 0, none⟩) s.size s.size, [(nid, some (.cells (s.data.map fun b => Value.int .u8 b.toNat).toList e false))], []⟩ else none
    | _ => none
  | some (.slice e), some .string, x =>
    match E.P.underlying e, x with
    | some (.int .u8), .slice none _ _ => some ⟨.string .empty, [], []⟩
    | some (.int .u8), .slice (some a) n _ => match rd E g a n with
      | some l => (bytesOf? l).map fun s => ⟨.string s, [], [a.block]⟩
      | none => none
    | _, _ => none
  | some (.slice _), _, _ => none
  | some _, some (.slice _), _ => none
  | some _, some _, x => if scalar x then (pureV E.P (convert src dst x)).map fun v => ⟨v, [], []⟩ else none
  | _, _, _ => none

def evLen (P : Program) (ts : Array TypeId) (x : Value) : Option Value :=
  match (ts[0]?).bind fun t => P.underlying t with
  | some .string => match x with | .string s => some (.int .i64 s.size) | _ => none
  | some (.array n _) => some (.int .i64 n)
  | some (.slice _) => match x with | .slice _ n _ => some (.int .i64 n) | _ => none
  | _ => none

/-- Equality where one side is a nil. -/
def evNilP (eq : Bool) : Value → Value → Option Value
  | .pointer none, .pointer b => some (.bool (b.isNone == eq))
  | .pointer a, .pointer none => some (.bool (a.isNone == eq))
  | _, _ => none

def evNilS (eq : Bool) : Value → Value → Option Value
  | .slice none _ _, .slice b _ _ => some (.bool (b.isNone == eq))
  | .slice a _ _, .slice none _ _ => some (.bool (a.isNone == eq))
  | _, _ => none

def isPtr (P : Program) (t : TypeId) : Bool := match P.underlying t with | some (.pointer _) => true | _ => false
def isSl (P : Program) (t : TypeId) : Bool := match P.underlying t with | some (.slice _) => true | _ => false

def evBin (P : Program) (op : BinOp) (t : TypeId) (xo yo : Operand) (x y : Value) : Option Value :=
  if isPtr P t then
    match op with
    | .eql => evNilP true x y
    | .neq => evNilP false x y
    | _ => none
  else if isSl P t then
    match op with
    | .eql => evNilS true x y
    | .neq => evNilS false x y
    | _ => none
  else if scalar x && scalar y then pureV P (do eqGuard op t xo yo x y; binOp op t x y) else none

/-! Maps with whole numbers for keys. -/
def mapT (P : Program) (t : TypeId) : Option (IntKind × TypeId) :=
  match P.underlying t with
  | some (.map k el) => match P.underlying k with
    | some (.int kd) => some (kd, el)
    | _ => none
  | _ => none
def mfind (a : Int) : List (Int × Value × Nat) → Option Value
  | [] => none
  | e :: l => if e.1 = a then some e.2.1 else mfind a l
def mset (a : Int) (v : Value) : List (Int × Value × Nat) → Option (List (Int × Value × Nat))
  | [] => none
  | e :: l => if e.1 = a then some ((a, v, e.2.2) :: l) else (mset a v l).map (e :: ·)
def mdel (a : Int) : List (Int × Value × Nat) → List (Int × Value × Nat)
  | [] => []
  | e :: l => if e.1 = a then l else e :: mdel a l
/-- The zero of a type. -/
def zeroV (P : Program) (t : TypeId) : Option Value := pureV P (zeroValue t)
/-- A map of one's own. -/
def mapAt (E : Env) (g : Nat → Option Blk) (kd : IntKind) (x : Value) : Option (Nat × List (Int × Value × Nat) × Nat) :=
  match x with
  | .map (some r) => if r < E.old then none else match g r with
    | some (.mp kd' es clock) => if kd' = kd then some (r, es, clock) else none
    | _ => none
  | _ => none
def evMakeMap (E : Env) (nid : Nat) (t : TypeId) : Option Eff :=
  match mapT E.P t with
  | some (kd, _) => some ⟨.map (some nid), [(nid, some (.mp kd [] 0))], []⟩
  | none => none
def okV (ok : Bool) (v : Value) (b : Bool) : Value := if ok then .tuple #[v, .bool b] else v
def evLookup (E : Env) (g : Nat → Option Blk) (t : TypeId) (x k : Value) (ok : Bool) : Option Eff :=
  match mapT E.P t, k with
  | some (kd, el), .int kk a => if kk ≠ kd then none else match mapAt E g kd x with
    | some (r, es, _) => match mfind a es with
      | some v => some ⟨okV ok v true, [], [r]⟩
      | none => match zeroV E.P el with
        | some v => some ⟨okV ok v false, [], [r]⟩
        | none => none
    | none => none
  | _, _ => none
def evMapUpdate (E : Env) (g : Nat → Option Blk) (t : TypeId) (x k v : Value) : Option Eff :=
  match mapT E.P t, k with
  | some (kd, _), .int kk a => if kk ≠ kd then none else match mapAt E g kd x with
    | some (r, es, clock) => match mset a v es with
      | some es' => some ⟨.tuple #[], [(r, some (.mp kd es' clock))], [r]⟩
      | none => some ⟨.tuple #[], [(r, some (.mp kd (es ++ [(a, v, clock)]) (clock + 1)))], [r]⟩
    | none => none
  | _, _ => none
def evDelete (E : Env) (g : Nat → Option Blk) (ts : Array TypeId) (x k : Value) : Option Eff :=
  match (ts[0]?).bind fun t => mapT E.P t, k with
  | some (kd, _), .int kk a => if kk ≠ kd then none else match mapAt E g kd x with
    | some (r, es, clock) => some ⟨.tuple #[], [(r, some (.mp kd (mdel a es) clock))], [r]⟩
    | none => none
  | _, _ => none
def evLenM (E : Env) (g : Nat → Option Blk) (ts : Array TypeId) (x : Value) : Option Eff :=
  match (ts[0]?).bind fun t => mapT E.P t with
  | some (kd, _) => match mapAt E g kd x with
    | some (r, es, _) => some ⟨.int .i64 es.length, [], [r]⟩
    | none => none
  | none => none
def evLenE (E : Env) (g : Nat → Option Blk) (ts : Array TypeId) (x : Value) : Option Eff :=
  match evLen E.P ts x with
  | some v => some ⟨v, [], []⟩
  | none => evLenM E g ts x

def evBuiltin (E : Env) (g : Nat → Option Blk) (nid : Nat) (b : Builtin) (ts : Array TypeId) (type : TypeId) (args : List Value) : Option Eff :=
  match b, args with
  | .append, [s, x] => evAppend E g nid ts s x
  | .copy, [d, x] => evCopy E g ts d x
  | .clear, [d] => evClear E g ts d
  | .len, [x] => evLenE E g ts x
  | .delete, [x, k] => evDelete E g ts x k
  | .cap, [x] => evCap E g ts x
  | .min, l => if l.all scalar then (pureV E.P (Builtin.min_ ts type l.toArray)).map fun v => ⟨v, [], []⟩ else none
  | .max, l => if l.all scalar then (pureV E.P (Builtin.max_ ts type l.toArray)).map fun v => ⟨v, [], []⟩ else none
  | .complex, l => if l.all scalar then (pureV E.P (Builtin.complex_ ts type l.toArray)).map fun v => ⟨v, [], []⟩ else none
  | .real, l => if l.all scalar then (pureV E.P (Builtin.real_ ts type l.toArray)).map fun v => ⟨v, [], []⟩ else none
  | .imag, l => if l.all scalar then (pureV E.P (Builtin.imag_ ts type l.toArray)).map fun v => ⟨v, [], []⟩ else none
  | _, _ => none

/-- An operation that is no call of a function with code. -/
def evOp (E : Env) (ρ : Operand → Value) (nid : Nat) (g : Nat → Option Blk) (o : Oper) : Option Eff :=
  let v (x : Option Value) : Option Eff := x.map fun v => ⟨v, [], []⟩
  match o.op with
  | .move x | .assign x => some ⟨ρ x, [], []⟩
  | .pick c a b => match ρ c with
    | .bool true => some ⟨ρ a, [], []⟩
    | .bool false => some ⟨ρ b, [], []⟩
    | _ => none
  | .alloc e => match zeroCells? E.P e with
    | some z => some ⟨.pointer (some ⟨nid, 0, none⟩), [(nid, some (.cells z.toList e true))], []⟩
    | none => none
  | .box e x => some ⟨.pointer (some ⟨nid, 0, none⟩), [(nid, some (.cells (ρ x).cells.toList e true))], []⟩
  | .build t parts => v (evBuild E.P t (parts.toList.map fun p => (p.1, ρ p.2)))
  | .buildSlice t len parts => evBuildSlice E.P nid t len (parts.toList.map fun p => (p.1, ρ p.2))
  | .load t a => evLoad E g t (ρ a)
  | .store t a x => evStore E g t (ρ a) (ρ x)
  | .nilCheck x => match ρ x with
    | .pointer (some a) => some ⟨.pointer (some a), [], []⟩
    | .func (.func f) xs ys => some ⟨.func (.func f) xs ys, [], []⟩
    | _ => none
  | .binOp op t x y _ => v (evBin E.P op t x y (ρ x) (ρ y))
  | .unOp op _ x => if scalar (ρ x) then v (pureV E.P (Op.unary op (ρ x))) else none
  | .convert src dst x => evConvert E g nid src dst (ρ x)
  | .makeFunc fn first captured => some ⟨.func fn (first.map ρ) (captured.map ρ), [], []⟩
  | .makeSlice t l c => evMakeSlice E nid t (ρ l) (ρ c)
  | .makeMap t r => if r.isNone then evMakeMap E nid t else none
  | .lookup t x k ok => evLookup E g t (ρ x) (ρ k) ok
  | .mapUpdate t x k v => evMapUpdate E g t (ρ x) (ρ k) (ρ v)
  | .slice t x lo hi mx => evSlice E g t (ρ x) (lo.map ρ) (hi.map ρ) (mx.map ρ)
  | .fieldAddr t x f => v (evFieldAddr E.P t (ρ x) f)
  | .field t x f => v (evField E.P t (ρ x) f)
  | .indexAddr t x i => v (evIndexAddr E.P t (ρ x) (ρ i))
  | .index t x i => v (evIndex E.P t (ρ x) (ρ i))
  | .extract x i => match ρ x with
    | .tuple vs => v (vs[i]?)
    | _ => none
  | .call { callee := .builtin b, args, argTypes } => evBuiltin E g nid b argTypes o.type (args.toList.map ρ)
  | _ => none

def Opd (fr : List Value) : Operand → Value
  | .tmp t => fr.getD t undef
  | .const v => v
  | .func f => .func (.func f) #[] #[]
  | .global _ => undef

def put (fr : List Value) (dst : Option Tmp) (v : Value) : List Value :=
  match dst with
  | some d => fr.set d v
  | none => fr

def beqF : Value → Value → Bool
  | .bool a, .bool b => a == b
  | .int k a, .int l b => k == l && a == b
  | .string a, .string b => decide (a = b)
  | .pointer a, .pointer b => decide (a = b)
  | .slice a n c, .slice b m d => decide (a = b) && n == m && c == d
  | .map a, .map b => decide (a = b)
  | .nilFunc, .nilFunc => true
  | .nilIface, .nilIface => true
  | _, _ => false

def beqL : List Value → List Value → Bool
  | [], [] => true
  | a :: x, b :: y => beqF a b && beqL x y
  | _, _ => false

def beqV : Value → Value → Bool
  | .agg a, .agg b => beqL a.toList b.toList
  | x, y => beqF x y

/-- What is kept of an operation that was carried out. -/
inductive Rec where
  | quiet
  | mem (f : (Nat → Option Blk) → Option Eff) (e : Eff)
  | call (before after : St)

def disj (a b : List Nat) : Bool := a.all fun x => !b.contains x

def effSame (e : Eff) : Option Eff → Bool
  | some e' => e'.upd.isEmpty && (e'.rds == e.rds && beqV e'.val e.val)
  | none => false

/-- An operation that makes a block, and looks at none. -/
def allocOnly (e : Eff) : Bool := e.rds.isEmpty && (match e.upd with | [(_, some _)] => true | _ => false)

def indep : Rec → Rec → Bool
  | .quiet, _ | _, .quiet => true
  | .mem _ e, .mem _ e' => disj (e.upd.map (·.1)) (e'.rds ++ e'.upd.map (·.1)) && disj (e'.upd.map (·.1)) e.rds
  | .mem f e, .call b a => e.upd.isEmpty && (effSame e (f b.heap.get) && effSame e (f a.heap.get))
  | .call b a, .mem f e => allocOnly e || (e.upd.isEmpty && (effSame e (f b.heap.get) && effSame e (f a.heap.get)))
  | .call .., .call .. => false

def yieldA (ops : List Oper) (fr : List Value) (j : Nat) : Option Bool :=
  match ((ops[j]?).bind (·.dst)).bind (fr[·]?) with
  | some (.bool b) => some b
  | _ => none

abbrev CallF := FuncId → List Value → St → Option (Value × St)

/-- A function value with its first and captured values; which function, all arguments. -/
def callee? (f : Value) (args : List Value) : Option (FuncId × List Value) :=
  match f with
  | .func (.func f) first captured => some (f, first.toList ++ args ++ captured.toList)
  | _ => none

/-- A call of a function value: it, its arguments. -/
def callOf (o : Oper) : Option (Operand × List Operand) :=
  match o.op with
  | .call { callee := .value f, args, argTypes := _ } => some (f, args.toList)
  | _ => none

def step1 (E : Env) (call : CallF) (ops : List Oper) (base : Nat) (i : Nat) (fr : List Value) (σ : St) : Option (Rec × List Value × St) :=
  match ops[i]? with
  | none => none
  | some o =>
    if Region.wanted o (yieldA ops fr) then
      match callOf o with
      | some (f, args) =>
        match callee? (Opd fr f) (args.map (Opd fr)) with
        | some (f, args) => match call f args σ with
          | some (v, σ') => some (.call σ σ', put fr o.dst v, σ')
          | none => none
        | none => none
      | none =>
        match evOp E (Opd fr) (base + i) σ.heap.get o with
        | some e => some (.mem (fun g => evOp E (Opd fr) (base + i) g o) e, put fr o.dst e.val, ⟨upds σ.heap e.upd, σ.next⟩)
        | none => none
    else some (.quiet, put fr o.dst undef, σ)

def runOps (E : Env) (call : CallF) (ops : List Oper) (base : Nat) : List Nat → List Value → St → Option (List Rec × List Value × St)
  | [], fr, σ => some ([], fr, σ)
  | i :: l, fr, σ => match step1 E call ops base i fr σ with
    | some (r, fr, σ) => match runOps E call ops base l fr σ with
      | some (rs, fr, σ) => some (r :: rs, fr, σ)
      | none => none
    | none => none

/-- An operation that reads nothing but blocks that the region itself makes behind the call. -/
def late (base n i : Nat) : Rec → Rec → Bool
  | .call _ _, .mem _ e => e.upd.isEmpty && e.rds.all fun k => decide (base + i < k) && decide (k < base + n)
  | _, _ => false

def pairsOk (base : Nat) (rs : List Rec) : List (Nat × Nat) → Bool
  | [] => true
  | (i, j) :: r => (match rs[i]?, rs[j]? with | some a, some b => indep a b || late base rs.length i a b | _, _ => false) && pairsOk base rs r

def evRegion (E : Env) (call : CallF) (ps : List (Nat × Nat)) (ops : List Oper) (fr : List Value) (σ0 : St) : Option (List Value × St) :=
  match runOps E call ops σ0.next (List.range ops.length) fr ⟨σ0.heap, σ0.next + ops.length⟩ with
  | some (rs, fr, σ) => if pairsOk σ0.next rs ps then some (fr, σ) else none
  | none => none

inductive Ex where
  | normal
  | exit (id : Nat)
  | goto (l : Nat)
  | ret

abbrev Out := Option (Ex × List Value × St)

def iter (f : List Value → St → Out) : Nat → List Value → St → Out
  | 0, _, _ => none
  | k + 1, fr, σ => match f fr σ with
    | some (.normal, fr, σ) => iter f k fr σ
    | x => x

def hasLabel : Code → Nat → Bool
  | .seq a b, l => hasLabel a l || hasLabel b l
  | .label l', l => l' == l
  | _, _ => false

def hop (has : Nat → Bool) (f : Option Nat → List Value → St → Out) : Nat → Option Nat → List Value → St → Out
  | 0, _, _, _ => none
  | k + 1, e, fr, σ => match f e fr σ with
    | some (.goto l, fr, σ) => if has l then hop has f k (some l) fr σ else some (.goto l, fr, σ)
    | x => x

def thenC (x : Out) (f : List Value → St → Out) : Out :=
  match x with
  | some (.normal, fr, σ) => f fr σ
  | x => x

/-- Code from its beginning (none) or from one of its labels on. -/
def evC (E : Env) (call : CallF) (k : Nat) (fid : FuncId) : Code → Option Nat → List Value → St → Out
  | .seq a b, none, fr, σ => thenC (evC E call k fid a none fr σ) (evC E call k fid b none)
  | .seq a b, some l, fr, σ => if hasLabel a l then thenC (evC E call k fid a (some l) fr σ) (evC E call k fid b none) else evC E call k fid b (some l) fr σ
  | .label _, none, fr, σ => some (.normal, fr, σ)
  | .label l', some l, fr, σ => if l' = l then some (.normal, fr, σ) else none
  | .skip, none, fr, σ => some (.normal, fr, σ)
  | .region id ops _, none, fr, σ => match evRegion E call (E.pairs fid id) ops.toList fr σ with
    | some (fr, σ) => some (.normal, fr, σ)
    | none => none
  | .cond c a b, none, fr, σ => match Opd fr c with
    | .bool t => if t = true then evC E call k fid a none fr σ else evC E call k fid b none fr σ
    | _ => none
  | .block id c, none, fr, σ => match evC E call k fid c none fr σ with
    | some (.exit id', fr, σ) => if id' = id then some (.normal, fr, σ) else some (.exit id', fr, σ)
    | x => x
  | .loop c, none, fr, σ => iter (evC E call k fid c none) k fr σ
  | .exit id, none, fr, σ => some (.exit id, fr, σ)
  | .goto l, none, fr, σ => some (.goto l, fr, σ)
  | .ret, none, fr, σ => some (.ret, fr, σ)
  | .scope c, none, fr, σ => hop (hasLabel c) (evC E call k fid c) k none fr σ
  | _, _, _, _ => none

def resV (E : Env) (fr : List Value) (σ : St) : List ResultVar → Option (List Value)
  | [] => some []
  | .tmp t :: r => (resV E fr σ r).map fun l => fr.getD t undef :: l
  | .cell a t :: r => match evLoad E σ.heap.get t (fr.getD a undef), resV E fr σ r with
    | some e, some l => some (e.val :: l)
    | _, _ => none

def resOf (E : Env) (fn : Func) (fr : List Value) (σ : St) : Option Value :=
  match resV E fr σ fn.results.toList with
  | some [v] => some v
  | some l => some (.tuple l.toArray)
  | none => none

/-- A function's body, its calls answered by 'call'. -/
def evBody (E : Env) (call : CallF) (k : Nat) (f : FuncId) (fn : Func) (c : Code) (args : List Value) (σ : St) : Option (Value × St) :=
  match evC E call k f c none (args ++ List.replicate (fn.ntmps - args.length) undef) σ with
  | some (.normal, fr, σ) | some (.ret, fr, σ) => (resOf E fn fr σ).map fun v => (v, σ)
  | _ => none

def evFun (E : Env) (k : Nat) : Nat → CallF
  | 0, f, args, σ => E.sum f args σ
  | d + 1, f, args, σ => match E.sum f args σ with
    | some r => some r
    | none => match E.P.funcs[f]? with
      | some fn => match fn.body with
        | some c => evBody E (evFun E k d) k f fn c args σ
        | none => none
      | none => none
end Go.Ab

/- How the abstract state lies in a world of the model; reading, writing, making blocks. -/
set_option linter.all false
open Go.RowKit
namespace Go.Ab

/-- Where an abstract block lies: the concrete block, the first cell, how many cells are known, whether these are all, the size of an element, all cells of the concrete block. -/
structure Pl where
  c : Nat
  st : Nat
  n : Nat
  ex : Bool
  sz : Nat
  tot : Nat

abbrev Mu := Nat → Option Pl

def ARel (old : Nat) (μ : Mu) (a c : Addr) : Prop :=
  a.spot = none ∧ c.spot = none ∧ ((a.block < old ∧ c = a) ∨ (old ≤ a.block ∧ ∃ p, μ a.block = some p ∧ c.block = p.c ∧ c.off = p.st + a.off))

def SRel (old : Nat) (μ : Mu) (a c : Addr) (len cap ccap : Nat) : Prop :=
  (len = 0 ∧ cap = 0 ∧ ccap = 0 ∧ a.spot = none ∧ (a.block < old ∨ ∃ p, μ a.block = some p)) ∨
  (ARel old μ a c ∧ (ccap = cap ∨ (old ≤ a.block ∧ cap ≤ ccap ∧ ∃ p, μ a.block = some p ∧ p.ex = false ∧ a.off + cap * p.sz = p.n ∧ p.st + a.off + ccap * p.sz ≤ p.tot)))

inductive VRel (old : Nat) (μ : Mu) : Value → Value → Prop
  | flat (v : Value) (h : flatS v = true) : VRel old μ v v
  | pointer (a c : Addr) (h : ARel old μ a c) : VRel old μ (.pointer (some a)) (.pointer (some c))
  | slice (a c : Addr) (len cap ccap : Nat) (h : SRel old μ a c len cap ccap) : VRel old μ (.slice (some a) len cap) (.slice (some c) len ccap)
  | agg (xs ys : Array Value) (hs : xs.size = ys.size) (h : ∀ (i : Nat) (x y : Value), xs[i]? = some x → ys[i]? = some y → VRel old μ x y) : VRel old μ (.agg xs) (.agg ys)
  | tuple (xs ys : Array Value) (hs : xs.size = ys.size) (h : ∀ (i : Nat) (x y : Value), xs[i]? = some x → ys[i]? = some y → VRel old μ x y) : VRel old μ (.tuple xs) (.tuple ys)
  | func (fn : Fn) (f1 f2 c1 c2 : Array Value) (hs : f1.size = f2.size) (h : ∀ (i : Nat) (x y : Value), f1[i]? = some x → f2[i]? = some y → VRel old μ x y)
      (hs' : c1.size = c2.size) (h' : ∀ (i : Nat) (x y : Value), c1[i]? = some x → c2[i]? = some y → VRel old μ x y) : VRel old μ (.func fn f1 c1) (.func fn f2 c2)
  | map (r q : Nat) (h : old ≤ r ∧ ∃ p, μ r = some p ∧ q = p.c) : VRel old μ (.map (some r)) (.map (some q))

theorem ARel.known {old : Nat} {μ : Mu} {a c : Addr} (h : ARel old μ a c) : a.block < old ∨ ∃ p, μ a.block = some p := by
  obtain ⟨_, _, ⟨q, _⟩ | ⟨_, p, hp, _⟩⟩ := h
  · exact .inl q
  · exact .inr ⟨p, hp⟩
/-- Row by row. -/
def LRel (old : Nat) (μ : Mu) (l l' : List Value) : Prop :=
  l.length = l'.length ∧ ∀ (i : Nat) (x y : Value), l[i]? = some x → l'[i]? = some y → VRel old μ x y

def Le (μ μ' : Mu) : Prop := ∀ a p, μ a = some p → μ' a = some p

theorem Le.refl (μ : Mu) : Le μ μ := fun _ _ h => h
theorem Le.trans {a b c : Mu} (h : Le a b) (k : Le b c) : Le a c := fun x p hx => k x p (h x p hx)

theorem ARel.mono {old : Nat} {μ μ' : Mu} (hl : Le μ μ') {a c : Addr} (h : ARel old μ a c) : ARel old μ' a c := by
  obtain ⟨h1, h2, h3⟩ := h
  refine ⟨h1, h2, h3.imp id ?_⟩
  rintro ⟨ho, p, hp, hc⟩
  exact ⟨ho, p, hl _ _ hp, hc⟩

theorem SRel.mono {old : Nat} {μ μ' : Mu} (hl : Le μ μ') {a c : Addr} {len cap ccap : Nat} (h : SRel old μ a c len cap ccap) : SRel old μ' a c len cap ccap := by
  refine h.imp (fun ⟨q1, q2, q3, q4, q5⟩ => ⟨q1, q2, q3, q4, q5.imp id fun ⟨p, hp⟩ => ⟨p, hl _ _ hp⟩⟩) ?_
  rintro ⟨ha, h⟩
  refine ⟨ha.mono hl, h.imp id ?_⟩
  rintro ⟨ho, hc, p, hp, r⟩
  exact ⟨ho, hc, p, hl _ _ hp, r⟩

theorem VRel.mono {old : Nat} {μ μ' : Mu} (hl : Le μ μ') {v v' : Value} (h : VRel old μ v v') : VRel old μ' v v' := by
  induction h with
  | flat v h => exact .flat v h
  | pointer a c h => exact .pointer a c (h.mono hl)
  | slice a c len cap ccap h => exact .slice a c len cap ccap (h.mono hl)
  | agg xs ys hs _ ih => exact .agg xs ys hs ih
  | tuple xs ys hs _ ih => exact .tuple xs ys hs ih
  | func fn f1 f2 c1 c2 hs _ hs' _ ih ih' => exact .func fn f1 f2 c1 c2 hs ih hs' ih'
  | map r q h => exact .map r q ⟨h.1, h.2.imp fun p hp => ⟨hl _ _ hp.1, hp.2⟩⟩

theorem LRel.mono {old : Nat} {μ μ' : Mu} (hl : Le μ μ') {v v' : List Value} (h : LRel old μ v v') : LRel old μ' v v' :=
  ⟨h.1, fun i x y hx hy => (h.2 i x y hx hy).mono hl⟩

theorem VRel.undef (old : Nat) (μ : Mu) : VRel old μ undef undef := .tuple #[] #[] rfl (by intro i x y h; simp at h)

theorem VRel.flat_eq {old : Nat} {μ : Mu} {v v' : Value} (h : VRel old μ v v') (hf : flatS v = true) : v' = v := by
  cases h <;> first | rfl | (simp [flatS] at hf)

theorem list_eq_of {l l' : List Value} (hs : l.length = l'.length) (h : ∀ (i : Nat) (x y : Value), l[i]? = some x → l'[i]? = some y → y = x) : l' = l := by
  apply List.ext_getElem?
  intro i
  by_cases hi : i < l.length
  · have hi' : i < l'.length := by omega
    have := h i l[i] l'[i] (by simp [hi]) (by simp [hi'])
    simp [hi, hi', this]
  · rw [List.getElem?_eq_none (by omega), List.getElem?_eq_none (by omega)]

theorem VRel.scalar_eq {old : Nat} {μ : Mu} {v v' : Value} (h : VRel old μ v v') (hf : scalar v = true) : v' = v := by
  cases h with
  | agg xs ys hs h =>
    have he : ys.toList = xs.toList := by
      refine list_eq_of (by simpa using hs) ?_
      intro i x y hx hy
      have hx' : xs[i]? = some x := by simpa using hx
      have hy' : ys[i]? = some y := by simpa using hy
      refine (h i x y hx' hy').flat_eq ?_
      simp only [scalar, List.all_eq_true] at hf
      exact hf x (List.mem_of_getElem? hx)
    have : ys = xs := by
      apply Array.ext'
      exact he
    rw [this]
  | flat v h => rfl
  | pointer a c h => simp [scalar, flatS] at hf
  | slice a c len cap ccap h => simp [scalar, flatS] at hf
  | tuple xs ys hs h => simp [scalar, flatS] at hf
  | func fn f1 f2 c1 c2 hs h hs' h' => simp [scalar, flatS] at hf
  | map r q h => simp [scalar, flatS] at hf

theorem VRel.of_flat {old : Nat} {μ : Mu} {v : Value} (hf : flatS v = true) : VRel old μ v v := .flat v hf

theorem VRel.of_scalar {old : Nat} {μ : Mu} {v : Value} (hf : scalar v = true) : VRel old μ v v := by
  cases v with
  | agg cs =>
    refine .agg _ _ rfl ?_
    intro i x y hx hy
    rw [hx] at hy
    cases hy
    simp only [scalar, List.all_eq_true] at hf
    exact .flat _ (hf x (by simpa using Array.mem_of_getElem? hx))
  | _ => exact .flat _ (by simpa [scalar] using hf)

theorem VRel.of_old {old : Nat} {μ : Mu} {v : Value} (hf : oldV old v = true) : VRel old μ v v := by
  cases v with
  | pointer a =>
    cases a with
    | none => exact .flat _ rfl
    | some a =>
      simp [oldV] at hf
      exact .pointer _ _ ⟨hf.2, hf.2, .inl ⟨hf.1, rfl⟩⟩
  | slice a n c =>
    cases a with
    | none => exact .flat _ (by simpa [oldV] using hf)
    | some a =>
      simp [oldV] at hf
      exact .slice _ _ _ _ _ (.inr ⟨⟨hf.2, hf.2, .inl ⟨hf.1, rfl⟩⟩, .inl rfl⟩)
  | _ => exact .flat _ (by simpa [oldV] using hf)

theorem VRel.oneCell {old : Nat} {μ : Mu} {v v' : Value} (h : VRel old μ v v') (hf : oneCell v = true) : v'.oneCell' = true := by
  cases h with
  | flat v h => cases v <;> simp_all [Ab.oneCell, Value.oneCell', flatS]
  | pointer a c h => rfl
  | slice a c len cap ccap h => rfl
  | agg xs ys hs h => simp [Ab.oneCell] at hf
  | tuple xs ys hs h => simp [Ab.oneCell] at hf
  | func fn f1 f2 c1 c2 hs h hs' h' => rfl
  | map r q h => rfl

/-- Entries of a map, row by row. -/
inductive ML (old : Nat) (μ : Mu) (kd : IntKind) : List (Int × Value × Nat) → List MapEntry → Prop
  | nil : ML old μ kd [] []
  | cons (a : Int) (v v' : Value) (n : Nat) {l : List (Int × Value × Nat)} {L : List MapEntry} (hv : VRel old μ v v') (h : ML old μ kd l L) : ML old μ kd ((a, v, n) :: l) (MapEntry.mk (.int kd a) v' n :: L)
theorem ML.mono {old : Nat} {μ μ' : Mu} {kd : IntKind} (hl : Le μ μ') {l : List (Int × Value × Nat)} {L : List MapEntry} (h : ML old μ kd l L) : ML old μ' kd l L := by
  induction h with
  | nil => exact .nil
  | cons a v v' n hv _ ih => exact .cons a v v' n (hv.mono hl) ih
/-- No cell of the block is frozen. -/
def NoFz (fz : Nat × Nat) (n : Nat) : Prop := fz.2 ≤ fz.1 ∨ n ≤ fz.1

def BRel (E : Env) (μ : Mu) (p : Pl) (w : World) : Blk → Prop
  | .cells l e x => p.n = l.length ∧ p.ex = x ∧ (x = false → sizeT E.P e = some p.sz) ∧
      ∃ (C : Array Value) (fz : Nat × Nat), w.heap[p.c]? = some (.cells C e fz) ∧ C.size = p.tot ∧ p.st + p.n ≤ C.size ∧ (x = true → p.n = C.size) ∧ NoFz fz C.size ∧
        (∀ i v, l[i]? = some v → ∃ v', C[p.st + i]? = some v' ∧ VRel E.old μ v v') ∧ (∀ j v, x = false → p.st + p.n ≤ j → C[j]? = some v → flatS v = true) ∧ (E.P.underlying e ≠ some (.int .u8) → fz.2 ≤ fz.1)
  | .mp kd es clock => ∃ L : List MapEntry, w.heap[p.c]? = some (.map L.toArray clock) ∧ ML E.old μ kd es L
  | .froz l e => p.n = l.length ∧ p.ex = false ∧ sizeT E.P e = some p.sz ∧
      ∃ (C : Array Value) (fz : Nat × Nat), w.heap[p.c]? = some (.cells C e fz) ∧ C.size = p.tot ∧ (p.st = 0 ∧ p.st + p.n ≤ C.size) ∧ fz.2 ≤ p.n ∧
        (∀ i v, l[i]? = some v → ∃ v', C[p.st + i]? = some v' ∧ VRel E.old μ v v') ∧ (∀ j v, p.st + p.n ≤ j → C[j]? = some v → flatS v = true) ∧ E.P.underlying e = some (.int .u8)

structure Rel (E : Env) (w0 : World) (μ : Mu) (σ : St) (w : World) : Prop where
  below : Below w0.heap.size w0 w
  old_le : E.old ≤ w0.heap.size
  old_next : E.old ≤ σ.next
  base : ∀ a v, a.spot = none → a.block < E.old → E.base a = some v → w0.cell? a = some v
  dom : ∀ a p, μ a = some p → a < σ.next ∧ E.old ≤ a
  blk : ∀ a b, σ.heap.get a = some b → ∃ p, μ a = some p ∧ BRel E μ p w b
  new : ∀ a p, μ a = some p → w0.heap.size ≤ p.c ∧ p.c < w.heap.size
  inj : ∀ a a' b b' p p', σ.heap.get a = some b → σ.heap.get a' = some b' → μ a = some p → μ a' = some p' → p.c = p'.c → a = a'

theorem BRel.mono {E : Env} {μ μ' : Mu} (hl : Le μ μ') {p : Pl} {w : World} {b : Blk} (h : BRel E μ p w b) : BRel E μ' p w b := by
  cases b with
  | cells l e x =>
    obtain ⟨h1, h2, h3, C, fz, h4, h5, h6, h7, h8, h9, h10⟩ := h
    refine ⟨h1, h2, h3, C, fz, h4, h5, h6, h7, h8, fun i v hv => ?_, h10⟩
    obtain ⟨v', ha, hb⟩ := h9 i v hv
    exact ⟨v', ha, hb.mono hl⟩
  | mp kd es clock =>
    obtain ⟨L, h1, h2⟩ := h
    exact ⟨L, h1, h2.mono hl⟩
  | froz l e =>
    obtain ⟨h1, h2, h3, C, fz, h4, h5, h6, h7, h8, h9⟩ := h
    refine ⟨h1, h2, h3, C, fz, h4, h5, h6, h7, fun i v hv => ?_, h9⟩
    obtain ⟨v', ha, hb⟩ := h8 i v hv
    exact ⟨v', ha, hb.mono hl⟩

theorem BRel.world {E : Env} {μ : Mu} {p : Pl} {w w' : World} {b : Blk} (h : BRel E μ p w b) (hw : w'.heap[p.c]? = w.heap[p.c]?) : BRel E μ p w' b := by
  cases b with
  | cells l e x =>
    obtain ⟨h1, h2, h3, C, fz, h4, h5⟩ := h
    exact ⟨h1, h2, h3, C, fz, hw.trans h4, h5⟩
  | mp kd es clock =>
    obtain ⟨L, h1, h2⟩ := h
    exact ⟨L, hw.trans h1, h2⟩
  | froz l e =>
    obtain ⟨h1, h2, h3, C, fz, h4, h5⟩ := h
    exact ⟨h1, h2, h3, C, fz, hw.trans h4, h5⟩

theorem add_off (a : Addr) (i : Nat) (h : a.spot = none) : a.add i = ⟨a.block, a.off + i, none⟩ := by
  cases a with
  | mk b o s =>
    simp at h
    subst h
    unfold Addr.add
    split <;> simp_all

theorem rdOld_spec {E : Env} {w0 w : World} {μ : Mu} {σ : St} (hr : Rel E w0 μ σ w) (b : Nat) (hb : b < E.old) : ∀ (n off : Nat) (l : List Value), rdOld E b off n = some l →
    l.length = n ∧ ∀ i v, l[i]? = some v → w.cell? ⟨b, off + i, none⟩ = some v ∧ VRel E.old μ v v := by
  intro n
  induction n with
  | zero => intro off l h; simp [rdOld] at h; subst h; simp
  | succ n ih =>
    intro off l h
    simp only [rdOld] at h
    cases hv : E.base ⟨b, off, none⟩ with
    | none => simp [hv] at h
    | some v =>
      simp only [hv] at h
      split at h
      · rename_i hov
        cases hl : rdOld E b (off + 1) n with
        | none => simp [hl] at h
        | some l' =>
          simp only [hl, Option.some.injEq] at h
          subst h
          obtain ⟨h1, h2⟩ := ih (off + 1) l' hl
          refine ⟨by simp [h1], ?_⟩
          intro i x hx
          cases i with
          | zero =>
            simp at hx
            subst hx
            have hc := hr.base ⟨b, off, none⟩ v rfl hb hv
            refine ⟨?_, .of_old hov⟩
            rw [← hc]
            exact hr.below.cell (p := ⟨b, off, none⟩) (by have := hr.old_le; show b < _; omega)
          | succ i =>
            simp at hx
            have := h2 i x hx
            rw [show off + 1 + i = off + (i + 1) by omega] at this
            exact this
      · cases h

/-- What is read is there. -/
theorem rd_spec {E : Env} {w0 w : World} {μ : Mu} {σ : St} (hr : Rel E w0 μ σ w) {a c : Addr} (ha : ARel E.old μ a c) {n : Nat} {l : List Value} (h : rd E σ.heap.get a n = some l) :
    ∃ l', LRel E.old μ l l' ∧ l'.length = n ∧ ∀ j v, l'[j]? = some v → w.cell? (c.add j) = some v := by
  obtain ⟨hs, hcs, ha⟩ := ha
  unfold rd at h
  rw [hs] at h
  simp only [Option.isSome_none, Bool.false_eq_true, if_false] at h
  rcases ha with ⟨hlt, rfl⟩ | ⟨hge, p, hp, hcb, hco⟩
  · rw [if_pos hlt] at h
    obtain ⟨h1, h2⟩ := rdOld_spec hr _ hlt n _ l h
    refine ⟨l, ⟨rfl, fun i x y hx hy => ?_⟩, h1, fun j v hv => ?_⟩
    · rw [hx] at hy; cases hy; exact (h2 i x hx).2
    · rw [add_off _ _ hcs]; exact (h2 j v hv).1
  · rw [if_neg (by omega)] at h
    cases hb : σ.heap.get a.block with
    | none => simp [hb] at h
    | some b =>
      cases b with
      | mp kd es clock => simp [hb] at h
      | froz l' e => simp [hb] at h
      | cells cs e x =>
        simp only [hb] at h
        split at h
        · rename_i hfit
          cases h
          obtain ⟨p', hp', h1, h2, h3, C, fz, h4, h5, h6, h7, h8, h9, h10⟩ := hr.blk _ _ hb
          rw [hp] at hp'
          cases hp'
          have hl : ((cs.drop a.off).take n).length = n := by simp; omega
          refine ⟨(List.range n).map fun j => (C[p.st + (a.off + j)]?).getD undef, ⟨by simp; omega, ?_⟩, by simp, ?_⟩
          · intro i x y hx hy
            have hi : i < n := by
              have := (List.getElem?_eq_some_iff.1 hx).1
              omega
            have hx' : cs[a.off + i]? = some x := by
              simpa [List.getElem?_take, hi, List.getElem?_drop] using hx
            obtain ⟨v', hv1, hv2⟩ := h9 _ _ hx'
            simp [hi, hv1] at hy
            subst hy
            exact hv2
          · intro j v hv
            have hj : j < n := by
              have := (List.getElem?_eq_some_iff.1 hv).1
              simpa using this
            have hx' : cs[a.off + j]? = some (cs[a.off + j]'(by omega)) := by simp
            obtain ⟨v', hv1, hv2⟩ := h9 _ _ hx'
            simp [hj, hv1] at hv
            subst hv
            rw [add_off _ _ hcs]
            simp only [World.cell?, hcb, h4]
            simp only [Option.isSome_none, Bool.false_eq_true, if_false]
            rw [hco, show p.st + a.off + j = p.st + (a.off + j) by omega]
            exact hv1
        · cases h

theorem run_store_fz (P : Program) (g o : Nat) (t : TypeId) (fz : Nat × Nat) : ∀ (vs : List Value) (i : Nat) (cur : Array Value) (w : World), w.heap[g]? = some (.cells cur t fz) → NoFz fz cur.size → o + i + vs.length ≤ cur.size → (∀ v ∈ vs, v.oneCell' = true) →
    (storeCells ⟨g, o, none⟩ vs i).run P w = .ok () (w.setRow g (cur.toList.take (o + i) ++ vs ++ cur.toList.drop (o + i + vs.length)).toArray)
  | [], i, cur, w, hg, _, _, _ => by
    simp only [storeCells, List.append_nil, List.length_nil, Nat.add_zero, List.take_append_drop, Array.toArray_toList]
    rw [setRow_self w g cur t fz hg]
    rfl
  | v :: rest, i, cur, w, hg, hfz, hl, h1 => by
    have hi : o + i < cur.size := by simp at hl; omega
    have hadd : (⟨g, o, none⟩ : Addr).add i = ⟨g, o + i, none⟩ := add_off _ _ rfl
    have hcell : w.cell? ⟨g, o + i, none⟩ = some cur[o + i] := by simp [World.cell?, hg, hi]
    have hfro : w.frozen? ⟨g, o + i, none⟩ = false := by
      obtain ⟨lo, hi'⟩ := fz
      simp only [World.frozen?, hg, Bool.and_eq_false_iff, decide_eq_false_iff_not]
      unfold NoFz at hfz
      simp only at hfz
      omega
    have hst : (store ((⟨g, o, none⟩ : Addr).add i) v).run P w = .ok () (w.setRow g (cur.setIfInBounds (o + i) v)) := by
      rw [hadd, run_store P w _ v _ (h1 v (by simp)), hcell]
      simp [hfro, setCell_eq_setRow w g (o + i) cur t fz v hg]
    have ih := run_store_fz P g o t fz rest (i + 1) (cur.setIfInBounds (o + i) v) (w.setRow g (cur.setIfInBounds (o + i) v)) (setRow_heap w g cur _ t _ hg) (by simpa using hfz) (by simp at hl ⊢; omega) (fun x hx => h1 x (by simp [hx]))
    simp only [storeCells, Sem.run_bind, hst, Result.andThen_ok, ih, setRow_setRow]
    congr 3
    have e := list_seg_step cur.toList (o + i) v rest (by simp at hl ⊢; omega)
    simpa [Array.toList_setIfInBounds, Nat.add_assoc] using e

/-- What is written is written; nothing else. -/
theorem wr_spec {E : Env} {w0 w : World} {μ : Mu} {σ : St} (hr : Rel E w0 μ σ w) {a c : Addr} (ha : ARel E.old μ a c) {vs vs' : List Value} (hv : LRel E.old μ vs vs') {u : Nat × Option Blk}
    (h : wr E σ.heap.get a vs = some u) :
    ∃ w', (storeCells c vs').run E.P w = .ok () w' ∧ Rel E w0 μ ⟨upds σ.heap [u], σ.next⟩ w' := by
  obtain ⟨hs, hcs, ha⟩ := ha
  unfold wr at h
  split at h
  · cases h
  · rename_i hno
    simp only [Bool.or_eq_true, decide_eq_true_eq, Bool.not_eq_true', not_or, Bool.not_eq_false] at hno
    obtain ⟨⟨_, hnlt⟩, hone⟩ := hno
    rcases ha with ⟨hlt, _⟩ | ⟨hge, p, hp, hcb, hco⟩
    · exact absurd hlt hnlt
    · cases hb : σ.heap.get a.block with
      | none => simp [hb] at h
      | some b =>
        cases b with
        | mp kd es clock => simp [hb] at h
        | froz l' e => simp [hb] at h
        | cells cs e x =>
          simp only [hb] at h
          split at h
          · rename_i hfit
            cases h
            obtain ⟨p', hp', h1, h2, h3, C, fz, h4, h5, h6, h7, h8, h9, h10⟩ := hr.blk _ _ hb
            rw [hp] at hp'
            cases hp'
            have hlen := hv.1
            have hc : c = ⟨p.c, p.st + a.off, none⟩ := by
              cases c; simp at hcs hcb hco; simp [hcs, hcb, hco]
            have hone' : ∀ v ∈ vs', v.oneCell' = true := by
              intro v hm
              obtain ⟨i, hi⟩ := List.getElem?_of_mem hm
              have hil : i < vs.length := by have := (List.getElem?_eq_some_iff.1 hi).1; omega
              refine (hv.2 i vs[i] v (by simp [hil]) hi).oneCell ?_
              exact List.all_eq_true.1 hone _ (by simp)
            have hrun := run_store_fz E.P p.c (p.st + a.off) e fz vs' 0 C w h4 h8 (by omega) hone'
            refine ⟨_, by rw [hc]; exact hrun, ?_⟩
            generalize hC' : (C.toList.take (p.st + a.off + 0) ++ vs' ++ C.toList.drop (p.st + a.off + 0 + vs'.length)).toArray = C'
            have hCs : C'.size = C.size := by
              rw [← hC']; simp; omega
            have hcg : ∀ k, k ≠ p.c → (w.setRow p.c C').heap[k]? = w.heap[k]? := fun k hk => setRow_other w p.c k C' hk
            have hsz : (w.setRow p.c C').heap.size = w.heap.size := by simp [World.setRow]
            have hnew := hr.new _ _ hp
            refine ⟨?_, hr.old_le, hr.old_next, hr.base, hr.dom, ?_, fun a p hp => ?_, ?_⟩
            · refine hr.below.trans ⟨rfl, rfl, rfl, by omega, fun k hk => hcg k (by omega)⟩
            · intro k b hk
              simp only [upds] at hk
              rw [T.get_set] at hk
              split at hk
              · rename_i hka
                subst hka
                cases hk
                refine ⟨p, hp, by simp [wrList]; omega, h2, h3, C', fz, setRow_heap w p.c C C' e fz h4, by omega, by omega, by rw [hCs]; exact h7, by rw [hCs]; exact h8, ?_, ?_⟩
                rotate_left
                · refine ⟨?_, h10.2⟩
                  intro j v hx hj hv
                  refine h10.1 j v hx hj ?_
                  rw [← hv, ← hC']
                  simp only [Nat.add_zero, List.getElem?_toArray, List.getElem?_append, List.length_append, List.length_take, List.getElem?_take, List.getElem?_drop, Array.length_toList, Array.getElem?_toList]
                  have hmin : min (p.st + a.off) C.size = p.st + a.off := by omega
                  have hj1 : ¬ j < p.st + a.off := by omega
                  have hj2 : ¬ j < p.st + a.off + vs'.length := by omega
                  rw [hmin]
                  simp only [hj1, hj2, if_false]
                  congr 1
                  omega
                intro i v hi
                have hil : i < cs.length := by
                  have := (List.getElem?_eq_some_iff.1 hi).1
                  simp [wrList] at this
                  omega
                have hCi : ∀ j, C'[j]? = if j < p.st + a.off then C[j]? else if j < p.st + a.off + vs'.length then vs'[j - (p.st + a.off)]? else C[j]? := by
                  intro j
                  rw [← hC']
                  simp only [Nat.add_zero, List.getElem?_toArray, List.getElem?_append, List.length_append, List.length_take, List.getElem?_take, List.getElem?_drop, Array.length_toList, Array.getElem?_toList]
                  have hmin : min (p.st + a.off) C.size = p.st + a.off := by omega
                  rw [hmin]
                  by_cases hj : j < p.st + a.off
                  · simp [hj]; intro hx; omega
                  · by_cases hj2 : j < p.st + a.off + vs'.length
                    · simp [hj, hj2]
                    · simp only [hj, hj2, if_false]
                      congr 1
                      omega
                have hwi : (wrList cs a.off vs)[i]? = if i < a.off then cs[i]? else if i < a.off + vs.length then vs[i - a.off]? else cs[i]? := by
                  unfold wrList
                  simp only [List.getElem?_append, List.length_take, List.getElem?_take, List.getElem?_drop]
                  have hmin : min a.off cs.length = a.off := by omega
                  rw [hmin]
                  by_cases hj : i < a.off
                  · simp [hj]
                  · by_cases hj2 : i < a.off + vs.length
                    · have : i - a.off < vs.length := by omega
                      simp [hj, hj2, this]
                    · have : ¬ (i - a.off < vs.length) := by omega
                      simp only [hj, hj2, this, if_false]
                      congr 1
                      omega
                rw [hwi] at hi
                rw [hCi]
                by_cases hj : i < a.off
                · rw [if_pos hj] at hi
                  rw [if_pos (by omega)]
                  exact h9 i v hi
                · rw [if_neg hj] at hi
                  rw [if_neg (by omega)]
                  by_cases hj2 : i < a.off + vs.length
                  · rw [if_pos hj2] at hi
                    rw [if_pos (by omega), show p.st + i - (p.st + a.off) = i - a.off by omega]
                    have hlt : i - a.off < vs'.length := by omega
                    exact ⟨vs'[i - a.off], by simp [hlt], hv.2 _ _ _ hi (by simp [hlt])⟩
                  · rw [if_neg hj2] at hi
                    rw [if_neg (by omega)]
                    exact h9 i v hi
              · rename_i hka
                obtain ⟨q, hq, hbq⟩ := hr.blk k b hk
                refine ⟨q, hq, hbq.world (hcg _ ?_)⟩
                intro e
                exact hka (hr.inj k a.block b _ q p hk hb hq hp e)
            · have := hr.new _ _ hp
              omega
            · intro k k' b b' q q' hk hk' hq hq' hcc
              simp only [upds] at hk hk'
              rw [T.get_set] at hk hk'
              have hl : ∀ k b, (if k = a.block then some (Blk.cells (wrList cs a.off vs) e x) else σ.heap.get k) = some b → ∃ b', σ.heap.get k = some b' := by
                intro k b hk
                split at hk
                · rename_i hka; exact ⟨_, hka ▸ hb⟩
                · exact ⟨b, hk⟩
              obtain ⟨b1, hb1⟩ := hl k b hk
              obtain ⟨b2, hb2⟩ := hl k' b' hk'
              exact hr.inj k k' b1 b2 q q' hb1 hb2 hq hq' hcc
          · cases h
end Go.Ab

/- Each operation of the abstract evaluator is what the model does: values, addresses, reading, writing. -/
set_option linter.all false
open Go.RowKit
namespace Go.Ab

theorem pureRun_sound {α : Type} (P : Program) (s : Sem α) : ∀ (a : α), pureRun P s = some a → ∀ w, s.run P w = .ok a w := by
  induction s with
  | pure x => intro a h w; simp [pureRun] at h; subst h; rfl
  | program k ih => intro a h w; exact ih P a h w
  | _ => intro a h; simp [pureRun] at h

theorem VRel.inv_pointer {old : Nat} {μ : Mu} {a : Addr} {v' : Value} (h : VRel old μ (.pointer (some a)) v') : ∃ c, v' = .pointer (some c) ∧ ARel old μ a c := by
  cases h with
  | flat v h => simp [flatS] at h
  | pointer a c h => exact ⟨c, rfl, h⟩

theorem VRel.inv_slice {old : Nat} {μ : Mu} {a : Addr} {n k : Nat} {v' : Value} (h : VRel old μ (.slice (some a) n k) v') : ∃ c ck, v' = .slice (some c) n ck ∧ SRel old μ a c n k ck := by
  cases h with
  | flat v h => simp [flatS] at h
  | slice a c len cap ccap h => exact ⟨c, ccap, rfl, h⟩

theorem VRel.inv_nil {old : Nat} {μ : Mu} {n k : Nat} {v' : Value} (h : VRel old μ (.slice none n k) v') : n = 0 ∧ k = 0 ∧ v' = .slice none 0 0 := by
  cases h with
  | flat v h => unfold flatS at h; split at h <;> simp_all

theorem VRel.inv_map {old : Nat} {μ : Mu} {r : Nat} {v' : Value} (h : VRel old μ (.map (some r)) v') : old ≤ r ∧ ∃ p, μ r = some p ∧ v' = .map (some p.c) := by
  cases h with
  | flat v h => simp [flatS] at h
  | map r q h => exact ⟨h.1, h.2.imp fun p hp => ⟨hp.1, by rw [hp.2]⟩⟩

theorem VRel.inv_agg {old : Nat} {μ : Mu} {xs : Array Value} {v' : Value} (h : VRel old μ (.agg xs) v') :
    ∃ ys, v' = .agg ys ∧ xs.size = ys.size ∧ ∀ (i : Nat) (x y : Value), xs[i]? = some x → ys[i]? = some y → VRel old μ x y := by
  cases h with
  | flat v h => simp [flatS] at h
  | agg xs ys hs h => exact ⟨ys, rfl, hs, h⟩

theorem VRel.inv_tuple {old : Nat} {μ : Mu} {xs : Array Value} {v' : Value} (h : VRel old μ (.tuple xs) v') :
    ∃ ys, v' = .tuple ys ∧ xs.size = ys.size ∧ ∀ (i : Nat) (x y : Value), xs[i]? = some x → ys[i]? = some y → VRel old μ x y := by
  cases h with
  | flat v h => simp [flatS] at h
  | tuple xs ys hs h => exact ⟨ys, rfl, hs, h⟩

theorem VRel.inv_func {old : Nat} {μ : Mu} {fn : Fn} {f1 c1 : Array Value} {v' : Value} (h : VRel old μ (.func fn f1 c1) v') :
    ∃ f2 c2, v' = .func fn f2 c2 ∧ LRel old μ f1.toList f2.toList ∧ LRel old μ c1.toList c2.toList := by
  cases h with
  | flat v h => simp [flatS] at h
  | func fn f1 f2 c1 c2 hs h hs' h' => exact ⟨f2, c2, rfl, ⟨by simpa using hs, by simpa using h⟩, ⟨by simpa using hs', by simpa using h'⟩⟩

theorem VRel.cells {old : Nat} {μ : Mu} {v v' : Value} (h : VRel old μ v v') : LRel old μ v.cells.toList v'.cells.toList := by
  have one : ∀ (a b : Value), VRel old μ a b → LRel old μ [a] [b] := by
    intro a b h
    refine ⟨rfl, fun i x y hx hy => ?_⟩
    cases i with
    | zero => simp at hx hy; subst hx; subst hy; exact h
    | succ i => simp at hx
  cases h with
  | agg xs ys hs h => exact ⟨by simpa [Value.cells] using hs, by simpa [Value.cells] using h⟩
  | flat v h => cases v <;> first | (simp [flatS] at h; done) | exact one _ _ (.flat _ h)
  | pointer a c h => exact one _ _ (.pointer a c h)
  | slice a c len cap ccap h => exact one _ _ (.slice a c len cap ccap h)
  | tuple xs ys hs h => exact one _ _ (.tuple xs ys hs h)
  | func fn f1 f2 c1 c2 hs h hs' h' => exact one _ _ (.func fn f1 f2 c1 c2 hs h hs' h')
  | map r q h => exact one _ _ (.map r q h)

theorem LRel.agg {old : Nat} {μ : Mu} {l l' : List Value} (h : LRel old μ l l') : VRel old μ (.agg l.toArray) (.agg l'.toArray) :=
  .agg _ _ (by simpa using h.1) (fun i x y hx hy => h.2 i x y (by simpa using hx) (by simpa using hy))

theorem LRel.append {old : Nat} {μ : Mu} {a a' b b' : List Value} (h : LRel old μ a a') (k : LRel old μ b b') : LRel old μ (a ++ b) (a' ++ b') := by
  refine ⟨by simp [h.1, k.1], fun i x y hx hy => ?_⟩
  rw [List.getElem?_append] at hx hy
  rw [← h.1] at hy
  split at hx
  · rename_i hlt; rw [if_pos hlt] at hy; exact h.2 i x y hx hy
  · rename_i hlt; rw [if_neg hlt] at hy; exact k.2 _ x y hx hy

theorem LRel.refl_of {old : Nat} {μ : Mu} {l : List Value} (h : ∀ v ∈ l, flatS v = true) : LRel old μ l l :=
  ⟨rfl, fun i x y hx hy => by rw [hx] at hy; cases hy; exact .flat _ (h x (List.mem_of_getElem? hx))⟩

/-- What an operation must come to in the model. -/
def OpS (E : Env) (w0 : World) (μ : Mu) (σ : St) (w : World) (nid : Nat) (e : Eff) (s : Sem Next) : Prop :=
  ∃ r v' w' μ', s.run E.P w = .ok r w' ∧ (r = .value v' ∨ (r = .skip ∧ v' = undef)) ∧ VRel E.old μ' e.val v' ∧
    Rel E w0 μ' ⟨upds σ.heap e.upd, σ.next⟩ w' ∧ ∀ a, a ≠ nid → μ' a = μ a

section
variable {E : Env} {w0 w : World} {μ : Mu} {σ : St} {nid : Nat}

theorem OpS.val (hr : Rel E w0 μ σ w) {v v' : Value} {rds : List Nat} {s : Sem Value} (hs : s.run E.P w = .ok v' w) (hv : VRel E.old μ v v') :
    OpS E w0 μ σ w nid ⟨v, [], rds⟩ (do pure (.value (← s))) :=
  ⟨.value v', v', w, μ, by simp [hs], .inl rfl, hv, by simpa [upds] using hr, fun _ _ => rfl⟩

theorem run_isAgg {P : Program} {t : TypeId} {b : Bool} (h : isAggT P t = some b) (w : World) : (isAgg t).run P w = .ok b w := by
  unfold isAggT at h
  cases hu : P.underlying t with
  | none => simp [hu] at h
  | some d =>
    rw [hu] at h
    unfold isAgg
    simp only [Sem.run_bind, run_underlying hu, Result.andThen_ok]
    cases d <;> simp at h <;> subst h <;> rfl

theorem run_sizeOf {P : Program} {t : TypeId} {n : Nat} (h : sizeT P t = some n) (w : World) : (sizeOf t).run P w = .ok n w := by
  unfold sizeT at h
  cases hi : P.info? t with
  | none => simp [hi] at h
  | some i => simp [hi] at h; subst h; simp [sizeOf, typeInfo, hi]

theorem load_spec (hr : Rel E w0 μ σ w) {a c : Addr} (ha : ARel E.old μ a c) {t : TypeId} {e : Eff} (h : evLoad E σ.heap.get t (.pointer (some a)) = some e) :
    ∃ v', (loadVar t c).run E.P w = .ok v' w ∧ VRel E.old μ e.val v' ∧ e.upd = [] := by
  unfold evLoad at h
  simp only at h
  cases hg : isAggT E.P t with
  | none => simp [hg] at h
  | some b =>
    cases b with
    | true =>
      simp only [hg] at h
      cases hz : sizeT E.P t with
      | none => simp [hz] at h
      | some n =>
        simp only [hz] at h
        cases hl : rd E σ.heap.get a n with
        | none => simp [hl] at h
        | some l =>
          simp only [hl, Option.some.injEq] at h
          subst h
          obtain ⟨l', h1, h2, h3⟩ := rd_spec hr ha hl
          refine ⟨.agg l'.toArray, ?_, h1.agg, rfl⟩
          have := run_loadCells_list (P := E.P) w c l' h3
          rw [h2] at this
          simp [loadVar, run_isAgg hg, run_sizeOf hz, this]
    | false =>
      simp only [hg] at h
      cases hl : rd E σ.heap.get a 1 with
      | none => simp [hl] at h
      | some l =>
        obtain ⟨l', h1, h2, h3⟩ := rd_spec hr ha hl
        match l, l', h1, h2, h with
        | [v], [v'], h1, _, h =>
          simp only [hl, Option.some.injEq] at h
          subst h
          refine ⟨v', ?_, h1.2 0 _ _ rfl rfl, rfl⟩
          have hc := h3 0 v' rfl
          rw [add_off _ _ ha.2.1] at hc
          have hcc : (⟨c.block, c.off + 0, none⟩ : Addr) = c := by
            have := ha.2.1
            cases c; simp at this; simp [this]
          rw [hcc] at hc
          simp [loadVar, run_isAgg hg, hc]
        | [], _, _, _, h => simp [hl] at h
        | _ :: _ :: _, _, _, _, h => simp [hl] at h

theorem op_load (hr : Rel E w0 μ σ w) {t : TypeId} {x x' : Value} (hx : VRel E.old μ x x') {e : Eff} (h : evLoad E σ.heap.get t x = some e) :
    OpS E w0 μ σ w nid e (do pure (.value (← Instr.loadAt t x'))) := by
  have h0 := h
  unfold evLoad at h0
  split at h0
  · rename_i a
    obtain ⟨c, rfl, ha⟩ := hx.inv_pointer
    obtain ⟨v', h1, h2, h3⟩ := load_spec hr ha h
    obtain ⟨v, u, r⟩ := e
    simp only at h3
    subst h3
    exact .val hr (by simp [Instr.loadAt, Instr.sureAddr, h1]) h2
  · cases h0

theorem op_store (hr : Rel E w0 μ σ w) {t : TypeId} {x x' v v' : Value} (hx : VRel E.old μ x x') (hv : VRel E.old μ v v') {e : Eff} (h : evStore E σ.heap.get t x v = some e) :
    OpS E w0 μ σ w nid e (do Instr.storeAt t x' v'; pure .skip) := by
  unfold evStore at h
  split at h
  · rename_i a
    obtain ⟨c, rfl, ha⟩ := hx.inv_pointer
    split at h
    · rename_i hsz
      split at h
      · rename_i u hu
        cases h
        have hc := hv.cells
        obtain ⟨w', h1, h2⟩ := wr_spec hr ha hc hu
        have hcs : v'.cells.size = v.cells.size := by have := hc.1; simpa using this.symm
        refine ⟨.skip, undef, w', μ, ?_, .inr ⟨rfl, rfl⟩, .undef _ _, h2, fun _ _ => rfl⟩
        simp [Instr.storeAt, Instr.sureAddr, storeVar, run_sizeOf hsz, hcs, h1]
      · cases h
    · cases h
  · cases h

/-- A new block. -/
theorem Rel.allocW (hr : Rel E w0 μ σ w) (ho : E.old ≤ nid) (hn : nid < σ.next) (hm : μ nid = none) {l l' : List Value} (hl : LRel E.old μ l l') (rest : List Value) (e : TypeId) (x : Bool) (sz : Nat)
    (hsz : x = false → sizeT E.P e = some sz) (hx : x = true → rest = []) (hrest : ∀ v ∈ rest, flatS v = true) (fz : Nat × Nat) (hfx : E.P.underlying e ≠ some (.int .u8) → fz.2 ≤ fz.1) (hfz : NoFz fz (l'.length + rest.length)) (w' : World)
    (hw : w'.heap.size = w.heap.size + 1) (hat : w'.heap[w.heap.size]? = some (.cells (l' ++ rest).toArray e fz)) (hold : ∀ k, k < w.heap.size → w'.heap[k]? = w.heap[k]?) (hos : w'.os = w.os) (htp : w'.tape = w.tape) (hou : w'.output = w.output) :
    Rel E w0 (fun k => if k = nid then some ⟨w.heap.size, 0, l.length, x, sz, l'.length + rest.length⟩ else μ k) ⟨σ.heap.set nid (some (.cells l e x)), σ.next⟩ w' ∧
      Le μ (fun k => if k = nid then some ⟨w.heap.size, 0, l.length, x, sz, l'.length + rest.length⟩ else μ k) := by
  have hle : Le μ (fun k => if k = nid then some ⟨w.heap.size, 0, l.length, x, sz, l'.length + rest.length⟩ else μ k) := by
    intro a p hp
    by_cases ha : a = nid
    · subst ha; rw [hm] at hp; cases hp
    · simp [ha, hp]
  have hwz : w0.heap.size ≤ w.heap.size := hr.below.size
  refine ⟨⟨?_, hr.old_le, hr.old_next, hr.base, ?_, ?_, ?_, ?_⟩, hle⟩
  · exact hr.below.trans ⟨hos, htp, hou, by simp [hw], fun k hk => hold k (by omega)⟩
  · intro a p hp
    by_cases ha : a = nid
    · subst ha; exact ⟨hn, ho⟩
    · simp [ha] at hp; exact hr.dom a p hp
  · intro a b hb
    simp only at hb
    rw [T.get_set] at hb
    split at hb
    · rename_i ha
      subst ha
      cases hb
      refine ⟨_, by simp; rfl, rfl, rfl, hsz, (l' ++ rest).toArray, fz, hat, by simp, by simp [hl.1], ?_, by simpa using hfz, ?_, ?_⟩
      rotate_left 2
      · refine ⟨?_, hfx⟩
        intro j v _ hj hv
        simp only [Nat.zero_add] at hj
        have hj' : l'.length ≤ j := by rw [← hl.1]; exact hj
        simp only [List.getElem?_toArray] at hv
        rw [List.getElem?_append_right hj'] at hv
        exact hrest v (List.mem_of_getElem? hv)
      · intro hx'; simp [hx hx', hl.1]
      · intro i v hi
        have hil : i < l.length := (List.getElem?_eq_some_iff.1 hi).1
        have hil' : i < l'.length := by rw [← hl.1]; exact hil
        refine ⟨l'[i], ?_, (hl.2 i v _ hi (by simp [hil'])).mono hle⟩
        simp [List.getElem?_append, hil']
    · rename_i ha
      obtain ⟨p, hp, hbp⟩ := hr.blk a b hb
      refine ⟨p, by simp [ha, hp], (hbp.world (hold _ ?_)).mono hle⟩
      exact (hr.new a p hp).2
  · intro a p hp
    by_cases ha : a = nid
    · simp [ha] at hp; subst hp; simp [hw]; exact hwz
    · simp [ha] at hp
      have := hr.new a p hp
      simp [hw]
      omega
  · intro a a' b b' p p' hb hb' hp hp' hc
    simp only at hb hb'
    rw [T.get_set] at hb hb'
    by_cases ha : a = nid <;> by_cases ha' : a' = nid
    · omega
    · simp [ha] at hp; simp [ha'] at hp'
      have := (hr.new a' p' hp').2
      subst hp; simp at hc; omega
    · simp [ha] at hp; simp [ha'] at hp'
      have := (hr.new a p hp).2
      subst hp'; simp at hc; omega
    · simp [ha] at hp hb; simp [ha'] at hp' hb'
      exact hr.inj a a' b b' p p' hb hb' hp hp' hc

theorem Rel.alloc (hr : Rel E w0 μ σ w) (ho : E.old ≤ nid) (hn : nid < σ.next) (hm : μ nid = none) {l l' : List Value} (hl : LRel E.old μ l l') (rest : List Value) (e : TypeId) (x : Bool) (sz : Nat)
    (hsz : x = false → sizeT E.P e = some sz) (hx : x = true → rest = []) (hrest : ∀ v ∈ rest, flatS v = true) (C : Array Value) (hC : C.toList = l' ++ rest) :
    Rel E w0 (fun k => if k = nid then some ⟨w.heap.size, 0, l.length, x, sz, l'.length + rest.length⟩ else μ k) ⟨σ.heap.set nid (some (.cells l e x)), σ.next⟩ (w.alloc (.cells C e)) := by
  have hC' : C = (l' ++ rest).toArray := by apply Array.ext'; simp [hC]
  refine (hr.allocW ho hn hm hl rest e x sz hsz hx hrest (0, 0) (fun _ => Nat.le_refl _) (.inl (Nat.le_refl _)) (w.alloc (.cells C e)) (by simp) ?_ ?_ rfl rfl rfl).1
  · subst hC'; show (w.heap.push _)[w.heap.size]? = _; simp
  · intro k hk; exact Below.heap_alloc w _ k hk

/-- A new block of any kind. -/
theorem Rel.allocB (hr : Rel E w0 μ σ w) (ho : E.old ≤ nid) (hn : nid < σ.next) (hm : μ nid = none) (b : Blk) (p0 : Pl) (hp0 : p0.c = w.heap.size) (w' : World)
    (hw : w'.heap.size = w.heap.size + 1) (hold : ∀ k, k < w.heap.size → w'.heap[k]? = w.heap[k]?) (hos : w'.os = w.os) (htp : w'.tape = w.tape) (hou : w'.output = w.output)
    (hB : BRel E (fun k => if k = nid then some p0 else μ k) p0 w' b) :
    Rel E w0 (fun k => if k = nid then some p0 else μ k) ⟨σ.heap.set nid (some b), σ.next⟩ w' := by
  have hle : Le μ (fun k => if k = nid then some p0 else μ k) := by
    intro a p hp
    by_cases ha : a = nid
    · subst ha; rw [hm] at hp; cases hp
    · simp [ha, hp]
  have hwz : w0.heap.size ≤ w.heap.size := hr.below.size
  refine ⟨?_, hr.old_le, hr.old_next, hr.base, ?_, ?_, ?_, ?_⟩
  · exact hr.below.trans ⟨hos, htp, hou, by simp [hw], fun k hk => hold k (by omega)⟩
  · intro a p hp
    by_cases ha : a = nid
    · subst ha; exact ⟨hn, ho⟩
    · simp [ha] at hp; exact hr.dom a p hp
  · intro a b' hb
    simp only at hb
    rw [T.get_set] at hb
    split at hb
    · rename_i ha
      subst ha
      cases hb
      exact ⟨p0, by simp, hB⟩
    · rename_i ha
      obtain ⟨p, hp, hbp⟩ := hr.blk a b' hb
      refine ⟨p, by simp [ha, hp], (hbp.world (hold _ ?_)).mono hle⟩
      exact (hr.new a p hp).2
  · intro a p hp
    by_cases ha : a = nid
    · simp [ha] at hp; subst hp; rw [hp0, hw]; omega
    · simp [ha] at hp
      have := hr.new a p hp
      rw [hw]
      omega
  · intro a a' b b' p p' hb hb' hp hp' hc
    simp only at hb hb'
    rw [T.get_set] at hb hb'
    by_cases ha : a = nid <;> by_cases ha' : a' = nid
    · omega
    · simp [ha] at hp; simp [ha'] at hp'
      have := (hr.new a' p' hp').2
      subst hp; omega
    · simp [ha] at hp; simp [ha'] at hp'
      have := (hr.new a p hp).2
      subst hp'; omega
    · simp [ha] at hp hb; simp [ha'] at hp' hb'
      exact hr.inj a a' b b' p p' hb hb' hp hp' hc
/-- A block that is there changed. -/
theorem Rel.setB (hr : Rel E w0 μ σ w) {a : Nat} {b0 b : Blk} {p : Pl} (hb0 : σ.heap.get a = some b0) (hp : μ a = some p) (w' : World)
    (hw : w'.heap.size = w.heap.size) (hold : ∀ k, k ≠ p.c → w'.heap[k]? = w.heap[k]?) (hos : w'.os = w.os) (htp : w'.tape = w.tape) (hou : w'.output = w.output)
    (hB : BRel E μ p w' b) : Rel E w0 μ ⟨σ.heap.set a (some b), σ.next⟩ w' := by
  have hnew := hr.new _ _ hp
  refine ⟨?_, hr.old_le, hr.old_next, hr.base, hr.dom, ?_, fun a p hp => ?_, ?_⟩
  · exact hr.below.trans ⟨hos, htp, hou, by omega, fun k hk => hold k (by omega)⟩
  · intro k b' hk
    simp only at hk
    rw [T.get_set] at hk
    split at hk
    · rename_i hka
      subst hka
      cases hk
      exact ⟨p, hp, hB⟩
    · rename_i hka
      obtain ⟨q, hq, hbq⟩ := hr.blk k b' hk
      refine ⟨q, hq, hbq.world (hold _ fun e => hka ?_)⟩
      exact hr.inj k a b' b0 q p hk hb0 hq hp e
  · have := hr.new a p hp; rw [hw]; exact this
  · intro k k' c c' q q' hk hk' hq hq' hc
    simp only at hk hk'
    rw [T.get_set] at hk hk'
    by_cases h1 : k = a <;> by_cases h2 : k' = a
    · omega
    · subst h1; simp [h2] at hk'
      exact hr.inj k k' b0 c' q q' hb0 hk' hq hq' hc
    · subst h2; simp [h1] at hk
      exact hr.inj k k' c b0 q q' hk hb0 hq hq' hc
    · simp [h1] at hk; simp [h2] at hk'
      exact hr.inj k k' c c' q q' hk hk' hq hq' hc

theorem ARel.new {old : Nat} {μ : Mu} {nid c n sz tot : Nat} {x : Bool} (ho : old ≤ nid) : ARel old (fun k => if k = nid then some ⟨c, 0, n, x, sz, tot⟩ else μ k) ⟨nid, 0, none⟩ ⟨c, 0, none⟩ :=
  ⟨rfl, rfl, .inr ⟨ho, _, if_pos rfl, rfl, rfl⟩⟩

theorem op_box (hr : Rel E w0 μ σ w) (ho : E.old ≤ nid) (hn : nid < σ.next) (hm : μ nid = none) {t : TypeId} {x x' : Value} (hx : VRel E.old μ x x') :
    OpS E w0 μ σ w nid ⟨.pointer (some ⟨nid, 0, none⟩), [(nid, some (.cells x.cells.toList t true))], []⟩ (do pure (.value (← Instr.box t x'))) := by
  have h1 := hr.alloc ho hn hm hx.cells [] t true 0 (by simp) (by simp) (by simp) x'.cells (by simp)
  refine ⟨.value (.pointer (some ⟨w.heap.size, 0, none⟩)), _, w.alloc (.cells x'.cells t), _, by simp [Instr.box, newVar, newRow], .inl rfl, ?_, h1, fun a ha => by simp [ha]⟩
  exact .pointer _ _ (ARel.new ho)

theorem zero_spec {P : Program} {t : TypeId} {z : Array Value} (h : zeroCells? P t = some z) (w : World) : ∃ v i, P.info? t = some i ∧ i.zero = some v ∧ v.cells = z ∧ scalar v = true ∧ (zeroValue t).run P w = .ok v w := by
  unfold zeroCells? at h
  cases hi : P.info? t with
  | none => simp [hi] at h
  | some i =>
    cases hz : i.zero with
    | none => simp [hi, hz] at h
    | some v =>
      simp only [hi, hz, Option.bind_some] at h
      split at h
      · rename_i hs
        cases h
        exact ⟨v, i, rfl, hz, rfl, hs, by simp [zeroValue, typeInfo, hi, hz]⟩
      · cases h

theorem scalar_cells {v : Value} (h : scalar v = true) : ∀ x ∈ v.cells.toList, flatS x = true := by
  intro x hx
  cases v with
  | agg cs => simp only [Value.cells] at hx; simp only [scalar, List.all_eq_true] at h; exact h x hx
  | _ => simp only [Value.cells, List.mem_singleton] at hx; subst hx; simpa [scalar] using h

theorem op_alloc (hr : Rel E w0 μ σ w) (ho : E.old ≤ nid) (hn : nid < σ.next) (hm : μ nid = none) {t : TypeId} {z : Array Value} (hz : zeroCells? E.P t = some z) :
    OpS E w0 μ σ w nid ⟨.pointer (some ⟨nid, 0, none⟩), [(nid, some (.cells z.toList t true))], []⟩ (do pure (.value (← Instr.alloc t true (.tuple #[])))) := by
  obtain ⟨v, i, _, _, rfl, hs, hzr⟩ := zero_spec hz w
  have hl : LRel E.old μ v.cells.toList v.cells.toList := .refl_of (scalar_cells hs)
  have h1 := hr.alloc ho hn hm hl [] t true 0 (by simp) (by simp) (by simp) v.cells (by simp)
  refine ⟨.value (.pointer (some ⟨w.heap.size, 0, none⟩)), _, w.alloc (.cells v.cells t), _, by simp [Instr.alloc, hzr, newVar, newRow], .inl rfl, ?_, h1, fun a ha => by simp [ha]⟩
  exact .pointer _ _ (ARel.new ho)

/-- Parts of a literal. -/
def PRel (old : Nat) (μ : Mu) (l l' : List (Nat × Value)) : Prop :=
  l.length = l'.length ∧ ∀ (i : Nat) (x y : Nat × Value), l[i]? = some x → l'[i]? = some y → x.1 = y.1 ∧ VRel old μ x.2 y.2

theorem foldl_set_toList (vs : List Value) : ∀ (k off : Nat) (cs : Array Value), off + (k + vs.length) ≤ cs.size →
    ((vs.zipIdx k).foldl (fun cs x => cs.setIfInBounds (off + x.2) x.1) cs).toList = wrList cs.toList (off + k) vs := by
  induction vs with
  | nil => intro k off cs h; simp [wrList]
  | cons v vs ih =>
    intro k off cs h
    simp only [List.zipIdx_cons, List.foldl_cons]
    rw [ih (k + 1) off _ (by simp at h ⊢; omega)]
    simp only [Array.toList_setIfInBounds]
    have := list_seg_step cs.toList (off + k) v vs (by simp at h ⊢; omega)
    simp only [wrList, List.length_cons]
    rw [← Nat.add_assoc] at *
    simpa [Nat.add_assoc] using this

theorem wrList_get (cs vs : List Value) (off i : Nat) (h : off + vs.length ≤ cs.length) :
    (wrList cs off vs)[i]? = if i < off then cs[i]? else if i < off + vs.length then vs[i - off]? else cs[i]? := by
  unfold wrList
  simp only [List.getElem?_append, List.length_take, List.getElem?_take, List.getElem?_drop]
  have hmin : min off cs.length = off := by omega
  rw [hmin]
  by_cases hj : i < off
  · simp [hj]
  · by_cases hj2 : i < off + vs.length
    · have : i - off < vs.length := by omega
      simp [hj, hj2, this]
    · have : ¬ (i - off < vs.length) := by omega
      simp only [hj, hj2, this, if_false]
      congr 1
      omega

theorem wrList_length (cs vs : List Value) (off : Nat) (h : off + vs.length ≤ cs.length) : (wrList cs off vs).length = cs.length := by
  simp [wrList]; omega

theorem LRel.wr {old : Nat} {μ : Mu} {cs cs' vs vs' : List Value} (hc : LRel old μ cs cs') (hv : LRel old μ vs vs') (off : Nat) (h : off + vs.length ≤ cs.length) :
    LRel old μ (wrList cs off vs) (wrList cs' off vs') := by
  have h' : off + vs'.length ≤ cs'.length := by rw [← hc.1, ← hv.1]; exact h
  refine ⟨by rw [wrList_length _ _ _ h, wrList_length _ _ _ h', hc.1], fun i x y hx hy => ?_⟩
  rw [wrList_get _ _ _ _ h] at hx
  rw [wrList_get _ _ _ _ h', ← hv.1] at hy
  by_cases h1 : i < off
  · rw [if_pos h1] at hx hy; exact hc.2 i x y hx hy
  · rw [if_neg h1] at hx hy
    by_cases h2 : i < off + vs.length
    · rw [if_pos h2] at hx hy; exact hv.2 _ x y hx hy
    · rw [if_neg h2] at hx hy; exact hc.2 i x y hx hy

theorem fill_rel {old : Nat} {μ : Mu} (place : Nat → Option (Nat × Nat)) : ∀ (ps ps' : List (Nat × Value)) (cs cs' r : Array Value), PRel old μ ps ps' → LRel old μ cs.toList cs'.toList →
    Instr.fill place cs ps = some r → ∃ r', Instr.fill place cs' ps' = some r' ∧ LRel old μ r.toList r'.toList
  | [], [], cs, cs', r, _, hc, h => by simp [Instr.fill] at h; subst h; exact ⟨cs', rfl, hc⟩
  | [], _ :: _, _, _, _, hp, _, _ => by simp [PRel] at hp
  | _ :: _, [], _, _, _, hp, _, _ => by simp [PRel] at hp
  | (i, v) :: ps, (i', v') :: ps', cs, cs', r, hp, hc, h => by
    obtain ⟨rfl, hv⟩ := hp.2 0 (i, v) (i', v') rfl rfl
    have hp' : PRel old μ ps ps' := ⟨by have := hp.1; simpa using this, fun j x y hx hy => hp.2 (j + 1) x y (by simpa using hx) (by simpa using hy)⟩
    simp only [Instr.fill] at h ⊢
    cases hpl : place i with
    | none => simp [hpl] at h
    | some os =>
      obtain ⟨off, size⟩ := os
      simp only [hpl] at h ⊢
      have hvc := hv.cells
      have hsz : v'.cells.size = v.cells.size := by have := hvc.1; simpa using this.symm
      have hcz : cs'.size = cs.size := by have := hc.1; simpa using this.symm
      rw [hsz, hcz]
      split at h
      · cases h
      · rename_i hno
        rw [if_neg hno]
        have hfit : off + v.cells.toList.length ≤ cs.toList.length := by
          simp at hno
          simp
          omega
        refine fill_rel place ps ps' _ _ r hp' ?_ h
        have e1 := foldl_set_toList v.cells.toList 0 off cs (by simpa using hfit)
        have e2 := foldl_set_toList v'.cells.toList 0 off cs' (by simp [hsz, hcz]; simpa using hfit)
        have f1 : (v.cells.zipIdx.foldl (fun cs (c, j) => cs.setIfInBounds (off + j) c) cs).toList = wrList cs.toList off v.cells.toList := by
          rw [← Array.foldl_toList, Array.toList_zipIdx]
          simpa using e1
        have f2 : (v'.cells.zipIdx.foldl (fun cs (c, j) => cs.setIfInBounds (off + j) c) cs').toList = wrList cs'.toList off v'.cells.toList := by
          rw [← Array.foldl_toList, Array.toList_zipIdx]
          simpa using e2
        rw [f1, f2]
        exact hc.wr hvc off hfit

theorem built_rel {P : Program} {old : Nat} {μ : Mu} {t : TypeId} {ps ps' : List (Nat × Value)} (hp : PRel old μ ps ps') {z : Array Value} (hz : zeroCells? P t = some z) {r : Array Value} (h : P.built t ps = some r) :
    ∃ r', P.built t ps' = some r' ∧ LRel old μ r.toList r'.toList := by
  obtain ⟨v, i, hi, hiz, rfl, hs, _⟩ := zero_spec hz default
  have hl : LRel old μ v.cells.toList v.cells.toList := .refl_of (scalar_cells hs)
  unfold Program.built at h ⊢
  rw [hi] at h ⊢
  cases hu : P.underlying t with
  | none => simp [hu] at h
  | some d =>
    rw [hu] at h
    cases d <;> simp only [hiz] at h ⊢ <;> first | (cases h; done) | skip
    case array n e =>
      cases he : P.info? e with
      | none => simp [he] at h
      | some ie => simp only [he] at h ⊢; exact fill_rel _ _ _ _ _ _ hp hl h
    case struct fields =>
      cases hm : fields.toList.mapM (fun f => (P.info? f.type).map fun i => (f.offset, i.size)) with
      | none => simp [hm] at h
      | some pl => simp only [hm] at h ⊢; exact fill_rel _ _ _ _ _ _ hp hl h

theorem op_build (hr : Rel E w0 μ σ w) {t : TypeId} {ps : List (Nat × Value)} {ps' : Array (Nat × Value)} (hp : PRel E.old μ ps ps'.toList) {v : Value} (h : evBuild E.P t ps = some v) :
    OpS E w0 μ σ w nid ⟨v, [], []⟩ (do pure (.value (← Instr.build t ps'))) := by
  unfold evBuild at h
  cases hz : zeroCells? E.P t with
  | none => simp [hz] at h
  | some z =>
    simp only [hz] at h
    cases hb : E.P.built t ps with
    | none => simp [hb] at h
    | some r =>
      simp only [hb, Option.map_some, Option.some.injEq] at h
      subst h
      obtain ⟨r', h1, h2⟩ := built_rel hp hz hb
      refine .val hr (run_build w t ps' r' h1) ?_
      have := h2.agg
      simpa using this
end
end Go.Ab

/- Each operation of the abstract evaluator is what the model does: slices, append, copy, make, conversions; all of them. -/
set_option linter.all false
open Go.RowKit
namespace Go.Ab
section
variable {E : Env} {w0 w : World} {μ : Mu} {σ : St} {nid : Nat}

theorem elemT_spec {P : Program} {t e : TypeId} (h : elemT P t = some e) : P.underlying t = some (.slice e) := by
  unfold elemT at h
  split at h
  · rename_i e' hu; cases h; exact hu
  · cases h

theorem ARel.move {old : Nat} {a c : Addr} (h : ARel old μ a c) (k : Nat) : ARel old μ ⟨a.block, a.off + k, none⟩ (c.add k) := by
  obtain ⟨h1, h2, h3⟩ := h
  rw [add_off c k h2]
  refine ⟨rfl, rfl, ?_⟩
  rcases h3 with ⟨hlt, rfl⟩ | ⟨hge, p, hp, hb, ho⟩
  · exact .inl ⟨hlt, rfl⟩
  · exact .inr ⟨hge, p, hp, hb, by simp [ho]; omega⟩

theorem ARel.move' {old : Nat} {a c : Addr} (h : ARel old μ a c) (k : Nat) : ARel old μ ⟨a.block, a.off + k, none⟩ ⟨c.block, c.off + k, none⟩ := by
  have := h.move k
  rwa [add_off c k h.2.1] at this

theorem op_buildSlice (hr : Rel E w0 μ σ w) (ho : E.old ≤ nid) (hn : nid < σ.next) (hm : μ nid = none) {t : TypeId} {len : Nat} {ps : List (Nat × Value)} {ps' : Array (Nat × Value)} (hp : PRel E.old μ ps ps'.toList)
    {e : Eff} (h : evBuildSlice E.P nid t len ps = some e) : OpS E w0 μ σ w nid e (do pure (.value (← Instr.buildSlice t len ps'))) := by
  unfold evBuildSlice at h
  cases het : elemT E.P t with
  | none => simp [het] at h
  | some el =>
    simp only [het] at h
    cases hz : sizeT E.P el with
    | none => simp [hz] at h
    | some size =>
      cases hzc : zeroCells? E.P el with
      | none => simp [hz, hzc] at h
      | some z =>
        simp only [hz, hzc] at h
        split at h
        · rename_i hc
          obtain ⟨hle, hzp⟩ := hc
          split at h
          · rename_i cs hf
            cases h
            obtain ⟨v, i, hi, hiz, rfl, hs, hzr⟩ := zero_spec hzc w
            have hsz : i.size = size := by simpa [sizeT, hi] using hz
            subst hsz
            have hrow : (zeroRow v.cells (len * i.size)) = ((Array.range (len * i.size)).map (v.cells[· % v.cells.size]!)).toList := by
              unfold zeroRow
              split
              · rename_i h1
                apply List.ext_getElem?
                intro j
                by_cases hj : j < len * i.size
                · simp [hj, h1, Nat.mod_one, getElem!_def, Array.getD]
                · simp [hj]
              · simp
            have hflat : ∀ x ∈ zeroRow v.cells (len * i.size), flatS x = true := by
              intro x hx
              rw [hrow] at hx
              simp at hx
              obtain ⟨j, _, rfl⟩ := hx
              have hlt : j % v.cells.size < v.cells.size := Nat.mod_lt _ hzp
              have : v.cells[j % v.cells.size]! = v.cells[j % v.cells.size] := by simp [getElem!_def, hlt]
              rw [this]
              exact scalar_cells hs _ (by simp)
            have hl : LRel E.old μ (zeroRow v.cells (len * i.size)).toArray.toList (zeroRow v.cells (len * i.size)).toArray.toList := by
              simpa using LRel.refl_of hflat
            obtain ⟨r', hf', hrel⟩ := fill_rel _ _ _ _ _ _ hp hl hf
            have h1 := hr.alloc ho hn hm hrel [] el true 0 (by simp) (by simp) (by simp) r' (by simp)
            have hrun : (Instr.buildSlice t len ps').run E.P w = .ok (.slice (some ⟨w.heap.size, 0, none⟩) len len) (w.alloc (.cells r' el)) := by
              have hf'' : Instr.fill (fun i_1 => some (i_1 * i.size, i.size)) ((Array.range (len * i.size)).map (v.cells[· % v.cells.size]!)) ps'.toList = some r' := by
                rw [← hf', hrow]
              have hng : ¬ (16777216 < len * i.size) := by omega
              by_cases h0 : len * i.size = 0
              · have he : ∀ f : Nat → Value, (Array.range (len * i.size)).map f = #[] := by
                  intro f; rw [h0]; apply Array.ext'; simp
                rw [he] at hf''
                simp only [Instr.buildSlice, Sem.run_bind, run_underlying (elemT_spec het), Result.andThen_ok, run_sizeOf hz, he]
                simp [h0, newRow, he, hf'']
              · exact run_buildSlice w t el len ps' r' i v (elemT_spec het) hi hiz (by simpa using hng) h0 hf''
            refine ⟨.value (.slice (some ⟨w.heap.size, 0, none⟩) len len), _, w.alloc (.cells r' el), _, by simp [hrun], .inl rfl, ?_, h1, fun a ha => by simp [ha]⟩
            exact .slice _ _ _ _ _ (.inr ⟨ARel.new ho, .inl rfl⟩)
          · cases h
        · cases h

theorem op_fieldAddr (hr : Rel E w0 μ σ w) {t : TypeId} {x x' : Value} (hx : VRel E.old μ x x') {f : Nat} {v : Value} (h : evFieldAddr E.P t x f = some v) :
    OpS E w0 μ σ w nid ⟨v, [], []⟩ (do pure (.value (← Instr.fieldAt t x' f))) := by
  unfold evFieldAddr at h
  split at h
  · rename_i fields a hu
    obtain ⟨c, rfl, ha⟩ := hx.inv_pointer
    cases hf : fields[f]? with
    | none => simp [hf] at h
    | some fd =>
      simp only [hf] at h
      cases hz : sizeT E.P fd.type with
      | none => simp [hz] at h
      | some n =>
        simp only [hz] at h
        split at h
        · cases h
        · rename_i hno
          cases h
          have hn0 : n ≠ 0 := fun e => hno (.inl e)
          refine .val hr (v' := .pointer (some (c.add fd.offset))) ?_ (.pointer _ _ (ha.move _))
          simp [Instr.fieldAt, run_underlying hu, hf, Instr.sureAddr, fieldPlace, run_sizeOf hz, hn0]
  · cases h

theorem part_spec {P : Program} {t : TypeId} {n : Nat} {old : Nat} {xs ys : Array Value} (hs : xs.size = ys.size) (hrel : ∀ (i : Nat) (x y : Value), xs[i]? = some x → ys[i]? = some y → VRel old μ x y)
    (hz : sizeT P t = some n) (off : Nat) (w : World) :
    (isAggT P t = some true → ∃ v', (part t ys off).run P w = .ok v' w ∧ VRel old μ (.agg (xs.extract off (off + n))) v') ∧
    (isAggT P t = some false → ∀ v, xs[off]? = some v → ∃ v', (part t ys off).run P w = .ok v' w ∧ VRel old μ v v') := by
  constructor
  · intro hg
    refine ⟨.agg (ys.extract off (off + n)), by simp [part, run_isAgg hg, run_sizeOf hz], .agg _ _ (by simp [hs]) ?_⟩
    intro i x y hx hy
    rw [Array.getElem?_extract] at hx hy
    rw [← hs] at hy
    split at hx
    · rename_i hlt
      rw [if_pos hlt] at hy
      exact hrel _ x y hx hy
    · cases hx
  · intro hg v hv
    have hlt : off < ys.size := by have := (Array.getElem?_eq_some_iff.1 hv).1; omega
    refine ⟨ys[off], by simp [part, run_isAgg hg, hlt], hrel off v _ hv (by simp [hlt])⟩

theorem op_field (hr : Rel E w0 μ σ w) {t : TypeId} {x x' : Value} (hx : VRel E.old μ x x') {f : Nat} {v : Value} (h : evField E.P t x f = some v) :
    OpS E w0 μ σ w nid ⟨v, [], []⟩ (do pure (.value (← Instr.field t x' f))) := by
  unfold evField at h
  split at h
  · rename_i fields cs hu
    obtain ⟨ys, rfl, hs, hrel⟩ := hx.inv_agg
    cases hf : fields[f]? with
    | none => simp [hf] at h
    | some fd =>
      simp only [hf] at h
      have hrun : ∀ v', (part fd.type ys fd.offset).run E.P w = .ok v' w → (Instr.field t (.agg ys) f).run E.P w = .ok v' w := by
        intro v' hv'
        simp [Instr.field, run_underlying hu, hf, asAgg, hv']
      cases hg : isAggT E.P fd.type with
      | none => simp [hg] at h
      | some b =>
        cases b with
        | true =>
          simp only [hg] at h
          cases hz : sizeT E.P fd.type with
          | none => simp [hz] at h
          | some n =>
            simp only [hz, Option.some.injEq] at h
            subst h
            obtain ⟨v', h1, h2⟩ := (part_spec hs hrel hz fd.offset w).1 hg
            exact .val hr (hrun _ h1) h2
        | false =>
          simp only [hg] at h
          have hlt : fd.offset < ys.size := by have := (Array.getElem?_eq_some_iff.1 h).1; omega
          exact .val hr (v' := ys[fd.offset]) (hrun _ (by simp [part, run_isAgg hg, hlt])) (hrel _ v _ h (by simp [hlt]))
  · cases h

theorem op_indexAddr (hr : Rel E w0 μ σ w) {t : TypeId} {x x' i i' : Value} (hx : VRel E.old μ x x') (hi : VRel E.old μ i i') {v : Value} (h : evIndexAddr E.P t x i = some v) :
    OpS E w0 μ σ w nid ⟨v, [], []⟩ (do pure (.value (← Instr.indexAt t x' i'))) := by
  unfold evIndexAddr at h
  split at h
  · rename_i len el a k n hu
    obtain ⟨c, rfl, ha⟩ := hx.inv_pointer
    have := hi.flat_eq rfl
    subst this
    cases hz : sizeT E.P el with
    | none => simp [hz] at h
    | some sz =>
      simp only [hz] at h
      split at h
      · rename_i hc
        cases h
        refine .val hr (v' := .pointer (some (c.add (n.toNat * sz)))) ?_ (.pointer _ _ (ha.move _))
        simp [Instr.indexAt, asIntOf, run_underlying hu, Instr.sureAddr, hc.1, hc.2.1, run_sizeOf hz]
      · cases h
  · rename_i el a len cap k n hu
    obtain ⟨c, ck, rfl, hsr⟩ := hx.inv_slice
    have := hi.flat_eq rfl
    subst this
    cases hz : sizeT E.P el with
    | none => simp [hz] at h
    | some sz =>
      simp only [hz] at h
      split at h
      · rename_i hc
        cases h
        rcases hsr with ⟨h0, _⟩ | ⟨ha, _⟩
        · omega
        · refine .val hr (v' := .pointer (some (c.add (n.toNat * sz)))) ?_ (.pointer _ _ (ha.move _))
          simp [Instr.indexAt, asIntOf, run_underlying hu, hc.1, hc.2.1, run_sizeOf hz]
      · cases h
  · cases h

theorem op_index (hr : Rel E w0 μ σ w) {t : TypeId} {x x' i i' : Value} (hx : VRel E.old μ x x') (hi : VRel E.old μ i i') {v : Value} (h : evIndex E.P t x i = some v) :
    OpS E w0 μ σ w nid ⟨v, [], []⟩ (do pure (.value (← Instr.index t x' i'))) := by
  unfold evIndex at h
  split at h
  · rename_i len el cs k n hu
    obtain ⟨ys, rfl, hs, hrel⟩ := hx.inv_agg
    have := hi.flat_eq rfl
    subst this
    have hrun : ∀ v' sz, sizeT E.P el = some sz → 0 ≤ n ∧ n < len → (part el ys (n.toNat * sz)).run E.P w = .ok v' w → (Instr.index t (.agg ys) (.int k n)).run E.P w = .ok v' w := by
      intro v' sz hz hc hv'
      simp [Instr.index, asIntOf, run_underlying hu, hc.1, hc.2, run_sizeOf hz, hv']
    split at h
    · rename_i sz hz hg
      split at h
      · rename_i hc
        cases h
        obtain ⟨v', h1, h2⟩ := (part_spec hs hrel hz (n.toNat * sz) w).1 hg
        exact .val hr (hrun _ sz hz hc h1) h2
      · cases h
    · rename_i sz hz hg
      split at h
      · rename_i hc
        obtain ⟨v', h1, h2⟩ := (part_spec hs hrel hz (n.toNat * sz) w).2 hg v h
        exact .val hr (hrun _ sz hz hc h1) h2
      · cases h
    · cases h
  · rename_i s k n hu
    have := hx.flat_eq rfl
    subst this
    have := hi.flat_eq rfl
    subst this
    split at h
    · rename_i hc
      cases h
      have hlt : n.toNat < s.size := by omega
      refine .val hr (v' := .int .u8 (s[n.toNat]!).toNat) ?_ (.flat _ rfl)
      have he : s[n.toNat]? = some (s[n.toNat]!) := by simp [getElem?_def, getElem!_def, hlt]
      simp [Instr.index, asIntOf, run_underlying hu, hc.1, he]
    · cases h
  · cases h

theorem bound_spec {P : Program} {old : Nat} {x x' : Value} (hx : VRel old μ x x') {d y n : Nat} (h : bound? (some x) d y = some n) (y' : Nat) (hy : y ≤ y') (code : BoundsCode) (w : World) :
    n ≤ y ∧ (Instr.sliceBound x' y' code).run P w = .ok n w := by
  unfold bound? at h
  split at h
  · rename_i he
    cases he
  · rename_i k i hxx
    cases hxx
    have := hx.flat_eq rfl
    subst this
    split at h
    · rename_i hc
      cases h
      refine ⟨by omega, ?_⟩
      have : i ≤ (y' : Int) := by omega
      simp [Instr.sliceBound, asIntOf, hc.1, this]
    · cases h
  · cases h

theorem bounds_spec {P : Program} {old : Nat} {lo hi : Option Value} {lo' hi' : Option Value} (hl : ∀ x, lo = some x → ∃ x', lo' = some x' ∧ VRel old μ x x') (hl0 : lo = none → lo' = none)
    (hh : ∀ x, hi = some x → ∃ x', hi' = some x' ∧ VRel old μ x x') (hh0 : hi = none → hi' = none) {len cap cap' h l : Nat} (hc : cap ≤ cap')
    (e1 : bound? hi len cap = some h) (e2 : bound? lo 0 h = some l) (isS : Bool) (hlen : len ≤ cap) (w : World) :
    l ≤ h ∧ h ≤ cap ∧ (Instr.sliceBounds isS len cap' lo' hi' none).run P w = .ok (l, h, cap') w := by
  have A : ∀ code, h ≤ cap ∧ (match hi' with | some v => Instr.sliceBound v cap' code | none => pure len).run P w = .ok h w := by
    intro code
    cases hi with
    | none => rw [hh0 rfl]; simp [bound?] at e1; subst e1; exact ⟨hlen, rfl⟩
    | some x =>
      obtain ⟨x', rfl, hx⟩ := hh x rfl
      exact bound_spec hx e1 cap' hc code w
  have B : ∀ code, l ≤ h ∧ (match lo' with | some v => Instr.sliceBound v h code | none => pure 0).run P w = .ok l w := by
    intro code
    cases lo with
    | none => rw [hl0 rfl]; simp [bound?] at e2; subst e2; exact ⟨Nat.zero_le _, rfl⟩
    | some x =>
      obtain ⟨x', rfl, hx⟩ := hl x rfl
      exact bound_spec hx e2 h (Nat.le_refl _) code w
  refine ⟨(B .sliceB).1, (A .sliceB).1, ?_⟩
  unfold Instr.sliceBounds
  cases hi' with
  | none =>
    have a := (A .sliceB).2
    cases lo' with
    | none =>
      have b := (B .sliceB).2
      simp at a b
      simp [a, b]
    | some y =>
      have b := (B .sliceB).2
      simp at a b
      simp [a, b]
  | some y0 =>
    have a := (A (if isS then .sliceAcap else .sliceAlen)).2
    cases lo' with
    | none =>
      have b := (B .sliceB).2
      simp at a b
      simp [a, b]
    | some y =>
      have b := (B .sliceB).2
      simp at a b
      simp [a, b]

theorem SRel.cap_le {old : Nat} {a c : Addr} {len cap ccap : Nat} (h : SRel old μ a c len cap ccap) : cap ≤ ccap := by
  rcases h with ⟨_, h1, h2, _⟩ | ⟨_, h | ⟨_, h, _⟩⟩ <;> omega

/-- A slice of a slice. -/
theorem SRel.sub {old : Nat} {a c : Addr} {len cap ccap : Nat} (h : SRel old μ a c len cap ccap) {l hh n : Nat} (h1 : l ≤ hh) (h2 : hh ≤ cap)
    (hz : ∀ p, old ≤ a.block → μ a.block = some p → p.ex = false → p.sz = n) :
    SRel old μ ⟨a.block, a.off + l * n, none⟩ (if ccap = l then c else c.add (l * n)) (hh - l) (cap - l) (ccap - l) := by
  rcases h with ⟨e1, e2, e3, e4, e5⟩ | ⟨ha, h⟩
  · exact .inl ⟨by omega, by omega, by omega, rfl, e5⟩
  · by_cases e : ccap = l
    · rw [if_pos e]
      have : cap ≤ ccap := by rcases h with h | ⟨_, h, _⟩ <;> omega
      refine .inl ⟨by omega, by omega, by omega, rfl, ?_⟩
      obtain ⟨_, _, ⟨q, _⟩ | ⟨_, p, hp, _⟩⟩ := ha
      · exact .inl q
      · exact .inr ⟨p, hp⟩
    · rw [if_neg e]
      refine .inr ⟨ha.move _, ?_⟩
      rcases h with h | ⟨ho, hc, p, hp, hx, h3, h4⟩
      · exact .inl (by omega)
      · have hs := hz p ho hp hx
        subst hs
        refine .inr ⟨ho, by omega, p, hp, hx, ?_, ?_⟩
        · simp only
          have : cap * p.sz = l * p.sz + (cap - l) * p.sz := by rw [← Nat.add_mul]; congr 1; omega
          omega
        · simp only
          have : ccap * p.sz = l * p.sz + (ccap - l) * p.sz := by rw [← Nat.add_mul]; congr 1; omega
          omega

theorem szOk_spec (hr : Rel E w0 μ σ w) {a : Addr} {n : Nat} (h : szOk E σ.heap.get a n = true) : ∀ p, E.old ≤ a.block → μ a.block = some p → p.ex = false → p.sz = n := by
  intro p ho hp hx
  unfold szOk at h
  rw [if_neg (by omega)] at h
  split at h
  · rename_i cs e x hb
    obtain ⟨p', hp', h1, h2, h3, _⟩ := hr.blk _ _ hb
    rw [hp] at hp'
    cases hp'
    have hx' : x = false := by rw [← h2]; exact hx
    subst hx'
    simp at h
    have := h3 rfl
    rw [h] at this
    cases this
    rfl
  · cases h
end
end Go.Ab

/- Slicing, append, copy, clear, make, conversions. -/
set_option linter.all false
open Go.RowKit
namespace Go.Ab

def ORel (old : Nat) (μ : Mu) (x x' : Option Value) : Prop :=
  (x = none ∧ x' = none) ∨ ∃ v v', x = some v ∧ x' = some v' ∧ VRel old μ v v'

section
variable {E : Env} {w0 w : World} {μ : Mu} {σ : St} {nid : Nat}

theorem bounds_spec' {P : Program} {old : Nat} {lo hi lo' hi' : Option Value} (hl : ORel old μ lo lo') (hh : ORel old μ hi hi') {len cap cap' h l : Nat} (hc : cap ≤ cap')
    (e1 : bound? hi len cap = some h) (e2 : bound? lo 0 h = some l) (isS : Bool) (hlen : len ≤ cap) (w : World) :
    l ≤ h ∧ h ≤ cap ∧ (Instr.sliceBounds isS len cap' lo' hi' none).run P w = .ok (l, h, cap') w := by
  refine bounds_spec (μ := μ) (old := old) ?_ ?_ ?_ ?_ hc e1 e2 isS hlen w
  · intro x hx; rcases hl with ⟨rfl, _⟩ | ⟨v, v', rfl, rfl, h⟩
    · cases hx
    · cases hx; exact ⟨v', rfl, h⟩
  · intro hx; rcases hl with ⟨_, rfl⟩ | ⟨v, v', rfl, rfl, h⟩
    · rfl
    · cases hx
  · intro x hx; rcases hh with ⟨rfl, _⟩ | ⟨v, v', rfl, rfl, h⟩
    · cases hx
    · cases hx; exact ⟨v', rfl, h⟩
  · intro hx; rcases hh with ⟨_, rfl⟩ | ⟨v, v', rfl, rfl, h⟩
    · rfl
    · cases hx

theorem op_slice (hr : Rel E w0 μ σ w) {t : TypeId} {x x' : Value} (hx : VRel E.old μ x x') {lo lo' hi hi' mx mx' : Option Value} (hlo : ORel E.old μ lo lo') (hhi : ORel E.old μ hi hi') (hmx : ORel E.old μ mx mx')
    {e : Eff} (h : evSlice E σ.heap.get t x lo hi mx = some e) : OpS E w0 μ σ w nid e (do pure (.value (← Instr.sliceAt t x' lo' hi' mx'))) := by
  unfold evSlice at h
  split at h
  · rename_i s hu
    have := hx.flat_eq rfl
    subst this
    split at h
    · rename_i hh' e1
      split at h
      · rename_i l e2
        cases h
        have hmx' : mx' = none := by rcases hmx with ⟨_, h⟩ | ⟨v, v', h, _⟩; exact h; cases h
        subst hmx'
        obtain ⟨h1, h2, h3⟩ := bounds_spec' (P := E.P) hlo hhi (Nat.le_refl _) e1 e2 false (Nat.le_refl _) w
        refine .val hr (v' := .string (s.extract l hh')) ?_ (.flat _ rfl)
        simp [Instr.sliceAt, Instr.slice, run_underlying hu, h3]
      · cases h
    · cases h
  · rename_i el hu
    have := hx.flat_eq rfl
    subst this
    split at h
    · rename_i a b e1 e2
      split at h
      · rename_i n hz
        cases h
        have hmx' : mx' = none := by rcases hmx with ⟨_, h⟩ | ⟨v, v', h, _⟩; exact h; cases h
        subst hmx'
        have e2' : bound? lo 0 a = some b := by
          have ha : a = 0 := by
            unfold bound? at e1
            split at e1
            · cases e1; rfl
            · split at e1
              · cases e1; omega
              · cases e1
            · cases e1
          rw [ha]; exact e2
        obtain ⟨h1, h2, h3⟩ := bounds_spec' (P := E.P) hlo hhi (Nat.le_refl 0) e1 e2' true (Nat.le_refl _) w
        have hb : b = 0 := by omega
        have ha : a = 0 := by omega
        subst hb; subst ha
        refine .val hr (v' := .slice none 0 0) ?_ (.flat _ rfl)
        simp [Instr.sliceAt, Instr.slice, run_underlying hu, h3, run_sizeOf hz]
      · cases h
    · rename_i m a b e1 e2
      split at h
      · rename_i hv mm n em hz
        cases h
        rcases hmx with ⟨h0, _⟩ | ⟨mv, mv', hmv, rfl, hmr⟩
        · cases h0
        cases hmv
        rcases hhi with ⟨h0, _⟩ | ⟨hv1, hv1', hhv, rfl, hhr⟩
        · cases h0
        cases hhv
        have b1 := bound_spec (P := E.P) hmr em 0 (Nat.le_refl _) .slice3Acap w
        have hmm : mm = 0 := by omega
        subst hmm
        have b2 := bound_spec (P := E.P) hhr e1 0 (Nat.le_refl _) .slice3B w
        have ha : a = 0 := by omega
        subst ha
        have b3 : b ≤ 0 ∧ (match lo' with | some v => Instr.sliceBound v 0 .slice3C | none => pure 0).run E.P w = .ok b w := by
          rcases hlo with ⟨rfl, rfl⟩ | ⟨lv, lv', rfl, rfl, hlr⟩
          · simp [bound?] at e2; subst e2; exact ⟨Nat.zero_le _, rfl⟩
          · exact bound_spec hlr e2 0 (Nat.le_refl _) .slice3C w
        have hb : b = 0 := by omega
        subst hb
        have hrun : (Instr.sliceBounds true 0 0 lo' (some hv1') (some mv')).run E.P w = .ok (0, 0, 0) w := by
          unfold Instr.sliceBounds
          cases lo' with
          | none => have := b3.2; simp at this; simp [b1.2, b2.2]
          | some y => have := b3.2; simp at this; simp [b1.2, b2.2, this]
        refine .val hr (v' := .slice none 0 0) ?_ (.flat _ rfl)
        simp [Instr.sliceAt, Instr.slice, run_underlying hu, hrun, run_sizeOf hz]
      · cases h
    · cases h
  · rename_i el a len cap hu
    obtain ⟨c, ck, rfl, hsr⟩ := hx.inv_slice
    split at h
    · rename_i n hz
      split at h
      · rename_i hsz
        split at h
        · rename_i hh' e1
          split at h
          · rename_i l e2
            cases h
            have hmx' : mx' = none := by rcases hmx with ⟨_, h⟩ | ⟨v, v', h, _⟩; exact h; cases h
            subst hmx'
            obtain ⟨h1, h2, h3⟩ := bounds_spec' (P := E.P) hlo hhi hsr.cap_le e1 e2 true hsz.2 w
            have hs := hsr.sub (n := n) h1 h2 (szOk_spec hr hsz.1)
            refine .val hr (v' := .slice (some (if ck = l then c else c.add (l * n))) (hh' - l) (ck - l)) ?_ (.slice _ _ _ _ _ hs)
            simp [Instr.sliceAt, Instr.slice, run_underlying hu, h3, run_sizeOf hz]
            split <;> rfl
          · cases h
        · cases h
      · cases h
    · rename_i n m hz
      split at h
      · rename_i hsz
        split at h
        · rename_i hv mm em
          split at h
          · rename_i hh' e1
            split at h
            · rename_i l e2
              cases h
              rcases hmx with ⟨h0, _⟩ | ⟨mv, mv', hmv, rfl, hmr⟩
              · cases h0
              cases hmv
              rcases hhi with ⟨h0, _⟩ | ⟨hv1, hv1', hhv, rfl, hhr⟩
              · cases h0
              cases hhv
              have b1 := bound_spec (P := E.P) hmr em ck hsr.cap_le .slice3Acap w
              have b2 := bound_spec (P := E.P) hhr e1 mm (Nat.le_refl _) .slice3B w
              have b3 : l ≤ hh' ∧ (match lo' with | some v => Instr.sliceBound v hh' .slice3C | none => pure 0).run E.P w = .ok l w := by
                rcases hlo with ⟨rfl, rfl⟩ | ⟨lv, lv', rfl, rfl, hlr⟩
                · simp [bound?] at e2; subst e2; exact ⟨Nat.zero_le _, rfl⟩
                · exact bound_spec hlr e2 hh' (Nat.le_refl _) .slice3C w
              have hrun : (Instr.sliceBounds true len ck lo' (some hv1') (some mv')).run E.P w = .ok (l, hh', mm) w := by
                unfold Instr.sliceBounds
                cases lo' with
                | none => have := b3.2; simp at this; simp [b1.2, b2.2, this]
                | some y => have := b3.2; simp at this; simp [b1.2, b2.2, this]
              refine .val hr (v' := .slice (some (if mm = l then c else c.add (l * n))) (hh' - l) (mm - l)) ?_ (.slice _ _ _ _ _ ?_)
              · simp [Instr.sliceAt, Instr.slice, run_underlying hu, hrun, run_sizeOf hz]
                split <;> rfl
              · have q1 := b1.1; have q2 := b2.1; have q3 := b3.1
                rcases hsr with ⟨e1, e2, e3, e4, e5⟩ | ⟨ha, _⟩
                · exact .inl ⟨by omega, by omega, by omega, rfl, e5⟩
                · by_cases e : mm = l
                  · exact .inl ⟨by omega, by omega, by omega, rfl, ha.known⟩
                  · rw [if_neg e]; exact .inr ⟨ha.move _, .inl rfl⟩
            · cases h
          · cases h
        · cases h
      · cases h
    · cases h
  · rename_i n el a hu
    obtain ⟨c, rfl, ha⟩ := hx.inv_pointer
    split at h
    · rename_i z hh' hz e1
      split at h
      · rename_i l e2
        cases h
        have hmx' : mx' = none := by rcases hmx with ⟨_, h⟩ | ⟨v, v', h, _⟩; exact h; cases h
        subst hmx'
        obtain ⟨h1, h2, h3⟩ := bounds_spec' (P := E.P) hlo hhi (Nat.le_refl _) e1 e2 false (Nat.le_refl _) w
        refine .val hr (v' := .slice (some (if n = l then c else c.add (l * z))) (hh' - l) (n - l)) ?_ (.slice _ _ _ _ _ ?_)
        · simp [Instr.sliceAt, run_underlying hu, Instr.sureAddr, h3, run_sizeOf hz]
        · by_cases e : n = l
          · exact .inl ⟨by omega, by omega, by omega, rfl, ha.known⟩
          · rw [if_neg e]; exact .inr ⟨ha.move _, .inl rfl⟩
      · cases h
    · cases h
  · cases h

theorem Rel.drew (hr : Rel E w0 μ σ w) : Rel E w0 μ σ w.drew :=
  ⟨hr.below.drew, hr.old_le, hr.old_next, hr.base, hr.dom, fun a b h => let ⟨p, hp, hb⟩ := hr.blk a b h; ⟨p, hp, hb.world rfl⟩, hr.new, hr.inj⟩

theorem lenV_spec {P : Program} {old : Nat} {x x' : Value} (hx : VRel old μ x x') {n : Nat} (h : lenV x = some n) (w : World) : (Builtin.lenOf x').run P w = .ok n w := by
  unfold lenV at h
  split at h
  · cases h
    obtain ⟨_, _, rfl⟩ := hx.inv_nil
    rfl
  · cases h
    obtain ⟨c, ck, rfl, _⟩ := hx.inv_slice
    rfl
  · cases h
    have := hx.flat_eq rfl
    subst this
    rfl
  · cases h

theorem rdRow_spec (hr : Rel E w0 μ σ w) {x x' : Value} (hx : VRel E.old μ x x') {size n : Nat} {l : List Value} (h : rdRow E σ.heap.get size n x = some l) :
    ∃ l', LRel E.old μ l l' ∧ (Builtin.firstCells size n x').run E.P w = .ok l'.toArray w := by
  unfold rdRow at h
  split at h
  · obtain ⟨_, _, rfl⟩ := hx.inv_nil
    split at h
    · cases h
      exact ⟨[], ⟨rfl, fun i x y hx _ => by simp at hx⟩, by simp [Builtin.firstCells]⟩
    · cases h
  · rename_i a len cap
    obtain ⟨c, ck, rfl, hsr⟩ := hx.inv_slice
    split at h
    · rename_i hn0
      cases h
      subst hn0
      exact ⟨[], ⟨rfl, fun i x y hx _ => by simp at hx⟩, by simp [Builtin.firstCells, loadCells, loadCellsFrom]⟩
    split at h
    · rename_i hle
      rcases hsr with ⟨e1, e2, e3, e4, e5⟩ | ⟨ha, _⟩
      · have hn : n = 0 := by omega
        subst hn
        have hl : l = [] := by
          unfold rd at h
          rw [e4] at h
          simp only [Option.isSome_none, Bool.false_eq_true, if_false, Nat.zero_mul] at h
          split at h
          · simp [rdOld] at h; exact h
          · split at h
            · split at h
              · simpa using h
              · cases h
            · cases h
        subst hl
        exact ⟨[], ⟨rfl, fun i x y hx _ => by simp at hx⟩, by simp [Builtin.firstCells, loadCells, loadCellsFrom]⟩
      · obtain ⟨l', h1, h2, h3⟩ := rd_spec hr ha h
        refine ⟨l', h1, ?_⟩
        have := run_loadCells_list (P := E.P) w c l' h3
        rw [h2] at this
        simp [Builtin.firstCells, this]
    · cases h
  · rename_i s
    have := hx.flat_eq rfl
    subst this
    split at h
    · cases h
      refine ⟨_, .refl_of (l := ((s.extract 0 n).data.map fun b => Value.int .u8 b.toNat).toList) ?_, ?_⟩
      · intro v hv
        rw [Array.toList_map] at hv
        obtain ⟨b, _, rfl⟩ := List.mem_map.1 hv
        rfl
      · show Result.ok _ w = _
        rw [Array.toArray_toList]
    · cases h
  · cases h

theorem rd_length {g : Nat → Option Blk} {a : Addr} {n : Nat} {l : List Value} (h : rd E g a n = some l) : l.length = n := by
  unfold rd at h
  split at h
  · cases h
  · split at h
    · have : ∀ (n off : Nat) (l : List Value), rdOld E a.block off n = some l → l.length = n := by
        intro n
        induction n with
        | zero => intro off l h; simp [rdOld] at h; subst h; rfl
        | succ n ih =>
          intro off l h
          simp only [rdOld] at h
          split at h
          · split at h
            · split at h
              · rename_i l' hl; cases h; simp [ih _ _ hl]
              · cases h
            · cases h
          · cases h
      exact this _ _ _ h
    · split at h
      · split at h
        · cases h; simp; omega
        · cases h
      · cases h

theorem rdRow_length {g : Nat → Option Blk} {x : Value} {size n : Nat} (hs : ∀ s, x = .string s → size = 1) {l : List Value} (h : rdRow E g size n x = some l) : l.length = n * size := by
  unfold rdRow at h
  split at h
  · split at h
    · rename_i h0; cases h; simp [h0]
    · cases h
  · split at h
    · rename_i h0; cases h; simp [h0]
    split at h
    · exact rd_length h
    · cases h
  · rename_i s
    have := hs s rfl
    subst this
    split at h
    · rename_i hle
      cases h
      simp
      omega
    · cases h
  · cases h
end
end Go.Ab

/- append, copy, clear, make, conversions. -/
set_option linter.all false
open Go.RowKit
namespace Go.Ab
section
variable {E : Env} {w0 w : World} {μ : Mu} {σ : St} {nid : Nat}

/-- A slice grows where it lies, beyond what was known: its block goes, a new one stands there. -/
theorem Rel.regrow (hr : Rel E w0 μ σ w) (ho : E.old ≤ nid) (hn : nid < σ.next) (hm : μ nid = none) {b : Nat} {cs : List Value} {el : TypeId} (hb : σ.heap.get b = some (.cells cs el false)) {p : Pl} (hp : μ b = some p)
    (off k : Nat) (hk : off + k ≤ cs.length) {new new' : List Value} (hnew : LRel E.old μ new new') (hone : ∀ v ∈ new', v.oneCell' = true) (hfit : p.st + off + k + new'.length ≤ p.tot) (hcov : cs.length ≤ off + k + new.length) :
    ∃ w', (storeCells ⟨p.c, p.st + off + k, none⟩ new').run E.P w = .ok () w' ∧
      Rel E w0 (fun a => if a = nid then some ⟨p.c, p.st + off, k + new.length, false, p.sz, p.tot⟩ else μ a) ⟨(σ.heap.set b none).set nid (some (.cells ((cs.drop off).take k ++ new) el false)), σ.next⟩ w' := by
  obtain ⟨p', hp', h1, h2, h3, C, fz, h4, h5, h6, h7, h8, h9, h10⟩ := hr.blk _ _ hb
  rw [hp] at hp'
  cases hp'
  have hrun := run_store_fz E.P p.c (p.st + off + k) el fz new' 0 C w h4 h8 (by omega) hone
  refine ⟨_, hrun, ?_⟩
  generalize hC' : (C.toList.take (p.st + off + k + 0) ++ new' ++ C.toList.drop (p.st + off + k + 0 + new'.length)).toArray = C'
  have hCs : C'.size = C.size := by rw [← hC']; simp; omega
  have hcg : ∀ j, j ≠ p.c → (w.setRow p.c C').heap[j]? = w.heap[j]? := fun j hj => setRow_other w p.c j C' hj
  have hsz : (w.setRow p.c C').heap.size = w.heap.size := by simp [World.setRow]
  have hpn := hr.new _ _ hp
  have hbn : b ≠ nid := by rintro rfl; rw [hm] at hp; cases hp
  have hle : Le μ (fun a => if a = nid then some ⟨p.c, p.st + off, k + new.length, false, p.sz, p.tot⟩ else μ a) := by
    intro a q hq
    by_cases ha : a = nid
    · subst ha; rw [hm] at hq; cases hq
    · simp [ha, hq]
  have hx : p.ex = false := h2
  have hCi : ∀ j, C'[j]? = if j < p.st + off + k then C[j]? else if j < p.st + off + k + new'.length then new'[j - (p.st + off + k)]? else C[j]? := by
    intro j
    rw [← hC']
    simp only [Nat.add_zero, List.getElem?_toArray, List.getElem?_append, List.length_append, List.length_take, List.getElem?_take, List.getElem?_drop, Array.length_toList, Array.getElem?_toList]
    have hmin : min (p.st + off + k) C.size = p.st + off + k := by omega
    rw [hmin]
    by_cases hj : j < p.st + off + k
    · simp [hj]; intro hx; omega
    · by_cases hj2 : j < p.st + off + k + new'.length
      · simp [hj, hj2]
      · simp only [hj, hj2, if_false]
        congr 1
        omega
  have hlen := hnew.1
  refine ⟨?_, hr.old_le, hr.old_next, hr.base, ?_, ?_, ?_, ?_⟩
  · exact hr.below.trans ⟨rfl, rfl, rfl, by omega, fun j hj => hcg j (by omega)⟩
  · intro a q hq
    by_cases ha : a = nid
    · subst ha; exact ⟨hn, ho⟩
    · simp [ha] at hq; exact hr.dom a q hq
  · intro a c hc
    simp only at hc
    rw [T.get_set, T.get_set] at hc
    split at hc
    · rename_i ha
      subst ha
      cases hc
      refine ⟨_, if_pos rfl, ?_, rfl, h3, C', fz, setRow_heap w p.c C C' el fz h4, by rw [hCs]; exact h5, ?_, by simp, by rw [hCs]; exact h8, ?_, ?_⟩
      · simp; omega
      · simp only; omega
      rotate_left
      · refine ⟨?_, h10.2⟩
        intro j v _ hj hv
        simp only at hj
        rw [hCi, if_neg (by omega), if_neg (by omega)] at hv
        exact h10.1 j v rfl (by omega) hv
      · intro i v hi
        simp only
        rw [List.getElem?_append] at hi
        have hl : ((cs.drop off).take k).length = k := by simp; omega
        rw [hl] at hi
        rw [hCi]
        by_cases hik : i < k
        · rw [if_pos hik] at hi
          rw [if_pos (by omega)]
          have hi' : cs[off + i]? = some v := by simpa [List.getElem?_take, hik, List.getElem?_drop] using hi
          obtain ⟨v', q1, q2⟩ := h9 _ _ hi'
          exact ⟨v', by rw [← q1]; congr 1; omega, q2.mono hle⟩
        · rw [if_neg hik] at hi
          have hil : i - k < new.length := (List.getElem?_eq_some_iff.1 hi).1
          rw [if_neg (by omega), if_pos (by omega), show p.st + off + i - (p.st + off + k) = i - k by omega]
          have hil' : i - k < new'.length := by omega
          exact ⟨new'[i - k], by simp [hil'], (hnew.2 _ v _ hi (by simp [hil'])).mono hle⟩
    · rename_i ha
      split at hc
      · cases hc
      · rename_i hab
        obtain ⟨q, hq, hbq⟩ := hr.blk a c hc
        refine ⟨q, by simp [ha, hq], (hbq.world (hcg _ ?_)).mono hle⟩
        intro e
        exact hab (hr.inj a b c _ q p hc hb hq hp e)
  · intro a q hq
    by_cases ha : a = nid
    · simp [ha] at hq; subst hq; simp only; omega
    · simp [ha] at hq
      have := hr.new a q hq
      omega
  · intro a a' c c' q q' hc hc' hq hq' e
    simp only at hc hc'
    rw [T.get_set, T.get_set] at hc hc'
    by_cases ha : a = nid <;> by_cases ha' : a' = nid
    · omega
    · simp [ha] at hq; simp [ha'] at hq' hc'
      subst hq
      obtain ⟨hne, hc'⟩ := hc'
      exact absurd (hr.inj a' b c' _ q' p hc' hb hq' hp e.symm) hne
    · simp [ha] at hq hc; simp [ha'] at hq'
      subst hq'
      obtain ⟨hne, hc⟩ := hc
      exact absurd (hr.inj a b c _ q p hc hb hq hp e) hne
    · simp [ha] at hq hc; simp [ha'] at hq' hc'
      exact hr.inj a a' c c' q q' hc.2 hc'.2 hq hq' e

theorem one_of_all {old : Nat} {l l' : List Value} (hl : LRel old μ l l') (h : l.all oneCell = true) : ∀ v ∈ l', v.oneCell' = true := by
  intro v hm
  obtain ⟨i, hi⟩ := List.getElem?_of_mem hm
  have hil : i < l.length := by have := (List.getElem?_eq_some_iff.1 hi).1; have := hl.1; omega
  refine (hl.2 i l[i] v (by simp [hil]) hi).oneCell ?_
  exact List.all_eq_true.1 h _ (by simp)

theorem zeroCells_list (z : Array Value) (n : Nat) (hz : 0 < z.size) : zeroRow z (n * z.size) = (Builtin.zeroCells z n).toList := by
  unfold zeroRow Builtin.zeroCells
  split
  · rename_i h1
    apply List.ext_getElem?
    intro j
    by_cases hj : j < n * z.size
    · have hjn : j < n := by rw [h1] at hj; omega
      simp [hjn, h1, Nat.mod_one, getElem!_def, Array.getD]
    · simp [hj]
  · simp

theorem zeroRow_flat {v : Value} (hs : scalar v = true) (hz : 0 < v.cells.size) (n : Nat) : ∀ x ∈ zeroRow v.cells n, flatS x = true := by
  intro x hx
  unfold zeroRow at hx
  split at hx
  · rename_i h1
    have e : v.cells.getD 0 default = v.cells[0] := by simp [Array.getD, hz]
    have hx' := List.eq_of_mem_replicate hx
    subst hx'
    show flatS (v.cells[0]) = true
    exact scalar_cells hs _ (by simp)
  · simp only [List.mem_map] at hx
    obtain ⟨j, _, rfl⟩ := hx
    have hlt : j % v.cells.size < v.cells.size := Nat.mod_lt _ hz
    have : v.cells[j % v.cells.size]! = v.cells[j % v.cells.size] := by simp [getElem!_def, hlt]
    rw [this]
    exact scalar_cells hs _ (by simp)

theorem flat_one {v : Value} (h : flatS v = true) : oneCell v = true := by cases v <;> simp_all [flatS, oneCell]

/-- The model's append, once what it asks is known. -/
theorem run_append_room' {P : Program} {ts : Array TypeId} {ty t0 t1 el : TypeId} {u : TypeDesc} {i : TypeInfo} (h0 : ts[0]? = some t0) (h1 : ts[1]? = some t1) (hu0 : P.underlying t0 = some (.slice el)) (hu1 : P.underlying t1 = some u)
    (hni : isSlStr u = true) (hi : P.info? el = some i) {base : Option Addr} {sLen sCap n : Nat} {x : Value} {new : List Value} (hl : (Builtin.lenOf x).run P w = .ok n w)
    (hroom : sLen + n ≤ sCap) (hf : (Builtin.firstCells i.size n x).run P w = .ok new.toArray w) {w' : World}
    (hst : ∀ a, base = some a → (storeCells (a.add (sLen * i.size)) new).run P w = .ok () w') (hnil : base = none → w' = w) :
    (Builtin.append_ ts ty #[.slice base sLen sCap, x]).run P w = .ok (.slice base (sLen + n) sCap) w' := by
  have hsz : (sizeOf el).run P w = .ok i.size w := by simp [sizeOf, typeInfo, hi]
  have hu' : (∃ e', u = .slice e') ∨ u = .string := by cases u <;> simp [isSlStr] at hni ⊢
  cases base with
  | none =>
    have := hnil rfl
    subst this
    rcases hu' with ⟨e', rfl⟩ | rfl <;> simp [Builtin.append_, h0, h1, run_underlying hu0, run_underlying hu1, hsz, hl, hroom, hf]
  | some a =>
    have := hst a rfl
    rcases hu' with ⟨e', rfl⟩ | rfl <;> simp [Builtin.append_, h0, h1, run_underlying hu0, run_underlying hu1, hsz, hl, hroom, hf, this]

theorem run_append_grow' {P : Program} {ts : Array TypeId} {ty t0 t1 el : TypeId} {u : TypeDesc} {i : TypeInfo} {z : Value} (h0 : ts[0]? = some t0) (h1 : ts[1]? = some t1) (hu0 : P.underlying t0 = some (.slice el)) (hu1 : P.underlying t1 = some u)
    (hni : isSlStr u = true) (hi : P.info? el = some i) (hz : i.zero = some z) {base : Option Addr} {sLen sCap n : Nat} {x : Value} {old new : List Value} (hl : (Builtin.lenOf x).run P w = .ok n w)
    (hroom : sCap < sLen + n) (h63 : ((sLen + n : Nat) : Int) ≤ 9223372036854775807) (hfit : (sLen + n) * i.bytes ≤ 140737488355328)
    (hfo : (Builtin.firstCells i.size sLen (.slice base sLen sCap)).run P w.drew = .ok old.toArray w.drew) (hf : (Builtin.firstCells i.size n x).run P w.drew = .ok new.toArray w.drew) :
    (Builtin.append_ ts ty #[.slice base sLen sCap, x]).run P w =
      .ok (.slice (some ⟨w.heap.size, 0, none⟩) (sLen + n) (grownCap w (sLen + n) sCap el))
        (w.drew.alloc (.cells (old.toArray ++ new.toArray ++ Builtin.zeroCells z.cells (grownCap w (sLen + n) sCap el - (sLen + n))) el)) := by
  have hsz : (sizeOf el).run P w = .ok i.size w := by simp [sizeOf, typeInfo, hi]
  have hn : ¬ (sLen + n ≤ sCap) := by omega
  have h63' : ¬ (9223372036854775807 < ((sLen : Int) + (n : Int))) := by omega
  have h48' : ¬ (281474976710656 < Builtin.nextslicecap (sLen + n) sCap * i.bytes) := by
    have := growslice_fits hroom hfit
    omega
  have hu' : (∃ e', u = .slice e') ∨ u = .string := by cases u <;> simp [isSlStr] at hni ⊢
  rcases hu' with ⟨e', rfl⟩ | rfl <;> simp [Builtin.append_, h0, h1, run_underlying hu0, run_underlying hu1, hsz, hl, hn, h63', h48', hfo, hf, hi, hz, typeInfo, zeroValue, Question.forced, newRow, grownCap] <;> (congr 2; apply Array.ext'; simp)

theorem opens_spec (hr : Rel E w0 μ σ w) {a c : Addr} {len cap ck size : Nat} {el : TypeId} (hsz : sizeT E.P el = some size) (hsr : SRel E.old μ a c len cap ck) {b : Bool} (h : opens E σ.heap.get a cap el size = some b) :
    (b = false → ck = cap) ∧ (b = true → E.old ≤ a.block ∧ ∃ cs p, σ.heap.get a.block = some (.cells cs el false) ∧ μ a.block = some p ∧ p.sz = size ∧ a.off + cap * size = cs.length ∧
      (ck ≠ cap → ARel E.old μ a c ∧ p.st + a.off + ck * size ≤ p.tot)) := by
  unfold opens at h
  split at h
  · rename_i hlt
    cases h
    refine ⟨fun _ => ?_, fun h => by cases h⟩
    rcases hsr with ⟨_, h1, h2, _⟩ | ⟨_, h | ⟨h, _⟩⟩ <;> omega
  · rename_i hge
    split at h
    · rename_i cs el' x hb
      obtain ⟨p, hp, h1, h2, h3, C, fz, h4, h5, h6, h7, h8, h9, h10⟩ := hr.blk _ _ hb
      have hbig : ck ≠ cap → ARel E.old μ a c ∧ p.ex = false ∧ a.off + cap * p.sz = p.n ∧ p.st + a.off + ck * p.sz ≤ p.tot := by
        intro hne
        rcases hsr with ⟨_, h1, h2, _⟩ | ⟨ha, h | ⟨_, _, q, hq, r1, r2, r3⟩⟩
        · omega
        · omega
        · rw [hp] at hq; cases hq; exact ⟨ha, r1, r2, r3⟩
      cases x with
      | true =>
        simp at h
        subst h
        refine ⟨fun _ => ?_, fun h => by cases h⟩
        by_cases e : ck = cap
        · exact e
        · have := (hbig e).2.1; rw [h2] at this; cases this
      | false =>
        simp only [Bool.false_eq_true, if_false] at h
        split at h
        · rename_i hel
          subst hel
          have hps : p.sz = size := by have := h3 rfl; rw [hsz] at this; cases this; rfl
          cases h
          refine ⟨fun hf => ?_, fun ht => ?_⟩
          · by_cases e : ck = cap
            · exact e
            · have := (hbig e).2.2.1
              simp at hf
              rw [hps, h1] at this
              exact absurd this hf
          · simp at ht
            exact ⟨by omega, cs, p, hb, hp, hps, ht, fun hne => ⟨(hbig hne).1, by have := (hbig hne).2.2.2; rwa [hps] at this⟩⟩
        · cases h
    · cases h

theorem Rel.kill (hr : Rel E w0 μ σ w) (b : Nat) : Rel E w0 μ ⟨σ.heap.set b none, σ.next⟩ w := by
  have hg : ∀ k c, (σ.heap.set b none).get k = some c → σ.heap.get k = some c := by
    intro k c h
    rw [T.get_set] at h
    split at h
    · cases h
    · exact h
  exact ⟨hr.below, hr.old_le, hr.old_next, hr.base, hr.dom, fun a c h => hr.blk a c (hg a c h), hr.new, fun a a' c c' p p' h h' => hr.inj a a' c c' p p' (hg _ _ h) (hg _ _ h')⟩

theorem rd_cells {g : Nat → Option Blk} {a : Addr} {n : Nat} {l cs : List Value} {el : TypeId} {x : Bool} (hge : E.old ≤ a.block) (hb : g a.block = some (.cells cs el x)) (h : rd E g a n = some l) :
    a.spot = none ∧ a.off + n ≤ cs.length ∧ l = (cs.drop a.off).take n := by
  unfold rd at h
  split at h
  · cases h
  · rename_i hs
    rw [if_neg (by omega), hb] at h
    simp only at h
    split at h
    · rename_i hf
      cases h
      exact ⟨by simpa using hs, hf, rfl⟩
    · cases h

theorem op_appendZ (hr : Rel E w0 μ σ w) (ho : E.old ≤ nid) (hn : nid < σ.next) (hm : μ nid = none) {ts : Array TypeId} {ty t0 t1 el : TypeId} {u : TypeDesc} (ht0 : ts[0]? = some t0) (ht1 : ts[1]? = some t1) (hel : elemT E.P t0 = some el) (hu : E.P.underlying t1 = some u) {s s' x x' : Value} (hs : VRel E.old μ s s') (hx : VRel E.old μ x x')
    {e : Eff} (h : evAppendZ E σ.heap.get nid el u s x = some e) : OpS E w0 μ σ w nid e (do pure (.value (← Builtin.append_ ts ty #[s', x']))) := by
  unfold evAppendZ at h
  split at h
  case h_2 => cases h
  rename_i kn a sLen sCap kq q
  split at h
  case h_2 => cases h
  rename_i i z hi hzc
  split at h
  · cases h
  rename_i hc
  simp only [not_or] at hc
  obtain ⟨c1, c2, c3, c4, c5, c6⟩ := hc
  split at h
  case h_2 => cases h
  rename_i old hold hop
  cases h
  obtain ⟨v, i', hi', hiz, rfl, hsc, hzr⟩ := zero_spec hzc w
  rw [hi] at hi'
  cases hi'
  have hxe := hx.flat_eq rfl
  subst hxe
  have hsize : sizeT E.P el = some i.size := by simp [sizeT, hi]
  have hu0 : E.P.underlying t0 = some (.slice el) := by
    unfold elemT at hel
    split at hel
    · rename_i hh; cases hel; exact hh
    · cases hel
  obtain ⟨c, ck, rfl, hsr⟩ := hs.inv_slice
  have hck := (opens_spec hr hsize hsr hop).1 rfl
  subst hck
  obtain ⟨old', hor, hfo⟩ := rdRow_spec hr.drew hs hold
  have hol : old.length = sLen * i.size := rdRow_length (fun s hs => by cases hs) hold
  obtain ⟨k, rfl⟩ : ∃ k : Nat, q = (k : Int) := ⟨q.toNat, by omega⟩
  simp only [Int.toNat_natCast] at *
  have hrun := Lib.run_append_grow_zeros (P := E.P) w t0 t1 ty el i v kq kn hu0 hu hi hiz (some c) sLen ck old' (by simpa using hfo) k (by omega) (by omega) (by omega) (by omega) (by
    have : k * i.bytes ≤ (sLen + k) * i.bytes := Nat.mul_le_mul_right _ (by omega)
    omega) (growslice_fits (by omega) (by omega))
  have hts : ∀ args, (Builtin.append_ ts ty args).run E.P w = (Builtin.append_ #[t0, t1] ty args).run E.P w := fun args => by
    unfold Builtin.append_
    simp only [ht0, ht1, List.getElem?_toArray, List.getElem?_cons_zero, List.getElem?_cons_succ]
  rw [← hts] at hrun
  have hge := grownCap_ge w (sLen + k) ck el
  generalize hg : grownCap w (sLen + k) ck el = gc at hrun hge
  have hz0 : LRel E.old μ (zeroRow v.cells (k * v.cells.size)) (zeroRow v.cells (k * v.cells.size)) := .refl_of (zeroRow_flat hsc (by omega) _)
  have hzl := zeroCells_list v.cells k (by omega)
  have hzs : v.cells.size = i.size := by omega
  have hll : LRel E.old μ (old ++ zeroRow v.cells (k * i.size)) (old' ++ zeroRow v.cells (k * i.size)) := by rw [← hzs]; exact hor.append hz0
  have hlen2 : (old' ++ zeroRow v.cells (k * i.size)).length = (sLen + k) * i.size := by
    rw [← hll.1, List.length_append, hol, ← hzs, hzl, Array.length_toList, size_zeroCells, ← Nat.add_mul]
  have ha := hr.drew.alloc ho hn hm hll (Builtin.zeroCells v.cells (gc - (sLen + k))).toList el false i.size (fun _ => hsize) (fun h => by cases h) (fun x hx => by
      rw [← zeroCells_list _ _ (by omega)] at hx
      exact zeroRow_flat hsc (by omega) _ x hx)
    (old'.toArray ++ Builtin.zeroCells v.cells k ++ Builtin.zeroCells v.cells (gc - (sLen + k))) (by rw [← hzs, hzl]; simp)
  refine ⟨.value (.slice (some ⟨w.heap.size, 0, none⟩) (sLen + k) gc), _, _, _, by simp [hrun], .inl rfl, ?_, ha, fun a ha => by simp [ha]⟩
  refine .slice _ _ _ _ _ (.inr ⟨ARel.new ho, .inr ⟨ho, hge, _, if_pos rfl, rfl, ?_, ?_⟩⟩)
  · simp only [Nat.zero_add]; rw [hll.1, hlen2]
  · simp only [Nat.zero_add]
    rw [hlen2]
    simp only [Array.length_toList, size_zeroCells, hzs]
    rw [← Nat.add_mul]
    exact Nat.mul_le_mul_right _ (by omega)

theorem op_append (hr : Rel E w0 μ σ w) (ho : E.old ≤ nid) (hn : nid < σ.next) (hm : μ nid = none) {ts : Array TypeId} {ty : TypeId} {s s' x x' : Value} (hs : VRel E.old μ s s') (hx : VRel E.old μ x x')
    {e : Eff} (h : evAppend E σ.heap.get nid ts s x = some e) : OpS E w0 μ σ w nid e (do pure (.value (← Builtin.append_ ts ty #[s', x']))) := by
  unfold evAppend at h
  cases ht0 : ts[0]? with
  | none => simp [ht0] at h
  | some t0 =>
  cases ht1 : ts[1]? with
  | none => simp [ht0, ht1] at h
  | some t1 =>
  simp only [ht0, ht1, Option.bind_some] at h
  cases hel : elemT E.P t0 with
  | none => simp [hel] at h
  | some el =>
  cases hu : E.P.underlying t1 with
  | none => simp [hel, hu] at h
  | some u =>
  simp only [hel, hu] at h
  by_cases hsl : isSlStr u = true
  case neg =>
    simp only [hsl, Bool.not_false, if_true] at h
    exact op_appendZ hr ho hn hm ht0 ht1 hel hu hs hx h
  simp only [hsl, Bool.not_true, Bool.false_eq_true, if_false] at h
  cases hi : E.P.info? el with
  | none => simp [hi] at h
  | some i =>
  cases hzc : zeroCells? E.P el with
  | none => simp [hi, hzc] at h
  | some z =>
  cases hlen : lenV x with
  | none => simp [hi, hzc, hlen] at h
  | some n =>
  simp only [hi, hzc, hlen] at h
  split at h
  · cases h
  rename_i hzz
  have hz0 : i.size ≠ 0 := fun e => hzz (.inl e)
  have hzs : z.size = i.size := by
    by_cases e : z.size = i.size
    · exact e
    · exact absurd (.inr (.inl e)) hzz
  have hstr : ∀ s, x = .string s → i.size = 1 := by
    intro s hs
    subst hs
    by_cases e : i.size = 1
    · exact e
    · exact absurd (.inr (.inr (by simp [strOk, e]))) hzz
  have hsize : sizeT E.P el = some i.size := by simp [sizeT, hi]
  split at h
  case h_2 => cases h
  rename_i base sLen sCap new hnew
  obtain ⟨new', hnr, hfc⟩ := rdRow_spec hr hx hnew
  obtain ⟨new2, hnr2, hfc2⟩ := rdRow_spec hr.drew hx hnew
  have hlx := lenV_spec (P := E.P) hx hlen w
  obtain ⟨v, i', hi', hiz, rfl, hsc, hzr⟩ := zero_spec hzc w
  rw [hi] at hi'
  cases hi'
  have hu0 := elemT_spec hel
  -- in the room that is known
  split at h
  · rename_i hroom
    split at h
    · rename_i hn0
      subst hn0
      cases h
      have hres : ∃ s2 ck, s' = .slice s2 sLen ck ∧ sLen + 0 ≤ ck := by
        cases base with
        | none => obtain ⟨h1, h2, rfl⟩ := hs.inv_nil; subst h1; exact ⟨none, 0, rfl, Nat.le_refl _⟩
        | some a => obtain ⟨c, ck, rfl, hsr⟩ := hs.inv_slice; exact ⟨some c, ck, rfl, by have := hsr.cap_le; omega⟩
      obtain ⟨s2, ck, rfl, hroom'⟩ := hres
      have hl0 : new' = [] := by
        have := hnr.1
        have h2 : new.length = 0 := by simpa using rdRow_length hstr hnew
        rw [h2] at this
        exact List.length_eq_zero_iff.1 this.symm
      subst hl0
      have hrun := run_append_room' (w := w) (ty := ty) (base := s2) (sLen := sLen) (sCap := ck) ht0 ht1 hu0 hu hsl hi hlx hroom' hfc (w' := w) (fun a _ => rfl) (fun _ => rfl)
      exact .val hr (by simpa using hrun) hs
    · rename_i hn0
      split at h
      case h_2 => cases h
      rename_i a
      split at h
      · cases h
      rename_i hspot
      split at h
      case h_2 => cases h
      rename_i wu hwr
      cases h
      obtain ⟨c, ck, rfl, hsr⟩ := hs.inv_slice
      have hcl := hsr.cap_le
      rcases hsr with ⟨e1, e2, e3, e4, e5⟩ | ⟨ha, hcap⟩
      · omega
      obtain ⟨w', hst, hr'⟩ := wr_spec hr (ha.move' (sLen * i.size)) hnr hwr
      have hst' : (storeCells (c.add (sLen * i.size)) new').run E.P w = .ok () w' := by rw [add_off _ _ ha.2.1]; exact hst
      have hrun := run_append_room' (w := w) (ty := ty) (base := some c) (sLen := sLen) (sCap := ck) ht0 ht1 hu0 hu hsl hi hlx (by omega) hfc (w' := w') (fun a h => by cases h; exact hst') (fun h => by cases h)
      refine ⟨.value (.slice (some c) (sLen + n) ck), _, w', μ, by simp [hrun], .inl rfl, ?_, hr', fun _ _ => rfl⟩
      exact .slice _ _ _ _ _ (.inr ⟨ha, hcap⟩)
  · rename_i hroom
    split at h
    case isFalse => cases h
    rename_i hbig
    obtain ⟨hfit, h63⟩ := hbig
    have hnl : new.length = n * i.size := rdRow_length hstr hnew
    -- a new block
    have grow : ∀ (s2 : Option Addr) (ck : Nat) (old old' : List Value), s' = .slice s2 sLen ck → ck < sLen + n → LRel E.old μ old old' → old.length = sLen * i.size →
        (Builtin.firstCells i.size sLen (.slice s2 sLen ck)).run E.P w.drew = .ok old'.toArray w.drew →
        OpS E w0 μ σ w nid ⟨.slice (some ⟨nid, 0, none⟩) (sLen + n) (sLen + n), [(nid, some (.cells (old ++ new) el false))], blkOf x⟩ (do pure (.value (← Builtin.append_ ts ty #[s', x']))) := by
      intro s2 ck old old' hs' hck hor hol hfo
      subst hs'
      have hrun := run_append_grow' (w := w) (ty := ty) (base := s2) (sLen := sLen) (sCap := ck) ht0 ht1 hu0 hu hsl hi hiz hlx hck (by omega) hfit hfo hfc2
      have hge := grownCap_ge w (sLen + n) ck el
      generalize hg : grownCap w (sLen + n) ck el = gc at hrun hge
      have hll : LRel E.old μ (old ++ new) (old' ++ new2) := hor.append hnr2
      have hlen2 : (old' ++ new2).length = (sLen + n) * i.size := by rw [← hll.1]; simp [hol, hnl, Nat.add_mul]
      have ha := hr.drew.alloc ho hn hm hll (Builtin.zeroCells v.cells (gc - (sLen + n))).toList el false i.size (fun _ => hsize) (fun h => by cases h) (fun x hx => by
          rw [← zeroCells_list _ _ (by omega)] at hx
          exact zeroRow_flat hsc (by omega) _ x hx)
        (old'.toArray ++ new2.toArray ++ Builtin.zeroCells v.cells (gc - (sLen + n))) (by simp)
      refine ⟨.value (.slice (some ⟨w.heap.size, 0, none⟩) (sLen + n) gc), _, _, _, by simp [hrun], .inl rfl, ?_, ha, fun a ha => by simp [ha]⟩
      refine .slice _ _ _ _ _ (.inr ⟨ARel.new ho, .inr ⟨ho, hge, _, if_pos rfl, rfl, ?_, ?_⟩⟩)
      · simp only [Nat.zero_add]; rw [List.length_append, hol, hnl, Nat.add_mul]
      · simp only [Nat.zero_add]
        rw [hlen2]
        simp only [Array.length_toList, size_zeroCells, hzs]
        rw [← Nat.add_mul]
        exact Nat.mul_le_mul_right _ (by omega)
    split at h
    · split at h
      · rename_i h0
        cases h
        obtain ⟨_, _, rfl⟩ := hs.inv_nil
        obtain ⟨rfl, rfl⟩ := h0
        have := grow none 0 [] [] rfl (by omega) ⟨rfl, fun i x y hx _ => by simp at hx⟩ (by simp) (by simp [Builtin.firstCells])
        simpa using this
      · cases h
    · rename_i a
      obtain ⟨c, ck, rfl, hsr⟩ := hs.inv_slice
      split at h
      · rename_i old hold hop
        split at h
        · cases h
        rename_i hall
        cases h
        obtain ⟨old', hor, hfo⟩ := rdRow_spec hr.drew hs hold
        have hol : old.length = sLen * i.size := rdRow_length (fun s hs => by cases hs) hold
        obtain ⟨_, hopt⟩ := opens_spec hr hsize hsr hop
        obtain ⟨hge, cs, p, hb, hp, hps, hend, hbig⟩ := hopt rfl
        have hbn : a.block ≠ nid := by intro e; rw [e] at hp; rw [hm] at hp; cases hp
        by_cases hck : sLen + n ≤ ck
        · -- it grows where it lies
          obtain ⟨ha, hfits⟩ := hbig (by omega)
          have hrd : rd E σ.heap.get a (sLen * i.size) = some old := by
            unfold rdRow at hold
            simp only at hold
            split at hold
            · rename_i h00
              cases hold
              rw [h00, Nat.zero_mul]
              have hnlt : ¬ a.block < E.old := by omega
              have hspot0 : a.spot.isSome = false := by
                rcases hsr with ⟨_, _, _, e4, _⟩ | ⟨ha, _⟩
                · simp [e4]
                · simp [ha.1]
              simp only [rd, hspot0, hnlt, hb, if_false, Bool.false_eq_true]
              rw [if_pos (by omega)]
              simp
            split at hold
            · exact hold
            · cases hold
          obtain ⟨hspot, hof, hold'⟩ := rd_cells hge hb hrd
          have hmul : (sLen + n) * i.size ≤ ck * i.size := Nat.mul_le_mul_right _ hck
          have hone : ∀ v ∈ new', v.oneCell' = true := one_of_all hnr (by simpa using hall)
          obtain ⟨w', hst, hr'⟩ := hr.regrow ho hn hm hb hp a.off (sLen * i.size) hof hnr hone (by rw [← hnr.1, hnl]; rw [Nat.add_mul] at hmul; omega) (by
            have hcc := Nat.mul_le_mul_right i.size (show sCap ≤ sLen + n by omega)
            rw [Nat.add_mul] at hcc; omega)
          have hcb : c = ⟨p.c, p.st + a.off, none⟩ := by
            obtain ⟨_, hcs, hq | ⟨_, q, hq, hq1, hq2⟩⟩ := ha
            · omega
            · rw [hp] at hq; cases hq
              cases c; simp at hcs hq1 hq2; simp [hcs, hq1, hq2]
          have hst' : (storeCells (c.add (sLen * i.size)) new').run E.P w = .ok () w' := by rw [hcb, add_off _ _ rfl]; exact hst
          have hrun := run_append_room' (w := w) (ty := ty) (base := some c) (sLen := sLen) (sCap := ck) ht0 ht1 hu0 hu hsl hi hlx hck hfc (w' := w') (fun a h => by cases h; exact hst') (fun h => by cases h)
          refine ⟨.value (.slice (some c) (sLen + n) ck), _, w', _, by simp [hrun], .inl rfl, ?_, by rw [hold']; exact hr', fun a ha => by simp [ha]⟩
          refine .slice _ _ _ _ _ (.inr ⟨⟨rfl, by rw [hcb], .inr ⟨ho, _, if_pos rfl, by rw [hcb], by rw [hcb]; rfl⟩⟩, .inr ⟨ho, hck, _, if_pos rfl, rfl, ?_, ?_⟩⟩)
          · simp only [Nat.zero_add]; rw [hnl, hps, Nat.add_mul]
          · simp only [Nat.add_zero]; rw [hps]; exact hfits
        · obtain ⟨p', hp', _⟩ := hr.blk _ _ hb
          have hg := grow (some c) ck old old' rfl (by omega) hor hol hfo
          obtain ⟨r, v', w', μ', q1, q2, q3, q4, q5⟩ := hg
          refine ⟨r, v', w', μ', q1, q2, q3, ?_, q5⟩
          have hk := q4.kill a.block
          simp only [upds] at hk ⊢
          rwa [T.set_comm _ _ _ _ _ (Ne.symm hbn)] at hk
      · rename_i old hold hop
        cases h
        obtain ⟨old', hor, hfo⟩ := rdRow_spec hr.drew hs hold
        have hol : old.length = sLen * i.size := rdRow_length (fun s hs => by cases hs) hold
        have hck := (opens_spec hr hsize hsr hop).1 rfl
        have hg := grow (some c) ck old old' rfl (by omega) hor hol hfo
        simpa [OpS] using hg
      · cases h
end
end Go.Ab

/- Every operation that is no call of a function. -/
set_option linter.all false
open Go.RowKit
namespace Go.Ab
section
variable {E : Env} {w0 w : World} {μ : Mu} {σ : St} {nid : Nat}

theorem pureV_spec {P : Program} {s : Sem Value} {v : Value} (h : pureV P s = some v) (w : World) : s.run P w = .ok v w ∧ flatS v = true := by
  unfold pureV at h
  cases hp : pureRun P s with
  | none => simp [hp] at h
  | some u =>
    simp only [hp] at h
    split at h
    · rename_i hf
      cases h
      exact ⟨pureRun_sound P s _ hp w, hf⟩
    · cases h

theorem op_copy (hr : Rel E w0 μ σ w) {ts : Array TypeId} {ty : TypeId} {d d' x x' : Value} (hd : VRel E.old μ d d') (hx : VRel E.old μ x x')
    {e : Eff} (h : evCopy E σ.heap.get ts d x = some e) : OpS E w0 μ σ w nid e (do pure (.value (← Builtin.copy_ ts ty #[d', x']))) := by
  unfold evCopy at h
  cases ht0 : ts[0]? with
  | none => simp [ht0] at h
  | some t0 =>
  simp only [ht0, Option.bind_some] at h
  cases hel : elemT E.P t0 with
  | none => simp [hel] at h
  | some el =>
  simp only [hel] at h
  split at h
  case h_2 => cases h
  rename_i size base dLen dCap xl hz hlen
  split at h
  case h_2 => cases h
  rename_i l hl
  obtain ⟨l', hlr, hfc⟩ := rdRow_spec hr hx hl
  have hlx := lenV_spec (P := E.P) hx hlen w
  have hu0 := elemT_spec hel
  have hsz := run_sizeOf hz w
  have hd' : ∃ s2 ck, d' = .slice s2 dLen ck := by
    cases base with
    | none => obtain ⟨h1, h2, rfl⟩ := hd.inv_nil; subst h1; exact ⟨none, 0, rfl⟩
    | some a => obtain ⟨c, ck, rfl, _⟩ := hd.inv_slice; exact ⟨some c, ck, rfl⟩
  obtain ⟨s2, ck, rfl⟩ := hd'
  split at h
  · rename_i h0
    cases h
    rw [h0] at hfc
    have hempty : ∃ l2 : List Value, (Builtin.firstCells size 0 x').run E.P w = .ok l2.toArray w ∧ l2 = [] := by
      refine ⟨l', hfc, ?_⟩
      have h2 : l.length = 0 := by
        rw [h0] at hl
        unfold rdRow at hl
        split at hl
        · simp at hl; subst hl; rfl
        · simp at hl; subst hl; rfl
        · simp at hl; subst hl; simp
        · cases hl
      have := hlr.1
      exact List.length_eq_zero_iff.1 (by omega)
    obtain ⟨l2, hf2, rfl⟩ := hempty
    have h0' : Nat.min xl dLen = 0 := h0
    refine .val hr (v' := .int .i64 0) ?_ (.flat _ rfl)
    cases s2 with
    | none => simp [Builtin.copy_, ht0, run_underlying hu0, hlx, h0', hsz, hf2, goInt]
    | some c => simp [Builtin.copy_, ht0, run_underlying hu0, hlx, h0', hsz, hf2, goInt, storeCells]
  · rename_i h0
    split at h
    case h_2 => cases h
    rename_i a
    split at h
    case h_2 => cases h
    rename_i wu hwr
    cases h
    obtain ⟨c, ck', hcc, hsr⟩ := hd.inv_slice
    cases hcc
    rcases hsr with ⟨e1, _⟩ | ⟨ha, _⟩
    · exact absurd (by rw [e1]; exact Nat.min_zero _) h0
    obtain ⟨w', hst, hr'⟩ := wr_spec hr ha hlr hwr
    refine ⟨.value (.int .i64 (Nat.min xl dLen : Nat)), _, w', μ, ?_, .inl rfl, .flat _ rfl, hr', fun _ _ => rfl⟩
    simp [Builtin.copy_, ht0, run_underlying hu0, hlx, hsz, hfc, hst, goInt]

theorem op_clear (hr : Rel E w0 μ σ w) {ts : Array TypeId} {ty : TypeId} {d d' : Value} (hd : VRel E.old μ d d')
    {e : Eff} (h : evClear E σ.heap.get ts d = some e) : OpS E w0 μ σ w nid e (do pure (.value (← Builtin.clear_ ts ty #[d']))) := by
  unfold evClear at h
  cases ht0 : ts[0]? with
  | none => simp [ht0] at h
  | some t0 =>
  simp only [ht0, Option.bind_some] at h
  cases hel : elemT E.P t0 with
  | none => simp [hel] at h
  | some el =>
  have hu0 := elemT_spec hel
  simp only [hel] at h
  split at h
  · rename_i n k _
    cases h
    obtain ⟨_, _, rfl⟩ := hd.inv_nil
    refine .val hr (v' := .tuple #[]) ?_ (VRel.undef _ _)
    simp [Builtin.clear_, ht0, run_underlying hu0]
  · rename_i el' a n cap he
    cases he
    obtain ⟨c, ck, rfl, hsr⟩ := hd.inv_slice
    split at h
    · rename_i h0
      subst h0
      cases h
      refine .val hr (v' := .tuple #[]) ?_ (VRel.undef _ _)
      simp [Builtin.clear_, ht0, run_underlying hu0]
    · rename_i h0
      split at h
      case h_2 => cases h
      rename_i size z hz hzc
      split at h
      case isFalse => cases h
      rename_i hzz
      split at h
      case h_2 => cases h
      rename_i wu hwr
      cases h
      obtain ⟨v, i, hi, hiz, rfl, hsc, hzr⟩ := zero_spec hzc w
      have hpos : 0 < v.cells.size := by omega
      rcases hsr with ⟨e1, _⟩ | ⟨ha, _⟩
      · omega
      have hlr : LRel E.old μ (zeroRow v.cells (n * v.cells.size)) (zeroRow v.cells (n * v.cells.size)) := .refl_of (zeroRow_flat hsc hpos _)
      obtain ⟨w', hst, hr'⟩ := wr_spec hr ha hlr hwr
      rw [zeroCells_list _ _ hpos] at hst
      refine ⟨.value (.tuple #[]), _, w', μ, ?_, .inl rfl, VRel.undef _ _, hr', fun _ _ => rfl⟩
      obtain ⟨n, rfl⟩ : ∃ m, n = m + 1 := ⟨n - 1, by omega⟩
      simp [Builtin.clear_, ht0, run_underlying hu0, hzr, hst]
  · cases h

theorem op_makeSlice (hr : Rel E w0 μ σ w) (ho : E.old ≤ nid) (hn : nid < σ.next) (hm : μ nid = none) {t : TypeId} {l l' c c' : Value} (hl : VRel E.old μ l l') (hc : VRel E.old μ c c')
    {e : Eff} (h : evMakeSlice E nid t l c = some e) : OpS E w0 μ σ w nid e (do pure (.value (← Instr.makeSlice t l' c'))) := by
  unfold evMakeSlice at h
  split at h
  case h_2 => cases h
  rename_i el kl ln kc cn hel
  have := hl.flat_eq rfl
  subst this
  have := hc.flat_eq rfl
  subst this
  split at h
  case h_2 => cases h
  rename_i i z hi hzc
  split at h
  case isFalse => cases h
  rename_i hb
  obtain ⟨b1, b2, b3, b4, b5, b6⟩ := hb
  cases h
  obtain ⟨v, i', hi', hiz, rfl, hsc, hzr⟩ := zero_spec hzc w
  rw [hi] at hi'
  cases hi'
  have hpos : 0 < v.cells.size := by omega
  have hsz : (sizeOf el).run E.P w = .ok i.size w := by simp [sizeOf, typeInfo, hi]
  have hlr : LRel E.old μ (zeroRow v.cells (cn.toNat * i.size)) (zeroRow v.cells (cn.toNat * i.size)) := .refl_of (zeroRow_flat hsc hpos _)
  have hzl : zeroRow v.cells (cn.toNat * i.size) = ((Array.range (cn.toNat * i.size)).map (v.cells[· % v.cells.size]!)).toList := by
    have := zeroCells_list v.cells cn.toNat hpos
    rw [b5] at this
    rw [this]
    unfold Builtin.zeroCells
    rw [b5]
  have ha := hr.alloc ho hn hm hlr [] el true 0 (by simp) (by simp) (by simp) ((Array.range (cn.toNat * i.size)).map (v.cells[· % v.cells.size]!)) (by rw [hzl]; simp)
  have w1 : IntKind.i64.wrap ln = ln := IntWalk.i64_in _ (by omega)
  have w2 : IntKind.i64.wrap cn = cn := IntWalk.i64_in _ (by omega)
  have n1 : ¬ (cn < 0) := by omega
  have n2 : ¬ ((281474976710656 : Int) < i.bytes * cn) := by omega
  have n3 : ¬ (ln < 0) := by omega
  have n4 : ¬ (cn < ln) := by omega
  refine ⟨.value (.slice (some ⟨w.heap.size, 0, none⟩) ln.toNat cn.toNat), _, w.alloc (.cells ((Array.range (cn.toNat * i.size)).map (v.cells[· % v.cells.size]!)) el), _, ?_, .inl rfl, ?_, ha, fun a ha => by simp [ha]⟩
  · by_cases h0 : cn.toNat * i.size = 0
    · have he : ∀ f : Nat → Value, (Array.range (cn.toNat * i.size)).map f = #[] := by
        intro f; rw [h0]; apply Array.ext'; simp
      simp [Instr.makeSlice, run_underlying (elemT_spec hel), asInt, asIntOf, typeInfo, hi, w1, w2, n1, n2, n3, n4, hsz, h0, newRow, he]
      congr 2; apply Array.ext'; simp
    · simp [Instr.makeSlice, run_underlying (elemT_spec hel), asInt, asIntOf, typeInfo, hi, w1, w2, n1, n2, n3, n4, hsz, h0, newRow, hzr]
  · exact .slice _ _ _ _ _ (.inr ⟨ARel.new ho, .inl rfl⟩)

theorem bytes_foldl : ∀ (ns : List Int) (s : ByteArray), ns.foldl (fun r n => r.push (UInt8.ofNat n.toNat)) s = ⟨s.data ++ (ns.map fun n => UInt8.ofNat n.toNat).toArray⟩
  | [], s => by simp
  | n :: ns, s => by
    rw [List.foldl_cons, bytes_foldl ns]
    congr 1
    apply Array.ext'
    simp [ByteArray.push]

theorem op_convert (hr : Rel E w0 μ σ w) (ho : E.old ≤ nid) (hn : nid < σ.next) (hm : μ nid = none) {src dst : TypeId} {x x' : Value} (hx : VRel E.old μ x x')
    {e : Eff} (h : evConvert E σ.heap.get nid src dst x = some e) : OpS E w0 μ σ w nid e (do pure (.value (← convert src dst x'))) := by
  unfold evConvert at h
  split at h
  · rename_i el s hs hd
    have := hx.flat_eq rfl
    subst this
    split at h
    case h_2 => cases h
    rename_i hel
    split at h
    case isFalse => cases h
    rename_i hz
    cases h
    have hrun := Lib.run_convert_string_bytes w src dst el s hs hd hel
    have hge := grownCap_ge w s.size 0 el
    have hl : LRel E.old μ (s.data.map fun b => Value.int .u8 b.toNat).toList (s.data.map fun b => Value.int .u8 b.toNat).toList := by
      refine .refl_of ?_
      intro v hv
      rw [Array.toList_map] at hv
      obtain ⟨b, _, rfl⟩ := List.mem_map.1 hv
      rfl
    have hcells : Lib.bytesCells w el s = ((s.data.map fun (b : UInt8) => Value.int .u8 b.toNat).toList ++ List.replicate (grownCap w s.size 0 el - s.size) (Value.int .u8 0)).toArray := by
      apply Array.ext'; simp [Lib.bytesCells]
    have hlen : (s.data.map fun b => Value.int .u8 b.toNat).toList.length = s.size := by simp
    have ha := hr.allocW ho hn hm hl (List.replicate (grownCap w s.size 0 el - s.size) (.int .u8 0)) el false 1 (fun _ => hz) (fun h => by cases h) (fun x hx => by rw [List.eq_of_mem_replicate hx]; rfl)
      ((Lib.bytesCells w el s).size, (Lib.bytesCells w el s).size + 1) (fun h => absurd (by assumption) h) (.inr (by rw [hcells]; simp)) (Lib.bytesWorld w el s) (Lib.bytesWorld_size w el s)
      (by rw [← hcells]; exact Lib.bytesWorld_at_new w el s) (fun k hk => Lib.bytesWorld_at_old w el s k hk) rfl rfl rfl
    refine ⟨.value (.slice (some ⟨w.heap.size, 0, none⟩) s.size (grownCap w s.size 0 el)), _, Lib.bytesWorld w el s, _, by simp [hrun], .inl rfl, ?_, ha.1, fun a ha => by simp [ha]⟩
    refine .slice _ _ _ _ _ (.inr ⟨ARel.new ho, .inr ⟨ho, hge, _, if_pos rfl, rfl, ?_, ?_⟩⟩)
    · simp only [Nat.zero_add, Nat.mul_one]; rw [hlen]
    · simp only [Nat.zero_add, Nat.mul_one]; rw [hlen]; simp; omega
  · rename_i x el hs hd
    split at h
    · rename_i n k he
      cases h
      obtain ⟨_, _, rfl⟩ := hx.inv_nil
      refine .val hr (v' := .string .empty) ?_ (.flat _ rfl)
      simp [convert, run_underlying hs, run_underlying hd, run_underlying he, Conv.bytesToString]
    · rename_i a n k he
      obtain ⟨c, ck, rfl, hsr⟩ := hx.inv_slice
      split at h
      case h_2 => cases h
      rename_i l hl
      unfold bytesOf? at h
      split at h
      case isFalse => cases h
      rename_i hall
      cases h
      have hl2 : rdRow E σ.heap.get 1 n (.slice (some a) n k) = some l := by
        by_cases hn0 : n = 0
        · subst hn0
          have := rd_length hl
          have : l = [] := List.length_eq_zero_iff.1 this
          simp [rdRow, this]
        · simp [rdRow, hl, hn0]
      obtain ⟨l', hlr, hfc⟩ := rdRow_spec hr hx hl2
      have hll : l' = l := by
        refine list_eq_of hlr.1 ?_
        intro i x y hxi hyi
        refine (hlr.2 i x y hxi hyi).flat_eq ?_
        have := List.all_eq_true.1 hall x (List.mem_of_getElem? hxi)
        unfold isByte at this
        split at this
        · rfl
        · cases this
      subst hll
      have hints : ∃ ns : List Int, l' = ns.map (Value.int .u8) := by
        clear hfc hlr hl2 hl
        induction l' with
        | nil => exact ⟨[], rfl⟩
        | cons v r ih =>
          simp at hall
          obtain ⟨ns, hns⟩ := ih (by simpa using hall.2)
          have hv := hall.1
          unfold isByte at hv
          split at hv
          · rename_i m; exact ⟨m :: ns, by simp [hns]⟩
          · cases hv
      obtain ⟨ns, rfl⟩ := hints
      have hlc : (loadCells c n).run E.P w = .ok (ns.map (Value.int .u8)).toArray w := by
        simpa [Builtin.firstCells] using hfc
      have hb := run_bytesToString (P := E.P) w c n ck ns hlc
      refine .val hr (v' := .string _) (by rw [run_convert_bytes_string w src dst el _ _ _ hs he hd]; exact hb) ?_
      rw [bytes_foldl]
      have : (List.map byteV (List.map (Value.int IntKind.u8) ns)) = ns.map fun n => UInt8.ofNat n.toNat := by
        simp [byteV, Function.comp_def]
      rw [this]
      have e0 : ByteArray.empty.data = #[] := rfl
      rw [e0]
      simp only [Array.empty_append]
      exact .flat _ rfl
    · cases h
  · cases h
  · cases h
  · split at h
    case isFalse => cases h
    rename_i hsc
    have := hx.scalar_eq hsc
    subst this
    cases hp : pureV E.P (convert src dst x') with
    | none => simp [hp] at h
    | some v =>
      simp only [hp, Option.map_some, Option.some.injEq] at h
      subst h
      obtain ⟨h1, h2⟩ := pureV_spec hp w
      exact .val hr h1 (.flat _ h2)
  · cases h

theorem run_equalP {P : Program} {t e : TypeId} (hu : P.underlying t = some (.pointer e)) (a b : Option Addr) (h : a = none ∨ b = none) (w : World) : (Op.equal t (.pointer a) (.pointer b)).run P w = .ok (a.isNone && b.isNone) w := by
  unfold Op.equal
  rw [show Op.maxDepth = Nat.succ 9999 from rfl]
  unfold Op.equalIn
  simp only [Sem.run_bind, run_underlying hu, Result.andThen_ok]
  rcases h with rfl | rfl
  · cases b <;> rfl
  · cases a <;> rfl

theorem run_equalS {P : Program} {t e : TypeId} (hu : P.underlying t = some (.slice e)) (a b : Option Addr) (n k n' k' : Nat) (h : a = none ∨ b = none) (w : World) : (Op.equal t (.slice a n k) (.slice b n' k')).run P w = .ok (a.isNone && b.isNone) w := by
  unfold Op.equal
  rw [show Op.maxDepth = Nat.succ 9999 from rfl]
  unfold Op.equalIn
  simp only [Sem.run_bind, run_underlying hu, Result.andThen_ok]
  rcases h with rfl | rfl
  · cases b <;> rfl
  · cases a <;> rfl

theorem evNilP_spec {P : Program} {eq : Bool} {old : Nat} {t : TypeId} {x x' y y' v : Value} (ht : isPtr P t = true) (hx : VRel old μ x x') (hy : VRel old μ y y') (h : evNilP eq x y = some v) (xo yo : Operand) (w : World) :
    flatS v = true ∧ (do eqGuard (if eq then .eql else .neq) t xo yo x' y'; binOp (if eq then .eql else .neq) t x' y' : Sem Value).run P w = .ok v w := by
  have hd : ∃ e, P.underlying t = some (.pointer e) := by
    unfold isPtr at ht
    cases hu : P.underlying t with
    | none => simp [hu] at ht
    | some d => cases d <;> simp [hu] at ht ⊢
  obtain ⟨e, hu⟩ := hd
  have key : ∀ (a b : Option Addr) (v : Value), (a = none ∧ v = .bool (b.isNone == eq)) ∨ (b = none ∧ v = .bool (a.isNone == eq)) →
      flatS v = true ∧ (do eqGuard (if eq then .eql else .neq) t xo yo (.pointer a) (.pointer b); binOp (if eq then .eql else .neq) t (.pointer a) (.pointer b) : Sem Value).run P w = .ok v w := by
    intro a b v h
    have hab : a = none ∨ b = none := h.imp And.left And.left
    have hrun := run_equalP hu a b hab w
    have hv : v = .bool ((a.isNone && b.isNone) == eq) := by
      rcases h with ⟨rfl, rfl⟩ | ⟨rfl, rfl⟩ <;> simp
    subst hv
    refine ⟨rfl, ?_⟩
    cases eq <;> simp [eqGuard, binOp, hrun]
  unfold evNilP at h
  split at h
  · rename_i b
    cases h
    have := hx.flat_eq rfl
    subst this
    cases b with
    | none => have := hy.flat_eq rfl; subst this; exact key _ _ _ (.inl ⟨rfl, rfl⟩)
    | some b => obtain ⟨c, rfl, _⟩ := hy.inv_pointer; exact key _ _ _ (.inl ⟨rfl, rfl⟩)
  · rename_i a _
    cases h
    have := hy.flat_eq rfl
    subst this
    cases a with
    | none => have := hx.flat_eq rfl; subst this; exact key _ _ _ (.inr ⟨rfl, rfl⟩)
    | some b => obtain ⟨c, rfl, _⟩ := hx.inv_pointer; exact key _ _ _ (.inr ⟨rfl, rfl⟩)
  · cases h

theorem evNilS_spec {P : Program} {eq : Bool} {old : Nat} {t : TypeId} {x x' y y' v : Value} (ht : isSl P t = true) (hx : VRel old μ x x') (hy : VRel old μ y y') (h : evNilS eq x y = some v) (xo yo : Operand) (w : World) :
    flatS v = true ∧ (do eqGuard (if eq then .eql else .neq) t xo yo x' y'; binOp (if eq then .eql else .neq) t x' y' : Sem Value).run P w = .ok v w := by
  have hd : ∃ e, P.underlying t = some (.slice e) := by
    unfold isSl at ht
    cases hu : P.underlying t with
    | none => simp [hu] at ht
    | some d => cases d <;> simp [hu] at ht ⊢
  obtain ⟨e, hu⟩ := hd
  have key : ∀ (a b : Option Addr) (n k n' k' : Nat) (v : Value), (a = none ∧ v = .bool (b.isNone == eq)) ∨ (b = none ∧ v = .bool (a.isNone == eq)) →
      flatS v = true ∧ (do eqGuard (if eq then .eql else .neq) t xo yo (.slice a n k) (.slice b n' k'); binOp (if eq then .eql else .neq) t (.slice a n k) (.slice b n' k') : Sem Value).run P w = .ok v w := by
    intro a b n k n' k' v h
    have hab : a = none ∨ b = none := h.imp And.left And.left
    have hrun := run_equalS hu a b n k n' k' hab w
    have hv : v = .bool ((a.isNone && b.isNone) == eq) := by
      rcases h with ⟨rfl, rfl⟩ | ⟨rfl, rfl⟩ <;> simp
    subst hv
    refine ⟨rfl, ?_⟩
    cases eq <;> simp [eqGuard, binOp, hrun]
  unfold evNilS at h
  split at h
  · rename_i b _ _
    cases h
    obtain ⟨_, _, rfl⟩ := hx.inv_nil
    cases b with
    | none => obtain ⟨_, _, rfl⟩ := hy.inv_nil; exact key _ _ _ _ _ _ _ (.inl ⟨rfl, rfl⟩)
    | some b => obtain ⟨c, ck, rfl, _⟩ := hy.inv_slice; exact key _ _ _ _ _ _ _ (.inl ⟨rfl, rfl⟩)
  · rename_i a _ _ _ _ _
    cases h
    obtain ⟨_, _, rfl⟩ := hy.inv_nil
    cases a with
    | none => obtain ⟨_, _, rfl⟩ := hx.inv_nil; exact key _ _ _ _ _ _ _ (.inr ⟨rfl, rfl⟩)
    | some b => obtain ⟨c, ck, rfl, _⟩ := hx.inv_slice; exact key _ _ _ _ _ _ _ (.inr ⟨rfl, rfl⟩)
  · cases h

theorem op_bin (hr : Rel E w0 μ σ w) {op : BinOp} {t : TypeId} {xo yo : Operand} {x x' y y' : Value} (hx : VRel E.old μ x x') (hy : VRel E.old μ y y') {v : Value} (h : evBin E.P op t xo yo x y = some v) :
    OpS E w0 μ σ w nid ⟨v, [], []⟩ (do pure (.value (← (do eqGuard op t xo yo x' y'; binOp op t x' y' : Sem Value)))) := by
  unfold evBin at h
  split at h
  · rename_i ht
    split at h
    · obtain ⟨h1, h2⟩ := evNilP_spec ht hx hy h xo yo w
      exact .val hr h2 (.flat _ h1)
    · obtain ⟨h1, h2⟩ := evNilP_spec ht hx hy h xo yo w
      exact .val hr h2 (.flat _ h1)
    · cases h
  · split at h
    · rename_i ht
      split at h
      · obtain ⟨h1, h2⟩ := evNilS_spec ht hx hy h xo yo w
        exact .val hr h2 (.flat _ h1)
      · obtain ⟨h1, h2⟩ := evNilS_spec ht hx hy h xo yo w
        exact .val hr h2 (.flat _ h1)
      · cases h
    · split at h
      case isFalse => cases h
      rename_i hs
      simp only [Bool.and_eq_true] at hs
      have := hx.scalar_eq hs.1
      subst this
      have := hy.scalar_eq hs.2
      subst this
      obtain ⟨h1, h2⟩ := pureV_spec h w
      exact .val hr h1 (.flat _ h2)

theorem LRel.of_scalars {old : Nat} {l l' : List Value} (h : LRel old μ l l') (hs : l.all scalar = true) : l' = l :=
  list_eq_of h.1 fun i x y hx hy => (h.2 i x y hx hy).scalar_eq (List.all_eq_true.1 hs x (List.mem_of_getElem? hx))

theorem op_len (hr : Rel E w0 μ σ w) {ts : Array TypeId} {ty : TypeId} {x x' : Value} (hx : VRel E.old μ x x') {v : Value} (h : evLen E.P ts x = some v) :
    OpS E w0 μ σ w nid ⟨v, [], []⟩ (do pure (.value (← Builtin.len_ ts ty #[x']))) := by
  unfold evLen at h
  cases ht0 : ts[0]? with
  | none => simp [ht0] at h
  | some t0 =>
  simp only [ht0, Option.bind_some] at h
  split at h
  · rename_i hu
    split at h
    · rename_i s
      cases h
      have := hx.flat_eq rfl
      subst this
      exact .val hr (by simp [Builtin.len_, ht0, run_underlying hu, goInt]) (.flat _ rfl)
    · cases h
  · rename_i n e hu
    cases h
    exact .val hr (by simp [Builtin.len_, ht0, run_underlying hu, goInt]) (.flat _ rfl)
  · rename_i e hu
    split at h
    · rename_i a n k
      cases h
      cases a with
      | none => obtain ⟨rfl, rfl, rfl⟩ := hx.inv_nil; exact .val hr (by simp [Builtin.len_, ht0, run_underlying hu, goInt]) (.flat _ rfl)
      | some a => obtain ⟨c, ck, rfl, _⟩ := hx.inv_slice; exact .val hr (by simp [Builtin.len_, ht0, run_underlying hu, goInt]) (.flat _ rfl)
    · cases h
  · cases h

theorem arr1 {xs : Array Value} {a : Value} (h : xs.toList = [a]) : xs = #[a] := by apply Array.ext'; simp [h]
theorem arr2 {xs : Array Value} {a b : Value} (h : xs.toList = [a, b]) : xs = #[a, b] := by apply Array.ext'; simp [h]

theorem LRel.one {old : Nat} {a : Value} {l' : List Value} (h : LRel old μ [a] l') : ∃ b, l' = [b] ∧ VRel old μ a b := by
  match l', h with
  | [b], h => exact ⟨b, rfl, h.2 0 _ _ rfl rfl⟩
  | [], h => simp [LRel] at h
  | _ :: _ :: _, h => simp [LRel] at h

theorem LRel.two {old : Nat} {a b : Value} {l' : List Value} (h : LRel old μ [a, b] l') : ∃ c d, l' = [c, d] ∧ VRel old μ a c ∧ VRel old μ b d := by
  match l', h with
  | [c, d], h => exact ⟨c, d, rfl, h.2 0 _ _ rfl rfl, h.2 1 _ _ rfl rfl⟩
  | [], h => simp [LRel] at h
  | [_], h => simp [LRel] at h
  | _ :: _ :: _ :: _, h => simp [LRel] at h

theorem op_cap (hr : Rel E w0 μ σ w) {ts : Array TypeId} {ty : TypeId} {x x' : Value} (hx : VRel E.old μ x x') {e : Eff} (h : evCap E σ.heap.get ts x = some e) :
    OpS E w0 μ σ w nid e (do pure (.value (← Builtin.cap_ ts ty #[x']))) := by
  unfold evCap at h
  cases ht0 : ts[0]? with
  | none => simp [ht0] at h
  | some t0 =>
  simp only [ht0, Option.bind_some] at h
  split at h
  · rename_i el hel
    have hu0 : E.P.underlying t0 = some (.slice el) := by
      unfold elemT at hel
      split at hel
      · rename_i hh; cases hel; exact hh
      · cases hel
    cases h
    obtain ⟨_, _, rfl⟩ := hx.inv_nil
    exact .val hr (by simp [Builtin.cap_, ht0, run_underlying hu0, goInt]) (.flat _ rfl)
  · rename_i el a n c hel
    have hu0 : E.P.underlying t0 = some (.slice el) := by
      unfold elemT at hel
      split at hel
      · rename_i hh; cases hel; exact hh
      · cases hel
    split at h
    case h_2 => cases h
    rename_i sz hsz
    split at h
    case h_2 => cases h
    rename_i hop
    cases h
    obtain ⟨c', ck, rfl, hsr⟩ := hx.inv_slice
    have hck := (opens_spec hr hsz hsr hop).1 rfl
    subst hck
    exact .val hr (by simp [Builtin.cap_, ht0, run_underlying hu0, goInt]) (.flat _ rfl)
  · cases h

/-! Maps. -/
theorem mapT_spec {P : Program} {t : TypeId} {kd : IntKind} {el : TypeId} (h : mapT P t = some (kd, el)) : ∃ k, P.underlying t = some (.map k el) ∧ P.underlying k = some (.int kd) := by
  unfold mapT at h
  split at h
  · split at h
    · rename_i hk; cases h; exact ⟨_, by assumption, hk⟩
    · cases h
  · cases h
theorem ML.keys {old : Nat} {μ : Mu} {kd : IntKind} {es : List (Int × Value × Nat)} {L : List MapEntry} (h : ML old μ kd es L) : ∀ x ∈ L, MapKept.IsKey (.int kd) x.key := by
  induction h with
  | nil => simp
  | cons a v v' n hv _ ih =>
    intro x hx
    rcases List.mem_cons.1 hx with rfl | hx
    · simp [MapKept.IsKey]
    · exact ih x hx
theorem ML.len {old : Nat} {μ : Mu} {kd : IntKind} {es : List (Int × Value × Nat)} {L : List MapEntry} (h : ML old μ kd es L) : es.length = L.length := by
  induction h with
  | nil => rfl
  | cons a v v' n hv _ ih => simp [ih]
theorem ML.snoc {old : Nat} {μ : Mu} {kd : IntKind} {es : List (Int × Value × Nat)} {L : List MapEntry} (h : ML old μ kd es L) (a : Int) {v v' : Value} (n : Nat) (hv : VRel old μ v v') : ML old μ kd (es ++ [(a, v, n)]) (L ++ [MapEntry.mk (.int kd a) v' n]) := by
  induction h with
  | nil => exact .cons a v v' n hv .nil
  | cons b u u' m hu _ ih => exact .cons b u u' m hu ih
theorem ML.find {old : Nat} {μ : Mu} {kd : IntKind} {es : List (Int × Value × Nat)} {L : List MapEntry} (h : ML old μ kd es L) (a : Int) : ∀ i : Nat,
    (mfind a es = none ∧ Instr.findNow (.int kd) (.int kd a) L i = some none ∧ (∀ v, mset a v es = none) ∧ mdel a es = es) ∨
    ∃ v v' j m, mfind a es = some v ∧ Instr.findNow (.int kd) (.int kd a) L i = some (some (i + j, v')) ∧ VRel old μ v v' ∧ L[j]? = some m ∧ m.key = .int kd a ∧
      (∀ u u', VRel old μ u u' → ∃ es2, mset a u es = some es2 ∧ ML old μ kd es2 (L.modify j fun e => { e with key := .int kd a, val := u' })) ∧ ML old μ kd (mdel a es) (L.eraseIdx j) := by
  induction h with
  | nil => intro i; exact .inl ⟨rfl, rfl, fun _ => rfl, rfl⟩
  | cons b v v' n hv h ih =>
    intro i
    by_cases hab : b = a
    · subst hab
      refine .inr ⟨v, v', 0, _, by simp [mfind], by simp [Instr.findNow, Instr.sameNow], hv, rfl, rfl, fun u u' hu => ⟨_, by simp [mset]; rfl, ?_⟩, ?_⟩
      · exact .cons b u u' n hu h
      · simp only [mdel, if_true]; exact h
    · have hba : (a == b) = false := by simpa using fun e : a = b => hab e.symm
      rcases ih (i + 1) with ⟨h1, h2, h3, h4⟩ | ⟨w, w', j, m, h1, h2, h3, h4, h5, h6, h7⟩
      · exact .inl ⟨by simp [mfind, hab, h1], by simp [Instr.findNow, Instr.sameNow, hba, h2], fun u => by simp [mset, hab, h3], by simp [mdel, hab, h4]⟩
      · refine .inr ⟨w, w', j + 1, m, by simp [mfind, hab, h1], by rw [show i + (j + 1) = i + 1 + j by omega]; simp [Instr.findNow, Instr.sameNow, hba, h2], h3, by simpa using h4, h5, fun u u' hu => ?_, ?_⟩
        · obtain ⟨es2, g1, g2⟩ := h6 u u' hu
          exact ⟨_, by simp [mset, hab, g1], .cons b v v' n hv g2⟩
        · simp only [mdel, hab, if_false]; exact .cons b v v' n hv h7
/-- A map of one's own, in the model. -/
theorem mapAt_spec (hr : Rel E w0 μ σ w) {kd : IntKind} {x x' : Value} (hx : VRel E.old μ x x') {r : Nat} {es : List (Int × Value × Nat)} {clock : Nat} (h : mapAt E σ.heap.get kd x = some (r, es, clock)) :
    σ.heap.get r = some (.mp kd es clock) ∧ ∃ p L, μ r = some p ∧ x' = .map (some p.c) ∧ w.heap[p.c]? = some (.map L.toArray clock) ∧ ML E.old μ kd es L := by
  unfold mapAt at h
  split at h
  · rename_i q
    split at h
    · cases h
    · split at h
      · rename_i kd' es' clock' hg
        split at h
        · rename_i hk
          subst hk
          cases h
          obtain ⟨_, p, hp, rfl⟩ := hx.inv_map
          obtain ⟨p', hp', L, h1, h2⟩ := hr.blk _ _ hg
          rw [hp] at hp'
          cases hp'
          exact ⟨hg, p, L, hp, rfl, h1, h2⟩
        · cases h
      · cases h
  · cases h
theorem op_makeMap (hr : Rel E w0 μ σ w) (ho : E.old ≤ nid) (hn : nid < σ.next) (hm : μ nid = none) {t : TypeId} {e : Eff} (h : evMakeMap E nid t = some e) :
    OpS E w0 μ σ w nid e (do pure (.value (← Instr.makeMap t none))) := by
  unfold evMakeMap at h
  split at h
  case h_2 => cases h
  rename_i kd el hk
  cases h
  refine ⟨.value (.map (some w.heap.size)), _, w.alloc (.map #[] 0), _, by simp [Instr.makeMap], .inl rfl, ?_, hr.allocB ho hn hm (.mp kd [] 0) ⟨w.heap.size, 0, 0, true, 0, 0⟩ rfl (w.alloc (.map #[] 0)) (by simp) (fun k hk => Below.heap_alloc w _ k hk) rfl rfl rfl ?_, fun a ha => by simp [ha]⟩
  · exact .map _ _ ⟨ho, _, if_pos rfl, rfl⟩
  · exact ⟨[], by show (w.heap.push _)[w.heap.size]? = _; simp, .nil⟩
theorem VRel.two {old : Nat} {μ : Mu} {v v' : Value} (h : VRel old μ v v') (b : Bool) : VRel old μ (.tuple #[v, .bool b]) (.tuple #[v', .bool b]) :=
  .tuple _ _ rfl fun i x y hx hy => by
    match i with
    | 0 => simp at hx hy; subst hx; subst hy; exact h
    | 1 => simp at hx hy; subst hx; subst hy; exact .flat _ rfl
    | i + 2 => simp at hx
theorem op_lookup (hr : Rel E w0 μ σ w) {t : TypeId} {x x' k k' : Value} {ok : Bool} (hx : VRel E.old μ x x') (hk : VRel E.old μ k k') {e : Eff} (h : evLookup E σ.heap.get t x k ok = some e) :
    OpS E w0 μ σ w nid e (do pure (.value (← Instr.lookup t x' k' ok))) := by
  unfold evLookup at h
  split at h
  case h_2 => cases h
  rename_i kd el kk a hmt
  split at h
  · cases h
  rename_i hkk
  have hkk : kk = kd := by simpa using hkk
  subst hkk
  have := hk.flat_eq rfl
  subst this
  split at h
  case h_2 => cases h
  rename_i r es clock hat
  obtain ⟨hg, p, L, hp, rfl, hw, hml⟩ := mapAt_spec hr hx hat
  obtain ⟨kt, hu, huk⟩ := mapT_spec hmt
  have hik : MapKept.IsKey (.int kk) (.int kk a) := by simp [MapKept.IsKey]
  rcases hml.find a 0 with ⟨h1, h2, h3, h4⟩ | ⟨v, v', j, m, h1, h2, h3, h4, h5, h6, h7⟩
  · simp only [h1] at h
    split at h
    case h_2 => cases h
    rename_i z hz
    cases h
    obtain ⟨hz1, hz2⟩ := pureV_spec hz w
    refine OpS.val hr (v' := okV ok z false) ?_ ?_
    · cases ok <;> simp [Instr.lookup, run_underlying hu, MapKept.run_getObj_map hw, MapKept.run_checkKey huk hik, MapKept.run_findKey huk h2, hz1, Result.andThen, okV]
    · cases ok
      · exact .flat _ hz2
      · exact (VRel.flat _ hz2).two false
  · simp only [h1] at h
    cases h
    refine OpS.val hr (v' := okV ok v' true) ?_ ?_
    · cases ok <;> simp [Instr.lookup, run_underlying hu, MapKept.run_getObj_map hw, MapKept.run_checkKey huk hik, MapKept.run_findKey huk h2, Result.andThen, okV]
    · cases ok
      · exact h3
      · exact h3.two true
/-- A map's block is changed. -/
theorem map_set (hr : Rel E w0 μ σ w) {r : Nat} {kd : IntKind} {es es2 : List (Int × Value × Nat)} {clock c2 : Nat} {p : Pl} {L L2 : List MapEntry} (hg : σ.heap.get r = some (.mp kd es clock)) (hp : μ r = some p) (hw : w.heap[p.c]? = some (.map L.toArray clock))
    (h2 : ML E.old μ kd es2 L2) : Rel E w0 μ ⟨upds σ.heap [(r, some (.mp kd es2 c2))], σ.next⟩ { w with heap := w.heap.setIfInBounds p.c (.map L2.toArray c2) } := by
  refine hr.setB hg hp _ (by simp) (fun k hk => (MapKept.heap_set hw).2 k hk) rfl rfl rfl ⟨L2, (MapKept.heap_set hw).1, h2⟩
theorem op_mapUpdate (hr : Rel E w0 μ σ w) {t : TypeId} {x x' k k' v v' : Value} (hx : VRel E.old μ x x') (hk : VRel E.old μ k k') (hv : VRel E.old μ v v') {e : Eff} (h : evMapUpdate E σ.heap.get t x k v = some e) :
    OpS E w0 μ σ w nid e (do Instr.mapUpdate t x' k' v'; pure .skip) := by
  unfold evMapUpdate at h
  split at h
  case h_2 => cases h
  rename_i kd el kk a hmt
  split at h
  · cases h
  rename_i hkk
  have hkk : kk = kd := by simpa using hkk
  subst hkk
  have := hk.flat_eq rfl
  subst this
  split at h
  case h_2 => cases h
  rename_i r es clock hat
  obtain ⟨hg, p, L, hp, rfl, hw, hml⟩ := mapAt_spec hr hx hat
  obtain ⟨kt, hu, huk⟩ := mapT_spec hmt
  have hik : MapKept.IsKey (.int kk) (.int kk a) := by simp [MapKept.IsKey]
  rcases hml.find a 0 with ⟨h1, h2, h3, h4⟩ | ⟨u, u', j, m, h1, h2, h3, h4, h5, h6, h7⟩
  · simp only [h3] at h
    cases h
    refine ⟨.skip, undef, _, μ, ?_, .inr ⟨rfl, rfl⟩, VRel.undef _ _, map_set hr hg hp hw (hml.snoc a clock hv), fun _ _ => rfl⟩
    simp [Instr.mapUpdate, run_underlying hu, MapKept.run_getObj_map hw, MapKept.run_checkKey huk hik, MapKept.run_findKey huk h2, MapKept.run_setObj_map _ hw, Result.andThen]
  · obtain ⟨es2, g1, g2⟩ := h6 v v' hv
    simp only [g1] at h
    cases h
    refine ⟨.skip, undef, _, μ, ?_, .inr ⟨rfl, rfl⟩, VRel.undef _ _, map_set hr hg hp hw g2, fun _ _ => rfl⟩
    simp [Instr.mapUpdate, run_underlying hu, MapKept.run_getObj_map hw, MapKept.run_checkKey huk hik, MapKept.run_findKey huk h2, h4, h5, MapKept.run_keyThatStays hik, MapKept.run_setObj_map _ hw, Result.andThen]
theorem op_delete (hr : Rel E w0 μ σ w) {ts : Array TypeId} {ty : TypeId} {x x' k k' : Value} (hx : VRel E.old μ x x') (hk : VRel E.old μ k k') {e : Eff} (h : evDelete E σ.heap.get ts x k = some e) :
    OpS E w0 μ σ w nid e (do pure (.value (← Builtin.delete_ ts ty #[x', k']))) := by
  unfold evDelete at h
  split at h
  case h_2 => cases h
  rename_i kd el kk a hmt
  split at h
  · cases h
  rename_i hkk
  have hkk : kk = kd := by simpa using hkk
  subst hkk
  have := hk.flat_eq rfl
  subst this
  split at h
  case h_2 => cases h
  rename_i r es clock hat
  cases h
  obtain ⟨hg, p, L, hp, rfl, hw, hml⟩ := mapAt_spec hr hx hat
  obtain ⟨t, ht, hmt⟩ := Option.bind_eq_some_iff.1 hmt
  obtain ⟨kt, hu, huk⟩ := mapT_spec hmt
  have hik : MapKept.IsKey (.int kk) (.int kk a) := by simp [MapKept.IsKey]
  rcases hml.find a 0 with ⟨h1, h2, h3, h4⟩ | ⟨u, u', j, m, h1, h2, h3, h4, h5, h6, h7⟩
  · rw [h4]
    refine ⟨.value (.tuple #[]), _, _, μ, ?_, .inl rfl, VRel.undef _ _, map_set (c2 := clock) hr hg hp hw hml, fun _ _ => rfl⟩
    simp [Builtin.delete_, ht, run_underlying hu, MapKept.run_getObj_map hw, MapKept.run_checkKey huk hik, MapKept.run_findKey huk h2, MapKept.run_setObj_map _ hw, Result.andThen]
  · refine ⟨.value (.tuple #[]), _, _, μ, ?_, .inl rfl, VRel.undef _ _, map_set (c2 := clock) hr hg hp hw h7, fun _ _ => rfl⟩
    have hj : j < L.length := (List.getElem?_eq_some_iff.1 h4).1
    simp [Builtin.delete_, ht, run_underlying hu, MapKept.run_getObj_map hw, MapKept.run_checkKey huk hik, MapKept.run_findKey huk h2, MapKept.run_setObj_map _ hw, Result.andThen, Array.eraseIdxIfInBounds, hj]
theorem op_lenM (hr : Rel E w0 μ σ w) {ts : Array TypeId} {ty : TypeId} {x x' : Value} (hx : VRel E.old μ x x') {e : Eff} (h : evLenM E σ.heap.get ts x = some e) :
    OpS E w0 μ σ w nid e (do pure (.value (← Builtin.len_ ts ty #[x']))) := by
  unfold evLenM at h
  split at h
  case h_2 => cases h
  rename_i kd el hmt
  split at h
  case h_2 => cases h
  rename_i r es clock hat
  cases h
  obtain ⟨hg, p, L, hp, rfl, hw, hml⟩ := mapAt_spec hr hx hat
  obtain ⟨t, ht, hmt⟩ := Option.bind_eq_some_iff.1 hmt
  obtain ⟨kt, hu, huk⟩ := mapT_spec hmt
  exact OpS.val hr (v' := .int .i64 es.length) (by simp [Builtin.len_, ht, run_underlying hu, MapKept.run_getObj_map hw, Result.andThen, goInt, hml.len]) (.flat _ rfl)
theorem op_builtin (hr : Rel E w0 μ σ w) (ho : E.old ≤ nid) (hn : nid < σ.next) (hm : μ nid = none) {b : Builtin} {ts : Array TypeId} {ty : TypeId} {cs : Array Bool} {args : List Value} {args' : Array Value} (ha : LRel E.old μ args args'.toList)
    {e : Eff} (h : evBuiltin E σ.heap.get nid b ts ty args = some e) : OpS E w0 μ σ w nid e (builtin b ts ty cs args') := by
  unfold evBuiltin at h
  split at h
  · obtain ⟨c, d, hcd, h1, h2⟩ := ha.two
    rw [arr2 hcd]
    exact op_append hr ho hn hm h1 h2 h
  · obtain ⟨c, d, hcd, h1, h2⟩ := ha.two
    rw [arr2 hcd]
    exact op_copy hr h1 h2 h
  · obtain ⟨c, hcd, h1⟩ := ha.one
    rw [arr1 hcd]
    exact op_clear hr h1 h
  · obtain ⟨c, hcd, h1⟩ := ha.one
    rw [arr1 hcd]
    rename_i x
    unfold evLenE at h
    cases hl : evLen E.P ts x with
    | none =>
      simp only [hl] at h
      exact op_lenM hr h1 h
    | some v =>
      simp only [hl, Option.some.injEq] at h
      subst h
      exact op_len hr h1 hl
  · obtain ⟨c, d, hcd, h1, h2⟩ := ha.two
    rw [arr2 hcd]
    exact op_delete hr h1 h2 h
  · obtain ⟨c, hcd, h1⟩ := ha.one
    rw [arr1 hcd]
    exact op_cap hr h1 h
  · split at h
    case isFalse => cases h
    rename_i l hs
    have he := ha.of_scalars hs
    cases hp : pureV E.P (Builtin.min_ ts ty args.toArray) with
    | none => simp [hp] at h
    | some v =>
      simp only [hp, Option.map_some, Option.some.injEq] at h
      subst h
      obtain ⟨h1, h2⟩ := pureV_spec hp w
      have : args' = args.toArray := by apply Array.ext'; simp [he]
      rw [this]
      exact .val hr h1 (.flat _ h2)
  · split at h
    case isFalse => cases h
    rename_i l hs
    have he := ha.of_scalars hs
    cases hp : pureV E.P (Builtin.max_ ts ty args.toArray) with
    | none => simp [hp] at h
    | some v =>
      simp only [hp, Option.map_some, Option.some.injEq] at h
      subst h
      obtain ⟨h1, h2⟩ := pureV_spec hp w
      have : args' = args.toArray := by apply Array.ext'; simp [he]
      rw [this]
      exact .val hr h1 (.flat _ h2)
  · split at h
    case isFalse => cases h
    rename_i l hs
    have he := ha.of_scalars hs
    cases hp : pureV E.P (Builtin.complex_ ts ty args.toArray) with
    | none => simp [hp] at h
    | some v =>
      simp only [hp, Option.map_some, Option.some.injEq] at h
      subst h
      obtain ⟨h1, h2⟩ := pureV_spec hp w
      have : args' = args.toArray := by apply Array.ext'; simp [he]
      rw [this]
      exact .val hr h1 (.flat _ h2)
  · split at h
    case isFalse => cases h
    rename_i l hs
    have he := ha.of_scalars hs
    cases hp : pureV E.P (Builtin.real_ ts ty args.toArray) with
    | none => simp [hp] at h
    | some v =>
      simp only [hp, Option.map_some, Option.some.injEq] at h
      subst h
      obtain ⟨h1, h2⟩ := pureV_spec hp w
      have : args' = args.toArray := by apply Array.ext'; simp [he]
      rw [this]
      exact .val hr h1 (.flat _ h2)
  · split at h
    case isFalse => cases h
    rename_i l hs
    have he := ha.of_scalars hs
    cases hp : pureV E.P (Builtin.imag_ ts ty args.toArray) with
    | none => simp [hp] at h
    | some v =>
      simp only [hp, Option.map_some, Option.some.injEq] at h
      subst h
      obtain ⟨h1, h2⟩ := pureV_spec hp w
      have : args' = args.toArray := by apply Array.ext'; simp [he]
      rw [this]
      exact .val hr h1 (.flat _ h2)
  · cases h
end
end Go.Ab

/- All operations that are no calls: one theorem; what they hang on. -/
set_option linter.all false
open Go.RowKit
namespace Go.Ab
section
variable {E : Env} {w0 w : World} {μ : Mu} {σ : St} {nid : Nat}

theorem LRel.map {old : Nat} {ρ ρ' : Operand → Value} (l : List Operand) (h : ∀ x ∈ l, VRel old μ (ρ x) (ρ' x)) : LRel old μ (l.map ρ) (l.map ρ') := by
  refine ⟨by simp, fun i x y hx hy => ?_⟩
  simp only [List.getElem?_map, Option.map_eq_some_iff] at hx hy
  obtain ⟨a, ha, rfl⟩ := hx
  obtain ⟨b, hb, rfl⟩ := hy
  rw [ha] at hb
  cases hb
  exact h a (List.mem_of_getElem? ha)

theorem ORel.map {old : Nat} {ρ ρ' : Operand → Value} (x : Option Operand) (h : ∀ y ∈ x, VRel old μ (ρ y) (ρ' y)) : ORel old μ (x.map ρ) (x.map ρ') := by
  cases x with
  | none => exact .inl ⟨rfl, rfl⟩
  | some y => exact .inr ⟨_, _, rfl, rfl, h y rfl⟩

theorem PRel.map {old : Nat} {ρ ρ' : Operand → Value} (l : List (Nat × Operand)) (h : ∀ x ∈ l.map (·.2), VRel old μ (ρ x) (ρ' x)) : PRel old μ (l.map fun p => (p.1, ρ p.2)) (l.map fun p => (p.1, ρ' p.2)) := by
  refine ⟨by simp, fun i x y hx hy => ?_⟩
  simp only [List.getElem?_map, Option.map_eq_some_iff] at hx hy
  obtain ⟨a, ha, rfl⟩ := hx
  obtain ⟨b, hb, rfl⟩ := hy
  rw [ha] at hb
  cases hb
  exact ⟨rfl, h a.2 (List.mem_map.2 ⟨a, List.mem_of_getElem? ha, rfl⟩)⟩

theorem VRel.arr {old : Nat} {xs ys : Array Value} (h : LRel old μ xs.toList ys.toList) : xs.size = ys.size ∧ ∀ (i : Nat) (x y : Value), xs[i]? = some x → ys[i]? = some y → VRel old μ x y :=
  ⟨by simpa using h.1, fun i x y hx hy => h.2 i x y (by simpa using hx) (by simpa using hy)⟩

set_option maxHeartbeats 1000000 in
theorem op_sound (hr : Rel E w0 μ σ w) (ho : E.old ≤ nid) (hn : nid < σ.next) (hm : μ nid = none) {o : Oper} {ρ ρ' : Operand → Value} (hρ : ∀ x ∈ o.op.operands, VRel E.old μ (ρ x) (ρ' x))
    {e : Eff} (h : evOp E ρ nid σ.heap.get o = some e) : OpS E w0 μ σ w nid e (execOp ρ' o) := by
  obtain ⟨dst, op, ty, pos, after, guard⟩ := o
  cases op
  case move x =>
    replace h : (some ⟨ρ x, [], []⟩ : Option Eff) = some e := h
    cases h; exact ⟨.value (ρ' x), ρ' x, w, μ, rfl, .inl rfl, hρ x (by simp [Op.operands]), by simpa [upds] using hr, fun _ _ => rfl⟩
  case assign x =>
    replace h : (some ⟨ρ x, [], []⟩ : Option Eff) = some e := h
    cases h; exact ⟨.value (ρ' x), ρ' x, w, μ, rfl, .inl rfl, hρ x (by simp [Op.operands]), by simpa [upds] using hr, fun _ _ => rfl⟩
  case pick c a b =>
    replace h : (match ρ c with | .bool true => some ⟨ρ a, [], []⟩ | .bool false => some ⟨ρ b, [], []⟩ | _ => none : Option Eff) = some e := h
    have hc := hρ c (by simp [Op.operands])
    split at h
    · rename_i hcv
      cases h
      rw [hcv] at hc
      have := hc.flat_eq rfl
      exact ⟨.value (ρ' a), ρ' a, w, μ, by simp [execOp, this, asBool], .inl rfl, hρ a (by simp [Op.operands]), by simpa [upds] using hr, fun _ _ => rfl⟩
    · rename_i hcv
      cases h
      rw [hcv] at hc
      have := hc.flat_eq rfl
      exact ⟨.value (ρ' b), ρ' b, w, μ, by simp [execOp, this, asBool], .inl rfl, hρ b (by simp [Op.operands]), by simpa [upds] using hr, fun _ _ => rfl⟩
    · cases h
  case alloc t =>
    replace h : (match zeroCells? E.P t with | some z => some ⟨.pointer (some ⟨nid, 0, none⟩), [(nid, some (.cells z.toList t true))], []⟩ | none => none : Option Eff) = some e := h
    split at h
    · rename_i z hz
      cases h
      exact op_alloc hr ho hn hm hz
    · cases h
  case box t x =>
    replace h : (some ⟨.pointer (some ⟨nid, 0, none⟩), [(nid, some (.cells (ρ x).cells.toList t true))], []⟩ : Option Eff) = some e := h
    cases h; exact op_box hr ho hn hm (hρ x (by simp [Op.operands]))
  case build t parts =>
    replace h : Option.map (fun v => (⟨v, [], []⟩ : Eff)) (evBuild E.P t (parts.toList.map fun p => (p.1, ρ p.2))) = some e := h
    simp only [Option.map_eq_some_iff] at h
    obtain ⟨v, hv, rfl⟩ := h
    have hp := PRel.map (μ := μ) (old := E.old) (ρ := ρ) (ρ' := ρ') parts.toList (fun x hx => hρ x (by simpa [Op.operands] using hx))
    exact op_build (ps' := parts.map fun p => (p.1, ρ' p.2)) hr (by simpa using hp) hv
  case buildSlice t len parts =>
    have hp := PRel.map (μ := μ) (old := E.old) (ρ := ρ) (ρ' := ρ') parts.toList (fun x hx => hρ x (by simpa [Op.operands] using hx))
    replace h : evBuildSlice E.P nid t len (parts.toList.map fun p => (p.1, ρ p.2)) = some e := h
    have := op_buildSlice (ps' := parts.map fun p => (p.1, ρ' p.2)) hr ho hn hm (by simpa using hp) h
    exact this
  case load t a =>
    replace h : evLoad E σ.heap.get t (ρ a) = some e := h
    have hx := hρ a (by simp [Op.operands])
    have := op_load (nid := nid) hr hx h
    exact this
  case store t a x =>
    replace h : evStore E σ.heap.get t (ρ a) (ρ x) = some e := h
    have hx := hρ a (by simp [Op.operands])
    have hy := hρ x (by simp [Op.operands])
    have := op_store (nid := nid) hr hx hy h
    exact this
  case nilCheck x =>
    replace h : (match ρ x with | .pointer (some a) => some ⟨.pointer (some a), [], []⟩ | .func (.func f) xs ys => some ⟨.func (.func f) xs ys, [], []⟩ | _ => none : Option Eff) = some e := h
    have hx := hρ x (by simp [Op.operands])
    split at h
    · rename_i a hxa
      cases h
      rw [hxa] at hx
      obtain ⟨c, hc, ha⟩ := hx.inv_pointer
      exact ⟨.value (.pointer (some c)), _, w, μ, by simp [execOp, hc], .inl rfl, .pointer _ _ ha, by simpa [upds] using hr, fun _ _ => rfl⟩
    · rename_i f xs ys hxa
      cases h
      rw [hxa] at hx
      obtain ⟨f2, c2, hc, h1, h2⟩ := hx.inv_func
      refine ⟨.value (.func (.func f) f2 c2), _, w, μ, by simp [execOp, hc], .inl rfl, ?_, by simpa [upds] using hr, fun _ _ => rfl⟩
      rwa [hc] at hx
    · cases h
  case binOp op t x y t' =>
    replace h : Option.map (fun v => (⟨v, [], []⟩ : Eff)) (evBin E.P op t x y (ρ x) (ρ y)) = some e := h
    simp only [Option.map_eq_some_iff] at h
    obtain ⟨v, hv, rfl⟩ := h
    have hx := hρ x (by simp [Op.operands])
    have hy := hρ y (by simp [Op.operands])
    have := op_bin (nid := nid) hr hx hy hv
    exact this
  case unOp op t x =>
    replace h : (if scalar (ρ x) then Option.map (fun v => (⟨v, [], []⟩ : Eff)) (pureV E.P (Op.unary op (ρ x))) else none) = some e := h
    split at h
    case isFalse => cases h
    rename_i hs
    simp only [Option.map_eq_some_iff] at h
    obtain ⟨v, hv, rfl⟩ := h
    have := (hρ x (by simp [Op.operands])).scalar_eq hs
    obtain ⟨h1, h2⟩ := pureV_spec hv w
    refine OpS.val hr (s := Op.unary op (ρ' x)) ?_ (.flat _ h2)
    rw [this]; exact h1
  case convert src dst x =>
    replace h : evConvert E σ.heap.get nid src dst (ρ x) = some e := h
    have hx := hρ x (by simp [Op.operands])
    have := op_convert hr ho hn hm hx h
    exact this
  case makeFunc fn first captured =>
    replace h : (some ⟨.func fn (first.map ρ) (captured.map ρ), [], []⟩ : Option Eff) = some e := h
    cases h
    have h1 := VRel.arr (xs := first.map ρ) (ys := first.map ρ') (by simpa using LRel.map (μ := μ) (old := E.old) first.toList (fun x hx => hρ x (by simp at hx; simp [Op.operands, hx])))
    have h2 := VRel.arr (xs := captured.map ρ) (ys := captured.map ρ') (by simpa using LRel.map (μ := μ) (old := E.old) captured.toList (fun x hx => hρ x (by simp at hx; simp [Op.operands, hx])))
    exact ⟨.value (.func fn (first.map ρ') (captured.map ρ')), _, w, μ, by simp [execOp, Instr.makeFunc], .inl rfl, .func _ _ _ _ _ h1.1 h1.2 h2.1 h2.2, by simpa [upds] using hr, fun _ _ => rfl⟩
  case makeSlice t l c =>
    replace h : evMakeSlice E nid t (ρ l) (ρ c) = some e := h
    have hx := hρ l (by simp [Op.operands])
    have hy := hρ c (by simp [Op.operands])
    have := op_makeSlice hr ho hn hm hx hy h
    exact this
  case slice t x lo hi mx =>
    replace h : evSlice E σ.heap.get t (ρ x) (lo.map ρ) (hi.map ρ) (mx.map ρ) = some e := h
    have hx := hρ x (by simp [Op.operands])
    have h1 := ORel.map (μ := μ) (old := E.old) (ρ := ρ) (ρ' := ρ') lo (fun y hy => hρ y (by simp at hy; simp [Op.operands, hy]))
    have h2 := ORel.map (μ := μ) (old := E.old) (ρ := ρ) (ρ' := ρ') hi (fun y hy => hρ y (by simp at hy; simp [Op.operands, hy]))
    have h3 := ORel.map (μ := μ) (old := E.old) (ρ := ρ) (ρ' := ρ') mx (fun y hy => hρ y (by simp at hy; simp [Op.operands, hy]))
    have := op_slice (nid := nid) hr hx h1 h2 h3 h
    exact this
  case fieldAddr t x f =>
    replace h : Option.map (fun v => (⟨v, [], []⟩ : Eff)) (evFieldAddr E.P t (ρ x) f) = some e := h
    simp only [Option.map_eq_some_iff] at h
    obtain ⟨v, hv, rfl⟩ := h
    have hx := hρ x (by simp [Op.operands])
    have := op_fieldAddr (nid := nid) hr hx hv
    exact this
  case field t x f =>
    replace h : Option.map (fun v => (⟨v, [], []⟩ : Eff)) (evField E.P t (ρ x) f) = some e := h
    simp only [Option.map_eq_some_iff] at h
    obtain ⟨v, hv, rfl⟩ := h
    have hx := hρ x (by simp [Op.operands])
    have := op_field (nid := nid) hr hx hv
    exact this
  case indexAddr t x i =>
    replace h : Option.map (fun v => (⟨v, [], []⟩ : Eff)) (evIndexAddr E.P t (ρ x) (ρ i)) = some e := h
    simp only [Option.map_eq_some_iff] at h
    obtain ⟨v, hv, rfl⟩ := h
    have hx := hρ x (by simp [Op.operands])
    have hi := hρ i (by simp [Op.operands])
    have := op_indexAddr (nid := nid) hr hx hi hv
    exact this
  case index t x i =>
    replace h : Option.map (fun v => (⟨v, [], []⟩ : Eff)) (evIndex E.P t (ρ x) (ρ i)) = some e := h
    simp only [Option.map_eq_some_iff] at h
    obtain ⟨v, hv, rfl⟩ := h
    have hx := hρ x (by simp [Op.operands])
    have hi := hρ i (by simp [Op.operands])
    have := op_index (nid := nid) hr hx hi hv
    exact this
  case extract x i =>
    replace h : (match ρ x with | .tuple vs => Option.map (fun v => (⟨v, [], []⟩ : Eff)) (vs[i]?) | _ => none : Option Eff) = some e := h
    split at h
    · rename_i vs hxv
      simp only [Option.map_eq_some_iff] at h
      obtain ⟨v, hv, rfl⟩ := h
      have hx := hρ x (by simp [Op.operands])
      rw [hxv] at hx
      obtain ⟨ys, hys, hs, hrel⟩ := hx.inv_tuple
      have hlt : i < ys.size := by have := (Array.getElem?_eq_some_iff.1 hv).1; omega
      refine OpS.val hr (s := Instr.extract (ρ' x) i) (v' := ys[i]) ?_ (hrel i v _ hv (by simp [hlt]))
      simp [Instr.extract, hys, hlt]
    · cases h
  case call c =>
    obtain ⟨callee, args, argTypes⟩ := c
    cases callee with
    | builtin b =>
      have ha := LRel.map (μ := μ) (old := E.old) (ρ := ρ) (ρ' := ρ') args.toList (fun x hx => hρ x (by simp at hx; simp [Op.operands, Call.operands, hx]))
      replace h : evBuiltin E σ.heap.get nid b argTypes ty (args.toList.map ρ) = some e := h
      have := fun cs => op_builtin (args' := args.map ρ') (cs := cs) hr ho hn hm (by simpa using ha) h
      exact this _
    | value f => exact absurd h (by simp [evOp])
    | invoke r m => exact absurd h (by simp [evOp])
  case makeMap t r =>
    replace h : (if r.isNone then evMakeMap E nid t else none) = some e := h
    cases r with
    | some r => simp at h
    | none =>
      simp only [Option.isNone_none, if_true] at h
      have := op_makeMap hr ho hn hm h
      exact this
  case lookup t x k ok =>
    replace h : evLookup E σ.heap.get t (ρ x) (ρ k) ok = some e := h
    have hx := hρ x (by simp [Op.operands])
    have hk := hρ k (by simp [Op.operands])
    have := op_lookup (nid := nid) hr hx hk h
    exact this
  case mapUpdate t x k v =>
    replace h : evMapUpdate E σ.heap.get t (ρ x) (ρ k) (ρ v) = some e := h
    have hx := hρ x (by simp [Op.operands])
    have hk := hρ k (by simp [Op.operands])
    have hv := hρ v (by simp [Op.operands])
    have := op_mapUpdate (nid := nid) hr hx hk hv h
    exact this
  all_goals exact absurd h (by simp [evOp])
end
end Go.Ab

/- What an operation hangs on: the blocks that it names, its operands. -/
set_option linter.all false
namespace Go.Ab
section
variable {E : Env} {g g' : Nat → Option Blk} {nid : Nat}

theorem rd_congr {a : Addr} {n : Nat} (h : g' a.block = g a.block) : rd E g' a n = rd E g a n := by unfold rd; rw [h]
theorem wr_congr {a : Addr} {vs : List Value} (h : g' a.block = g a.block) : wr E g' a vs = wr E g a vs := by unfold wr; rw [h]
theorem opens_congr {a : Addr} {cap size : Nat} {el : TypeId} (h : g' a.block = g a.block) : opens E g' a cap el size = opens E g a cap el size := by unfold opens; rw [h]
theorem szOk_congr {a : Addr} {n : Nat} (h : g' a.block = g a.block) : szOk E g' a n = szOk E g a n := by unfold szOk; rw [h]
theorem rdRow_congr {x : Value} {s n : Nat} (h : ∀ b ∈ blkOf x, g' b = g b) : rdRow E g' s n x = rdRow E g s n x := by
  cases x with
  | slice a n c =>
    cases a with
    | none => rfl
    | some a => simp only [rdRow]; rw [rd_congr (h a.block (by simp [blkOf]))]
  | _ => rfl

theorem evLoad_local {t : TypeId} {x : Value} {e : Eff} (h : evLoad E g t x = some e) (hg : ∀ b ∈ e.rds, g' b = g b) : evLoad E g' t x = some e := by
  unfold evLoad at h ⊢
  split at h
  · rename_i a
    have hb : a.block ∈ e.rds := by
      split at h
      · split at h
        · split at h
          · cases h; simp
          · cases h
        · cases h
      · split at h
        · cases h; simp
        · cases h
      · cases h
    simp only [rd_congr (E := E) (hg _ hb)]
    exact h
  · cases h

theorem evStore_local {t : TypeId} {x v : Value} {e : Eff} (h : evStore E g t x v = some e) (hg : ∀ b ∈ e.rds, g' b = g b) : evStore E g' t x v = some e := by
  unfold evStore at h ⊢
  split at h
  · rename_i a
    have hb : a.block ∈ e.rds := by
      split at h
      · split at h
        · cases h; simp
        · cases h
      · cases h
    simp only [wr_congr (E := E) (hg _ hb)]
    exact h
  · cases h

theorem evSlice_local {t : TypeId} {x : Value} {lo hi mx : Option Value} {e : Eff} (h : evSlice E g t x lo hi mx = some e) (hg : ∀ b ∈ e.rds, g' b = g b) : evSlice E g' t x lo hi mx = some e := by
  unfold evSlice at h ⊢
  split at h
  · exact h
  · exact h
  · rename_i el a len cap hu
    have hb : a.block ∈ e.rds := by
      split at h
      · split at h
        · split at h
          · split at h
            · cases h; simp
            · cases h
          · cases h
        · cases h
      · split at h
        · split at h
          · split at h
            · split at h
              · cases h; simp
              · cases h
            · cases h
          · cases h
        · cases h
      · cases h
    simp only [szOk_congr (E := E) (hg _ hb)]
    exact h
  · exact h
  · cases h

theorem evAppendZ_local {nid : Nat} {el : TypeId} {u : TypeDesc} {s x : Value} {e : Eff} (h : evAppendZ E g nid el u s x = some e) (hg : ∀ b ∈ e.rds, g' b = g b) : evAppendZ E g' nid el u s x = some e := by
  unfold evAppendZ at h ⊢
  split at h
  case h_2 => cases h
  rename_i kn a sLen sCap kq q
  try simp only
  split at h
  case h_2 => cases h
  rename_i i z hi hz
  try simp only [hi, hz]
  split at h
  · cases h
  rename_i hc
  rw [if_neg hc]
  split at h
  case h_2 => cases h
  rename_i old hold hop
  cases h
  have hga : g' a.block = g a.block := hg a.block (by simp)
  rw [rdRow_congr (fun b hb => hg b (by simpa [blkOf] using hb)), hold, opens_congr hga, hop]
theorem evCap_local {ts : Array TypeId} {x : Value} {e : Eff} (h : evCap E g ts x = some e) (hg : ∀ b ∈ e.rds, g' b = g b) : evCap E g' ts x = some e := by
  unfold evCap at h ⊢
  split at h
  · rename_i he; try simp only [he]
    exact h
  · rename_i el a n c he
    try simp only [he]
    split at h
    case h_2 => cases h
    rename_i sz hsz
    try simp only [hsz]
    split at h
    case h_2 => cases h
    rename_i hop
    cases h
    have hga : g' a.block = g a.block := hg a.block (by simp)
    rw [opens_congr hga, hop]
  · cases h
theorem evAppend_local {ts : Array TypeId} {s x : Value} {e : Eff} (h : evAppend E g nid ts s x = some e) (hg : ∀ b ∈ e.rds, g' b = g b) : evAppend E g' nid ts s x = some e := by
  unfold evAppend at h ⊢
  split at h
  case h_2 => cases h
  rename_i el u he hu
  try simp only [he, hu]
  split at h
  case isTrue hsl =>
    rw [if_pos hsl]
    exact evAppendZ_local h hg
  rename_i hsl
  rw [if_neg hsl]
  split at h
  case h_2 => cases h
  rename_i i z n hi hz hn
  try simp only [hi, hz, hn]
  split at h
  case isTrue => cases h
  rename_i hzz
  rw [if_neg hzz]
  split at h
  case h_2 => cases h
  rename_i base sLen sCap new hnew
  have hx : ∀ b ∈ blkOf x, b ∈ e.rds := by
    intro b hb
    split at h
    · split at h
      · cases h; exact hb
      · split at h
        · split at h
          · cases h
          · split at h
            · cases h; simp [hb]
            · cases h
        · cases h
    · split at h
      · split at h
        · split at h
          · cases h; exact hb
          · cases h
        · split at h
          · split at h
            · cases h
            · cases h; simp [hb]
          · cases h; simp [hb]
          · cases h
      · cases h
  rw [rdRow_congr (fun b hb => hg b (hx b hb)), hnew]
  simp only
  split at h
  · rename_i hroom
    rw [if_pos hroom]
    split at h
    · rename_i h0; rw [if_pos h0]; exact h
    · rename_i h0
      rw [if_neg h0]
      split at h
      · rename_i a
        split at h
        · cases h
        · rename_i hsp
          rw [if_neg hsp]
          split at h
          · rename_i w hw
            have hb : a.block ∈ e.rds := by cases h; simp
            rw [wr_congr (a := ⟨a.block, a.off + sLen * i.size, none⟩) (hg _ hb), hw]
            exact h
          · cases h
      · cases h
  · rename_i hroom
    rw [if_neg hroom]
    split at h
    case isFalse => cases h
    rename_i hbig
    rw [if_pos hbig]
    split at h
    · exact h
    · rename_i a
      have hb : a.block ∈ e.rds := by
        split at h
        · split at h
          · cases h
          · cases h; simp
        · cases h; simp
        · cases h
      rw [opens_congr (hg _ hb), rdRow_congr (x := .slice (some a) sLen sCap) (fun b hb' => by simp [blkOf] at hb'; subst hb'; exact hg _ hb)]
      exact h

theorem evCopy_local {ts : Array TypeId} {d x : Value} {e : Eff} (h : evCopy E g ts d x = some e) (hg : ∀ b ∈ e.rds, g' b = g b) : evCopy E g' ts d x = some e := by
  unfold evCopy at h ⊢
  split at h
  case h_2 => cases h
  rename_i el he
  try simp only [he]
  split at h
  case h_2 => cases h
  rename_i size base dLen dCap xl hz hl
  try simp only [hz, hl]
  split at h
  case h_2 => cases h
  rename_i l hrow
  have hx : ∀ b ∈ blkOf x, b ∈ e.rds := by
    intro b hb
    split at h
    · cases h; exact hb
    · split at h
      · split at h
        · cases h; simp [hb]
        · cases h
      · cases h
  rw [rdRow_congr (fun b hb => hg b (hx b hb)), hrow]
  simp only
  split at h
  · rename_i h0; rw [if_pos h0]; exact h
  · rename_i h0
    rw [if_neg h0]
    split at h
    · rename_i a
      split at h
      · rename_i w hw
        have hb : a.block ∈ e.rds := by cases h; simp
        rw [wr_congr (hg _ hb), hw]
        exact h
      · cases h
    · cases h

theorem evClear_local {ts : Array TypeId} {d : Value} {e : Eff} (h : evClear E g ts d = some e) (hg : ∀ b ∈ e.rds, g' b = g b) : evClear E g' ts d = some e := by
  unfold evClear at h ⊢
  split at h
  · exact h
  · rename_i el a n cap he
    split at h
    · rename_i h0; rw [if_pos h0]; exact h
    · rename_i h0
      rw [if_neg h0]
      split at h
      · rename_i size z hz hzc
        try simp only [hz, hzc]
        split at h
        · rename_i hc
          rw [if_pos hc]
          split at h
          · rename_i w hw
            have hb : a.block ∈ e.rds := by cases h; simp
            rw [wr_congr (hg _ hb), hw]
            exact h
          · cases h
        · cases h
      · cases h
  · cases h

theorem evConvert_local {src dst : TypeId} {x : Value} {e : Eff} (h : evConvert E g nid src dst x = some e) (hg : ∀ b ∈ e.rds, g' b = g b) : evConvert E g' nid src dst x = some e := by
  unfold evConvert at h ⊢
  split at h
  · exact h
  · rename_i y el hs hd
    split at h
    · exact h
    · rename_i a n k he
      split at h
      · rename_i l hl
        have hb : a.block ∈ e.rds := by
          simp only [Option.map_eq_some_iff] at h
          obtain ⟨s, _, rfl⟩ := h
          simp
        simp only [rd_congr (E := E) (hg _ hb), hl]
        exact h
      · cases h
    · cases h
  · cases h
  · cases h
  · exact h
  · cases h

/-! Maps: what is looked at is the map's block. -/
theorem mapAt_get {E : Env} {g : Nat → Option Blk} {kd : IntKind} {x : Value} {r : Nat} {es : List (Int × Value × Nat)} {c : Nat} (h : mapAt E g kd x = some (r, es, c)) : g r = some (.mp kd es c) ∧ ∀ g', g' r = g r → mapAt E g' kd x = some (r, es, c) := by
  unfold mapAt at h
  split at h
  · split at h
    · cases h
    · rename_i hq
      split at h
      · rename_i kd' es' c' hgq
        split at h
        · rename_i hk
          subst hk
          cases h
          refine ⟨hgq, fun g' hg => ?_⟩
          unfold mapAt
          simp only [hq, if_false, hg, hgq, if_true]
        · cases h
      · cases h
  · cases h
def AtR (E : Env) (g : Nat → Option Blk) (x : Value) (e : Eff) (F : (Nat → Option Blk) → Option Eff) : Prop :=
  ∃ kd r es c, mapAt E g kd x = some (r, es, c) ∧ e.rds = [r] ∧ (∀ b ∈ e.upd.map (·.1), b = r) ∧ ∀ g', mapAt E g' kd x = some (r, es, c) → F g' = some e
theorem AtR.local {E : Env} {g g' : Nat → Option Blk} {x : Value} {e : Eff} {F : (Nat → Option Blk) → Option Eff} (h : AtR E g x e F) (hg : ∀ b ∈ e.rds, g' b = g b) : F g' = some e := by
  obtain ⟨kd, r, es, c, h1, h2, h3, h4⟩ := h
  exact h4 _ ((mapAt_get h1).2 g' (hg r (by rw [h2]; simp)))
theorem AtR.mono {E : Env} {g g' : Nat → Option Blk} {x : Value} {e : Eff} {F : (Nat → Option Blk) → Option Eff} (h : AtR E g x e F) (hg : ∀ b x, g b = some x → g' b = some x) : F g' = some e := by
  obtain ⟨kd, r, es, c, h1, h2, h3, h4⟩ := h
  exact h4 _ ((mapAt_get h1).2 g' (by rw [(mapAt_get h1).1]; exact hg _ _ (mapAt_get h1).1))
theorem AtR.keys {E : Env} {g : Nat → Option Blk} {x : Value} {e : Eff} {F : (Nat → Option Blk) → Option Eff} (h : AtR E g x e F) (nid : Nat) : ∀ b ∈ e.upd.map (·.1), b = nid ∨ g b ≠ none := by
  obtain ⟨kd, r, es, c, h1, h2, h3, h4⟩ := h
  intro b hb
  rw [h3 b hb, (mapAt_get h1).1]
  exact .inr (by simp)
theorem evLookup_at {E : Env} {g : Nat → Option Blk} {t : TypeId} {x k : Value} {ok : Bool} {e : Eff} (h : evLookup E g t x k ok = some e) : AtR E g x e fun g => evLookup E g t x k ok := by
  unfold evLookup at h
  split at h
  case h_2 => cases h
  rename_i kd el kk a hmt
  split at h
  · cases h
  rename_i hkk
  split at h
  case h_2 => cases h
  rename_i r es c hat
  have h0 := h
  refine ⟨kd, r, es, c, hat, ?_, ?_, fun g' hat' => ?_⟩
  · split at h
    · cases h; rfl
    · split at h <;> cases h; rfl
  · split at h
    · cases h; simp
    · split at h <;> cases h; simp
  · unfold evLookup; simp only [hmt, hkk, if_false, hat']; exact h0
theorem evMapUpdate_at {E : Env} {g : Nat → Option Blk} {t : TypeId} {x k v : Value} {e : Eff} (h : evMapUpdate E g t x k v = some e) : AtR E g x e fun g => evMapUpdate E g t x k v := by
  unfold evMapUpdate at h
  split at h
  case h_2 => cases h
  rename_i kd el kk a hmt
  split at h
  · cases h
  rename_i hkk
  split at h
  case h_2 => cases h
  rename_i r es c hat
  have h0 := h
  refine ⟨kd, r, es, c, hat, ?_, ?_, fun g' hat' => ?_⟩
  · split at h <;> cases h <;> rfl
  · split at h <;> cases h <;> simp
  · unfold evMapUpdate; simp only [hmt, hkk, if_false, hat']; exact h0
theorem evDelete_at {E : Env} {g : Nat → Option Blk} {ts : Array TypeId} {x k : Value} {e : Eff} (h : evDelete E g ts x k = some e) : AtR E g x e fun g => evDelete E g ts x k := by
  unfold evDelete at h
  split at h
  case h_2 => cases h
  rename_i kd el kk a hmt
  split at h
  · cases h
  rename_i hkk
  split at h
  case h_2 => cases h
  rename_i r es c hat
  cases h
  refine ⟨kd, r, es, c, hat, rfl, by simp, fun g' hat' => ?_⟩
  unfold evDelete; simp only [hmt, hkk, if_false, hat']
theorem evLenM_at {E : Env} {g : Nat → Option Blk} {ts : Array TypeId} {x : Value} {e : Eff} (h : evLenM E g ts x = some e) : AtR E g x e fun g => evLenM E g ts x := by
  unfold evLenM at h
  split at h
  case h_2 => cases h
  rename_i kd el hmt
  split at h
  case h_2 => cases h
  rename_i r es c hat
  cases h
  refine ⟨kd, r, es, c, hat, rfl, by simp, fun g' hat' => ?_⟩
  unfold evLenM; simp only [hmt, hat']
theorem evLenE_cases {E : Env} {g : Nat → Option Blk} {ts : Array TypeId} {x : Value} {e : Eff} (h : evLenE E g ts x = some e) : (e.upd = [] ∧ ∀ g', evLenE E g' ts x = some e) ∨ AtR E g x e fun g => evLenE E g ts x := by
  unfold evLenE at h
  split at h
  · rename_i v hv
    cases h
    exact .inl ⟨rfl, fun g' => by unfold evLenE; simp only [hv]⟩
  · rename_i hv
    obtain ⟨kd, r, es, c, h1, h2, h3, h4⟩ := evLenM_at h
    exact .inr ⟨kd, r, es, c, h1, h2, h3, fun g' hg => by unfold evLenE; simp only [hv]; exact h4 g' hg⟩
theorem evLookup_upd {E : Env} {g : Nat → Option Blk} {t : TypeId} {x k : Value} {ok : Bool} {e : Eff} (h : evLookup E g t x k ok = some e) : e.upd = [] := by
  unfold evLookup at h
  split at h
  case h_2 => cases h
  split at h
  · cases h
  split at h
  case h_2 => cases h
  split at h
  · cases h; rfl
  · split at h <;> cases h; rfl
theorem evLenE_upd {E : Env} {g : Nat → Option Blk} {ts : Array TypeId} {x : Value} {e : Eff} (h : evLenE E g ts x = some e) : e.upd = [] := by
  unfold evLenE at h
  split at h
  · cases h; rfl
  · unfold evLenM at h
    split at h
    · split at h <;> cases h; rfl
    · cases h
theorem evBuiltin_len_upd {E : Env} {g : Nat → Option Blk} {nid : Nat} {ts : Array TypeId} {ty : TypeId} {l : List Value} {e : Eff} (h : evBuiltin E g nid .len ts ty l = some e) : e.upd = [] := by
  match l with
  | [] => cases h
  | [x] => exact evLenE_upd (g := g) (ts := ts) (x := x) h
  | x :: y :: l => cases h
theorem evLenE_rds {E : Env} {g : Nat → Option Blk} {ts : Array TypeId} {x : Value} {e : Eff} (h : evLenE E g ts x = some e) (hn : ((ts[0]?).bind fun t => mapT E.P t).isSome = false) : e.rds = [] := by
  unfold evLenE at h
  split at h
  · cases h; rfl
  · unfold evLenM at h
    split at h
    · rename_i hs; rw [hs] at hn; cases hn
    · cases h
theorem evLenE_local {E : Env} {g g' : Nat → Option Blk} {ts : Array TypeId} {x : Value} {e : Eff} (h : evLenE E g ts x = some e) (hg : ∀ b ∈ e.rds, g' b = g b) : evLenE E g' ts x = some e := by
  rcases evLenE_cases h with h | h
  · exact h.2 g'
  · exact h.local hg
theorem evLenE_mono {E : Env} {g g' : Nat → Option Blk} {ts : Array TypeId} {x : Value} {e : Eff} (h : evLenE E g ts x = some e) (hg : ∀ b x, g b = some x → g' b = some x) : evLenE E g' ts x = some e := by
  rcases evLenE_cases h with h | h
  · exact h.2 g'
  · exact h.mono hg

theorem evBuiltin_local {b : Builtin} {ts : Array TypeId} {ty : TypeId} {args : List Value} {e : Eff} (h : evBuiltin E g nid b ts ty args = some e) (hg : ∀ b ∈ e.rds, g' b = g b) : evBuiltin E g' nid b ts ty args = some e := by
  unfold evBuiltin at h ⊢
  split at h
  · exact evAppend_local h hg
  · exact evCopy_local h hg
  · exact evClear_local h hg
  · exact evLenE_local h hg
  · exact (evDelete_at h).local hg
  · exact evCap_local h hg
  · exact h
  · exact h
  · exact h
  · exact h
  · exact h
  · cases h

theorem evOp_local {ρ : Operand → Value} {o : Oper} {e : Eff} (h : evOp E ρ nid g o = some e) (hg : ∀ b ∈ e.rds, g' b = g b) : evOp E ρ nid g' o = some e := by
  obtain ⟨dst, op, ty, pos, after, guard⟩ := o
  cases op
  case load t a => exact evLoad_local (E := E) (g := g) (t := t) (x := ρ a) h hg
  case store t a x => exact evStore_local (E := E) (g := g) (t := t) (x := ρ a) (v := ρ x) h hg
  case convert src dst x => exact evConvert_local (E := E) (g := g) (nid := nid) (src := src) (dst := dst) (x := ρ x) h hg
  case slice t x lo hi mx => exact evSlice_local (E := E) (g := g) (t := t) (x := ρ x) (lo := lo.map ρ) (hi := hi.map ρ) (mx := mx.map ρ) h hg
  case lookup t x k ok => exact (evLookup_at (E := E) (g := g) (t := t) (x := ρ x) (k := ρ k) (ok := ok) h).local hg
  case mapUpdate t x k v => exact (evMapUpdate_at (E := E) (g := g) (t := t) (x := ρ x) (k := ρ k) (v := ρ v) h).local hg
  case call c =>
    obtain ⟨callee, args, argTypes⟩ := c
    cases callee with
    | builtin b => exact evBuiltin_local (E := E) (g := g) (nid := nid) (b := b) (ts := argTypes) (ty := ty) (args := args.toList.map ρ) h hg
    | value f => exact h
    | invoke r m => exact h
  all_goals exact h

/-! More blocks on the heap: what was told stays. -/
theorem rd_mono (hg : ∀ b x, g b = some x → g' b = some x) {a : Addr} {n : Nat} {l : List Value} (h : rd E g a n = some l) : rd E g' a n = some l := by
  unfold rd at h ⊢
  split at h
  · cases h
  · rename_i h1
    rw [if_neg h1]
    split at h
    · rename_i h2; rw [if_pos h2]; exact h
    · rename_i h2
      rw [if_neg h2]
      split at h
      · rename_i c e x hb; rw [hg _ _ hb]; exact h
      · cases h
theorem wr_mono (hg : ∀ b x, g b = some x → g' b = some x) {a : Addr} {vs : List Value} {u : Nat × Option Blk} (h : wr E g a vs = some u) : wr E g' a vs = some u := by
  unfold wr at h ⊢
  split at h
  · cases h
  · rename_i h1
    rw [if_neg h1]
    split at h
    · rename_i c e x hb; rw [hg _ _ hb]; exact h
    · cases h
theorem opens_mono (hg : ∀ b x, g b = some x → g' b = some x) {a : Addr} {cap size : Nat} {el : TypeId} {r : Bool} (h : opens E g a cap el size = some r) : opens E g' a cap el size = some r := by
  unfold opens at h ⊢
  split at h
  · rename_i h1; rw [if_pos h1]; exact h
  · rename_i h1
    rw [if_neg h1]
    split at h
    · rename_i c e x hb; rw [hg _ _ hb]; exact h
    · cases h
theorem szOk_mono (hg : ∀ b x, g b = some x → g' b = some x) {a : Addr} {n : Nat} (h : szOk E g a n = true) : szOk E g' a n = true := by
  unfold szOk at h ⊢
  split at h
  · rename_i h1; rw [if_pos h1]
  · rename_i h1
    rw [if_neg h1]
    split at h
    · rename_i c e x hb; rw [hg _ _ hb]; exact h
    · cases h
theorem rdRow_mono (hg : ∀ b x, g b = some x → g' b = some x) {x : Value} {s n : Nat} {l : List Value} (h : rdRow E g s n x = some l) : rdRow E g' s n x = some l := by
  cases x with
  | slice a n c =>
    cases a with
    | none => exact h
    | some a =>
      simp only [rdRow] at h ⊢
      split at h
      · rename_i h1; rw [if_pos h1]; exact h
      · rename_i h1
        rw [if_neg h1]
        split at h
        · rename_i h2; rw [if_pos h2]; exact rd_mono hg h
        · cases h
  | _ => exact h
theorem evLoad_mono (hg : ∀ b x, g b = some x → g' b = some x) {t : TypeId} {x : Value} {e : Eff} (h : evLoad E g t x = some e) : evLoad E g' t x = some e := by
  unfold evLoad at h ⊢
  split at h
  · rename_i a
    split at h
    · split at h
      · split at h
        · rename_i hr
          try simp only [*]
          simp only [rd_mono hg hr]
          exact h
        · cases h
      · cases h
    · split at h
      · rename_i hr
        try simp only [*]
        simp only [rd_mono hg hr]
        exact h
      · cases h
    · cases h
  · cases h
theorem evStore_mono (hg : ∀ b x, g b = some x → g' b = some x) {t : TypeId} {x v : Value} {e : Eff} (h : evStore E g t x v = some e) : evStore E g' t x v = some e := by
  unfold evStore at h ⊢
  split at h
  · rename_i a
    split at h
    · rename_i hc
      split at h
      · rename_i u hw
        try simp only [*]
        simp only [wr_mono hg hw]
        exact h
      · cases h
    · cases h
  · cases h

theorem evSlice_mono (hg : ∀ b x, g b = some x → g' b = some x) {t : TypeId} {x : Value} {lo hi mx : Option Value} {e : Eff} (h : evSlice E g t x lo hi mx = some e) : evSlice E g' t x lo hi mx = some e := by
  unfold evSlice at h ⊢
  split at h
  · exact h
  · exact h
  · rename_i el a len cap hu
    split at h
    · rename_i n hz hm
      split at h
      · rename_i hc
        try simp only [hz, hm]
        rw [if_pos ⟨szOk_mono hg hc.1, hc.2⟩]
        exact h
      · cases h
    · rename_i n m hz hm
      split at h
      · rename_i hc
        try simp only [hz, hm]
        rw [if_pos ⟨szOk_mono hg hc.1, hc.2⟩]
        exact h
      · cases h
    · cases h
  · exact h
  · cases h
theorem evAppendZ_mono (hg : ∀ b x, g b = some x → g' b = some x) {nid : Nat} {el : TypeId} {u : TypeDesc} {s x : Value} {e : Eff} (h : evAppendZ E g nid el u s x = some e) : evAppendZ E g' nid el u s x = some e := by
  unfold evAppendZ at h ⊢
  split at h
  case h_2 => cases h
  rename_i kn a sLen sCap kq q
  try simp only
  split at h
  case h_2 => cases h
  rename_i i z hi hz
  try simp only [hi, hz]
  split at h
  · cases h
  rename_i hc
  rw [if_neg hc]
  split at h
  case h_2 => cases h
  rename_i old hold hop
  rw [rdRow_mono hg hold, opens_mono hg hop]
  exact h
theorem evCap_mono (hg : ∀ b x, g b = some x → g' b = some x) {ts : Array TypeId} {x : Value} {e : Eff} (h : evCap E g ts x = some e) : evCap E g' ts x = some e := by
  unfold evCap at h ⊢
  split at h
  · rename_i he; try simp only [he]
    exact h
  · rename_i el a n c he
    try simp only [he]
    split at h
    case h_2 => cases h
    rename_i sz hsz
    try simp only [hsz]
    split at h
    case h_2 => cases h
    rename_i hop
    rw [opens_mono hg hop]
    exact h
  · cases h
theorem evAppend_mono (hg : ∀ b x, g b = some x → g' b = some x) {ts : Array TypeId} {s x : Value} {e : Eff} (h : evAppend E g nid ts s x = some e) : evAppend E g' nid ts s x = some e := by
  unfold evAppend at h ⊢
  split at h
  case h_2 => cases h
  rename_i el u he hu
  try simp only [he, hu]
  split at h
  case isTrue hsl =>
    rw [if_pos hsl]
    exact evAppendZ_mono hg h
  rename_i hsl
  rw [if_neg hsl]
  split at h
  case h_2 => cases h
  rename_i i z n hi hz hn
  try simp only [hi, hz, hn]
  split at h
  case isTrue => cases h
  rename_i hzz
  rw [if_neg hzz]
  split at h
  case h_2 => cases h
  rename_i base sLen sCap new hnew
  rw [rdRow_mono hg hnew]
  simp only
  split at h
  · rename_i hroom
    rw [if_pos hroom]
    split at h
    · rename_i h0; rw [if_pos h0]; exact h
    · rename_i h0
      rw [if_neg h0]
      split at h
      · rename_i a
        split at h
        · cases h
        · rename_i hsp
          rw [if_neg hsp]
          split at h
          · rename_i w hw
            rw [wr_mono hg hw]
            exact h
          · cases h
      · cases h
  · rename_i hroom
    rw [if_neg hroom]
    split at h
    case isFalse => cases h
    rename_i hbig
    rw [if_pos hbig]
    split at h
    · exact h
    · rename_i a
      split at h
      · rename_i h1 h2
        rw [rdRow_mono hg h1, opens_mono hg h2]
        exact h
      · rename_i h1 h2
        rw [rdRow_mono hg h1, opens_mono hg h2]
        exact h
      · cases h
theorem evCopy_mono (hg : ∀ b x, g b = some x → g' b = some x) {ts : Array TypeId} {d x : Value} {e : Eff} (h : evCopy E g ts d x = some e) : evCopy E g' ts d x = some e := by
  unfold evCopy at h ⊢
  split at h
  case h_2 => cases h
  rename_i el he
  try simp only [he]
  split at h
  case h_2 => cases h
  rename_i size base dLen dCap xl hz hl
  try simp only [hz, hl]
  split at h
  case h_2 => cases h
  rename_i l hrow
  rw [rdRow_mono hg hrow]
  simp only
  split at h
  · rename_i h0; rw [if_pos h0]; exact h
  · rename_i h0
    rw [if_neg h0]
    split at h
    · rename_i a
      split at h
      · rename_i w hw
        rw [wr_mono hg hw]
        exact h
      · cases h
    · cases h
theorem evClear_mono (hg : ∀ b x, g b = some x → g' b = some x) {ts : Array TypeId} {d : Value} {e : Eff} (h : evClear E g ts d = some e) : evClear E g' ts d = some e := by
  unfold evClear at h ⊢
  split at h
  · exact h
  · rename_i el a n cap he
    split at h
    · rename_i h0; rw [if_pos h0]; exact h
    · rename_i h0
      rw [if_neg h0]
      split at h
      · rename_i size z hz hzc
        try simp only [hz, hzc]
        split at h
        · rename_i hc
          rw [if_pos hc]
          split at h
          · rename_i w hw
            rw [wr_mono hg hw]
            exact h
          · cases h
        · cases h
      · cases h
  · cases h
theorem evConvert_mono (hg : ∀ b x, g b = some x → g' b = some x) {src dst : TypeId} {x : Value} {e : Eff} (h : evConvert E g nid src dst x = some e) : evConvert E g' nid src dst x = some e := by
  unfold evConvert at h ⊢
  split at h
  · exact h
  · rename_i y el hs hd
    split at h
    · exact h
    · rename_i a n k he
      split at h
      · rename_i l hl
        simp only [rd_mono hg hl]
        exact h
      · cases h
    · cases h
  · cases h
  · cases h
  · exact h
  · cases h
theorem evBuiltin_mono (hg : ∀ b x, g b = some x → g' b = some x) {b : Builtin} {ts : Array TypeId} {ty : TypeId} {args : List Value} {e : Eff} (h : evBuiltin E g nid b ts ty args = some e) : evBuiltin E g' nid b ts ty args = some e := by
  unfold evBuiltin at h ⊢
  split at h
  · exact evAppend_mono hg h
  · exact evCopy_mono hg h
  · exact evClear_mono hg h
  · exact evLenE_mono h hg
  · exact (evDelete_at h).mono hg
  · exact evCap_mono hg h
  · exact h
  · exact h
  · exact h
  · exact h
  · exact h
  · cases h
theorem evOp_mono (hg : ∀ b x, g b = some x → g' b = some x) {ρ : Operand → Value} {o : Oper} {e : Eff} (h : evOp E ρ nid g o = some e) : evOp E ρ nid g' o = some e := by
  obtain ⟨dst, op, ty, pos, after, guard⟩ := o
  cases op
  case load t a => exact evLoad_mono (E := E) (g := g) (t := t) (x := ρ a) hg h
  case store t a x => exact evStore_mono (E := E) (g := g) (t := t) (x := ρ a) (v := ρ x) hg h
  case convert src dst x => exact evConvert_mono (E := E) (g := g) (nid := nid) (src := src) (dst := dst) (x := ρ x) hg h
  case slice t x lo hi mx => exact evSlice_mono (E := E) (g := g) (t := t) (x := ρ x) (lo := lo.map ρ) (hi := hi.map ρ) (mx := mx.map ρ) hg h
  case lookup t x k ok => exact (evLookup_at (E := E) (g := g) (t := t) (x := ρ x) (k := ρ k) (ok := ok) h).mono hg
  case mapUpdate t x k v => exact (evMapUpdate_at (E := E) (g := g) (t := t) (x := ρ x) (k := ρ k) (v := ρ v) h).mono hg
  case call c =>
    obtain ⟨callee, args, argTypes⟩ := c
    cases callee with
    | builtin b => exact evBuiltin_mono (E := E) (g := g) (nid := nid) (b := b) (ts := argTypes) (ty := ty) (args := args.toList.map ρ) hg h
    | value f => exact h
    | invoke r m => exact h
  all_goals exact h

/-- What is written: the block of one's own number, or one that is there. -/
theorem evAppend_keys {nid : Nat} {ts : Array TypeId} {s x : Value} {e : Eff} (h : evAppend E g nid ts s x = some e) : ∀ b ∈ e.upd.map (·.1), b = nid ∨ g b ≠ none := by
  have hw : ∀ {a : Addr} {vs : List Value} {w : Nat × Option Blk}, wr E g a vs = some w → g w.1 ≠ none := by
    intro a vs w h
    unfold wr at h
    split at h
    · cases h
    · split at h
      · rename_i hb
        split at h
        · cases h; simp [hb]
        · cases h
      · cases h
  have hop : ∀ {a : Addr} {cap size : Nat} {el : TypeId} {n : Nat}, rdRow E g size n (.slice (some a) n cap) ≠ none → opens E g a cap el size = some true → g a.block ≠ none := by
    intro a cap size el n _ h
    unfold opens at h
    split at h
    · cases h
    · split at h
      · rename_i hb; simp [hb]
      · cases h
  unfold evAppend at h
  split at h
  case h_2 => cases h
  split at h
  · unfold evAppendZ at h
    split at h
    · split at h
      · split at h
        · cases h
        · split at h
          · cases h; simp
          · cases h
      · cases h
    · cases h
  · split at h
    case h_2 => cases h
    split at h
    · cases h
    · split at h
      case h_2 => cases h
      split at h
      · split at h
        · cases h; simp
        · split at h
          · split at h
            · cases h
            · split at h
              · rename_i w hwr
                cases h
                intro b hb
                simp at hb
                subst hb
                exact .inr (hw hwr)
              · cases h
          · cases h
      · split at h
        · split at h
          · split at h
            · cases h; simp
            · cases h
          · split at h
            · rename_i old h1 h2
              split at h
              · cases h
              · cases h
                intro b hb
                simp at hb
                rcases hb with rfl | rfl
                · exact .inr (by
                    unfold opens at h2
                    split at h2
                    · cases h2
                    · split at h2
                      · rename_i hb; simp [hb]
                      · cases h2)
                · exact .inl rfl
            · cases h; simp
            · cases h
        · cases h

theorem evOp_keys {ρ : Operand → Value} {o : Oper} {e : Eff} (h : evOp E ρ nid g o = some e) : ∀ b ∈ e.upd.map (·.1), b = nid ∨ g b ≠ none := by
  have hw : ∀ {a : Addr} {vs : List Value} {w : Nat × Option Blk}, wr E g a vs = some w → g w.1 ≠ none := by
    intro a vs w h
    unfold wr at h
    split at h
    · cases h
    · split at h
      · rename_i hb
        split at h
        · cases h; simp [hb]
        · cases h
      · cases h
  obtain ⟨dst, op, ty, pos, after, guard⟩ := o
  cases op
  case move x => cases (show (some (⟨ρ x, [], []⟩ : Eff) = some e) from h); simp
  case assign x => cases (show (some (⟨ρ x, [], []⟩ : Eff) = some e) from h); simp
  case pick c a b =>
    simp only [evOp] at h
    split at h <;> cases h <;> simp
  case alloc t =>
    simp only [evOp] at h
    split at h
    · cases h; simp
    · cases h
  case box t x => cases (show (some (⟨.pointer (some ⟨nid, 0, none⟩), [(nid, some (.cells (ρ x).cells.toList t true))], []⟩ : Eff) = some e) from h); simp
  case build t ps =>
    simp only [evOp, Option.map_eq_some_iff] at h
    obtain ⟨v, _, rfl⟩ := h
    simp
  case buildSlice t n ps =>
    have h' : evBuildSlice E.P nid t n (ps.toList.map fun p => (p.1, ρ p.2)) = some e := h
    unfold evBuildSlice at h'
    split at h'
    · split at h'
      · split at h'
        · split at h'
          · cases h'; simp
          · cases h'
        · cases h'
      · cases h'
    · cases h'
  case load t a =>
    have h' : evLoad E g t (ρ a) = some e := h
    unfold evLoad at h'
    split at h'
    · split at h'
      · split at h'
        · split at h'
          · cases h'; simp
          · cases h'
        · cases h'
      · split at h'
        · cases h'; simp
        · cases h'
      · cases h'
    · cases h'
  case store t a x =>
    have h' : evStore E g t (ρ a) (ρ x) = some e := h
    unfold evStore at h'
    split at h'
    · split at h'
      · split at h'
        · rename_i w hwr
          cases h'
          intro b hb
          simp at hb
          subst hb
          exact .inr (hw hwr)
        · cases h'
      · cases h'
    · cases h'
  case nilCheck x =>
    simp only [evOp] at h
    split at h <;> cases h <;> simp
  case binOp op t x y t' =>
    simp only [evOp, Option.map_eq_some_iff] at h
    obtain ⟨v, _, rfl⟩ := h
    simp
  case unOp op t x =>
    simp only [evOp] at h
    split at h
    · simp only [Option.map_eq_some_iff] at h
      obtain ⟨v, _, rfl⟩ := h
      simp
    · cases h
  case convert src dst x =>
    have h' : evConvert E g nid src dst (ρ x) = some e := h
    unfold evConvert at h'
    split at h'
    · split at h'
      · split at h'
        · cases h'; simp
        · cases h'
      · cases h'
    · split at h'
      · cases h'; simp
      · split at h'
        · simp only [Option.map_eq_some_iff] at h'
          obtain ⟨v, _, rfl⟩ := h'
          simp
        · cases h'
      · cases h'
    · cases h'
    · cases h'
    · split at h'
      · simp only [Option.map_eq_some_iff] at h'
        obtain ⟨v, _, rfl⟩ := h'
        simp
      · cases h'
    · cases h'
  case makeFunc fn f c => cases (show (some (⟨.func fn (f.map ρ) (c.map ρ), [], []⟩ : Eff) = some e) from h); simp
  case makeSlice t l c =>
    have h' : evMakeSlice E nid t (ρ l) (ρ c) = some e := h
    unfold evMakeSlice at h'
    split at h'
    · split at h'
      · split at h'
        · cases h'; simp
        · cases h'
      · cases h'
    · cases h'
  case slice t x lo hi mx =>
    have h' : evSlice E g t (ρ x) (lo.map ρ) (hi.map ρ) (mx.map ρ) = some e := h
    have : e.upd = [] := by
      unfold evSlice at h'
      split at h'
      · split at h'
        · split at h'
          · cases h'; rfl
          · cases h'
        · cases h'
      · split at h'
        · split at h'
          · cases h'; rfl
          · cases h'
        · split at h'
          · cases h'; rfl
          · cases h'
        · cases h'
      · split at h'
        · split at h'
          · split at h'
            · split at h'
              · cases h'; rfl
              · cases h'
            · cases h'
          · cases h'
        · split at h'
          · split at h'
            · split at h'
              · split at h'
                · cases h'; rfl
                · cases h'
              · cases h'
            · cases h'
          · cases h'
        · cases h'
      · split at h'
        · split at h'
          · cases h'; rfl
          · cases h'
        · cases h'
      · cases h'
    simp [this]
  case fieldAddr t x f =>
    simp only [evOp, Option.map_eq_some_iff] at h
    obtain ⟨v, _, rfl⟩ := h
    simp
  case field t x f =>
    simp only [evOp, Option.map_eq_some_iff] at h
    obtain ⟨v, _, rfl⟩ := h
    simp
  case indexAddr t x i =>
    simp only [evOp, Option.map_eq_some_iff] at h
    obtain ⟨v, _, rfl⟩ := h
    simp
  case index t x i =>
    simp only [evOp, Option.map_eq_some_iff] at h
    obtain ⟨v, _, rfl⟩ := h
    simp
  case extract x i =>
    simp only [evOp] at h
    split at h
    · simp only [Option.map_eq_some_iff] at h
      obtain ⟨v, _, rfl⟩ := h
      simp
    · cases h
  case call c =>
    obtain ⟨callee, args, argTypes⟩ := c
    cases callee with
    | value f => exact absurd h (by simp [evOp])
    | invoke r m => exact absurd h (by simp [evOp])
    | builtin b =>
      have h' : evBuiltin E g nid b argTypes ty (args.toList.map ρ) = some e := h
      unfold evBuiltin at h'
      split at h'
      · exact evAppend_keys h'
      · unfold evCopy at h'
        split at h'
        · split at h'
          · split at h'
            · split at h'
              · cases h'; simp
              · split at h'
                · split at h'
                  · rename_i w hwr
                    cases h'
                    intro b hb
                    simp at hb
                    subst hb
                    exact .inr (hw hwr)
                  · cases h'
                · cases h'
            · cases h'
          · cases h'
        · cases h'
      · unfold evClear at h'
        split at h'
        · cases h'; simp
        · split at h'
          · cases h'; simp
          · split at h'
            · split at h'
              · split at h'
                · rename_i w hwr
                  cases h'
                  intro b hb
                  simp at hb
                  subst hb
                  exact .inr (hw hwr)
                · cases h'
              · cases h'
            · cases h'
        · cases h'
      · rcases evLenE_cases h' with h2 | h2
        · rw [h2.1]; simp
        · exact h2.keys nid
      · exact (evDelete_at h').keys nid
      · unfold evCap at h'
        split at h'
        · cases h'; simp
        · split at h'
          · split at h'
            · cases h'; simp
            · cases h'
          · cases h'
        · cases h'
      · split at h'
        · simp only [Option.map_eq_some_iff] at h'
          obtain ⟨v, _, rfl⟩ := h'
          simp
        · cases h'
      · split at h'
        · simp only [Option.map_eq_some_iff] at h'
          obtain ⟨v, _, rfl⟩ := h'
          simp
        · cases h'
      · split at h'
        · simp only [Option.map_eq_some_iff] at h'
          obtain ⟨v, _, rfl⟩ := h'
          simp
        · cases h'
      · split at h'
        · simp only [Option.map_eq_some_iff] at h'
          obtain ⟨v, _, rfl⟩ := h'
          simp
        · cases h'
      · split at h'
        · simp only [Option.map_eq_some_iff] at h'
          obtain ⟨v, _, rfl⟩ := h'
          simp
        · cases h'
      · cases h'
  case makeMap t r =>
    have h' : (if r.isNone then evMakeMap E nid t else none) = some e := h
    split at h'
    · unfold evMakeMap at h'
      split at h' <;> cases h'
      simp
    · cases h'
  case lookup t x k ok => exact (evLookup_at (E := E) (g := g) (t := t) (x := ρ x) (k := ρ k) (ok := ok) h).keys nid
  case mapUpdate t x k v => exact (evMapUpdate_at (E := E) (g := g) (t := t) (x := ρ x) (k := ρ k) (v := ρ v) h).keys nid
  all_goals exact absurd h (by simp [evOp])

/-- An operation that makes a block and looks at none makes it under its own number, whatever is there. -/
theorem evOp_alloc {ρ : Operand → Value} {o : Oper} {e : Eff} (h : evOp E ρ nid g o = some e) (ha : allocOnly e = true) : (∃ b, e.upd = [(nid, some b)]) ∧ e.rds = [] ∧ ∀ g', evOp E ρ nid g' o = some e := by
  unfold allocOnly at ha
  simp only [Bool.and_eq_true, List.isEmpty_iff] at ha
  obtain ⟨hr, hu⟩ := ha
  have hall : ∀ g', evOp E ρ nid g' o = some e := fun g' => evOp_local h (fun b hb => by rw [hr] at hb; cases hb)
  refine ⟨?_, hr, hall⟩
  split at hu
  · rename_i k b he
    have := evOp_keys (hall fun _ => none) k (by rw [he]; simp)
    rcases this with rfl | h
    · exact ⟨b, he⟩
    · exact absurd rfl h
  · cases hu

/-- Operands that read as before. -/
theorem evOp_opds {ρ ρ' : Operand → Value} {o : Oper} (h : ∀ x ∈ o.op.operands, ρ' x = ρ x) : evOp E ρ' nid g o = evOp E ρ nid g o := by
  obtain ⟨dst, op, ty, pos, after, guard⟩ := o
  have hl : ∀ l : List Operand, (∀ x ∈ l, x ∈ op.operands) → l.map ρ' = l.map ρ := fun l hx => List.map_congr_left fun x hm => h x (hx x hm)
  have hp : ∀ l : List (Nat × Operand), (∀ x ∈ l.map (·.2), x ∈ op.operands) → (l.map fun p => (p.1, ρ' p.2)) = l.map fun p => (p.1, ρ p.2) :=
    fun l hx => List.map_congr_left fun p hm => by rw [h p.2 (hx _ (List.mem_map.2 ⟨p, hm, rfl⟩))]
  have ho : ∀ x : Option Operand, (∀ y ∈ x, y ∈ op.operands) → x.map ρ' = x.map ρ := by
    intro x hx
    cases x with
    | none => rfl
    | some y => simp [h y (hx y rfl)]
  cases op <;> simp only [Op.operands] at h hl hp ho
  case move x => simp only [evOp]; rw [h x (by simp)]
  case assign x => simp only [evOp]; rw [h x (by simp)]
  case pick c a b => simp only [evOp]; rw [h c (by simp), h a (by simp), h b (by simp)]
  case box t x => simp only [evOp]; rw [h x (by simp)]
  case build t ps => simp only [evOp]; rw [hp ps.toList (fun x hx => by simpa using hx)]
  case buildSlice t n ps => simp only [evOp]; rw [hp ps.toList (fun x hx => by simpa using hx)]
  case load t a => simp only [evOp]; rw [h a (by simp)]
  case store t a x => simp only [evOp]; rw [h a (by simp), h x (by simp)]
  case nilCheck x => simp only [evOp]; rw [h x (by simp)]
  case binOp op t x y t' => simp only [evOp]; rw [h x (by simp), h y (by simp)]
  case unOp op t x => simp only [evOp]; rw [h x (by simp)]
  case convert s d x => simp only [evOp]; rw [h x (by simp)]
  case makeFunc fn f c =>
    simp only [evOp]
    have h1 : f.map ρ' = f.map ρ := by
      apply Array.ext'; simp only [Array.toList_map]; exact hl f.toList (fun x hx => by simp at hx; simp [hx])
    have h2 : c.map ρ' = c.map ρ := by
      apply Array.ext'; simp only [Array.toList_map]; exact hl c.toList (fun x hx => by simp at hx; simp [hx])
    rw [h1, h2]
  case makeSlice t l c => simp only [evOp]; rw [h l (by simp), h c (by simp)]
  case lookup t x k ok => simp only [evOp]; rw [h x (by simp), h k (by simp)]
  case mapUpdate t x k v => simp only [evOp]; rw [h x (by simp), h k (by simp), h v (by simp)]
  case slice t x lo hi mx => simp only [evOp]; rw [h x (by simp), ho lo (fun y hy => by simp at hy; simp [hy]), ho hi (fun y hy => by simp at hy; simp [hy]), ho mx (fun y hy => by simp at hy; simp [hy])]
  case fieldAddr t x f => simp only [evOp]; rw [h x (by simp)]
  case field t x f => simp only [evOp]; rw [h x (by simp)]
  case indexAddr t x i => simp only [evOp]; rw [h x (by simp), h i (by simp)]
  case index t x i => simp only [evOp]; rw [h x (by simp), h i (by simp)]
  case extract x i => simp only [evOp]; rw [h x (by simp)]
  case call c =>
    obtain ⟨callee, args, argTypes⟩ := c
    cases callee with
    | builtin b => simp only [evOp]; rw [hl args.toList (fun x hx => by simp at hx; simp [Call.operands, hx])]
    | value f => rfl
    | invoke r m => rfl
  all_goals rfl
end
end Go.Ab

/- Regions: whatever order the model picks, it comes to what the order of the text comes to. -/
set_option linter.all false
open Go.RowKit
namespace Go.Ab

/-! ### What is looked at once, in the text -/

def okOpd : Operand → Bool
  | .tmp _ | .func _ => true
  | .const v => scalar v
  | .global _ => false

def okOper (o : Oper) : Bool := o.op.operands.toList.all okOpd

def isMp (P : Program) (ts : Array TypeId) : Bool := ((ts[0]?).bind fun t => mapT P t).isSome

def kind (P : Program) (o : Oper) : Nat :=
  match o.op with
  | .load .. | .lookup .. => 1
  | .slice t _ _ _ _ => if isSl P t then 1 else 0
  | .store .. | .alloc _ | .box .. | .buildSlice .. | .makeSlice .. | .makeMap .. | .mapUpdate .. => 2
  | .convert src dst _ => if isSl P src || isSl P dst then 2 else 0
  | .call { callee := .builtin b, argTypes, .. } => match b with | .min | .max => 0 | .len => if isMp P argTypes then 1 else 0 | _ => 2
  | .call _ => 3
  | _ => 0

def harmless (P : Program) (x y : Oper) : Bool := kind P x == 0 || kind P y == 0 || (kind P x == 1 && kind P y == 1)

def bitsOf (cl : List Nat) : List Edge → Nat
  | [] => 0
  | e :: r => if Region.binds .any e then 2 ^ e.on ||| (cl.getD e.on 0 ||| bitsOf cl r) else bitsOf cl r

def closFrom (cl : List Nat) : List Oper → List Nat
  | [] => cl
  | o :: r => closFrom (cl ++ [bitsOf cl o.after.toList]) r

def edgesOk (o : Oper) (i : Nat) : Bool := o.after.toList.all fun e => !Region.binds .any e || decide (e.on < i)

def pairOk (P : Program) (ops : Array Oper) (ps : List (Nat × Nat)) (cl : List Nat) (i j : Nat) : Bool :=
  match ops[i]?, ops[j]? with
  | some x, some y => (cl.getD j 0).testBit i || (x.apart ops y && (harmless P x y || ps.contains (i, j)))
  | _, _ => false

/-- A region that draws its order may be gone through in the order of the text, the pairs 'ps' being looked at as it runs. -/
def drawOk (P : Program) (ops : Array Oper) (ps : List (Nat × Nat)) : Bool :=
  let cl := closFrom [] ops.toList
  (ops.toList.zipIdx.all fun x => edgesOk x.1 x.2) && ps.all (fun p => decide (p.1 < p.2)) &&
  (List.range ops.size).all fun j => (List.range j).all fun i => pairOk P ops ps cl i j

inductive Anc (ops : Array Oper) (i : Nat) : Nat → Prop
  | one (j : Nat) (o : Oper) (e : Edge) (ho : ops[j]? = some o) (he : e ∈ o.after.toList) (hb : Region.binds .any e = true) (hi : e.on = i) : Anc ops i j
  | step (j : Nat) (o : Oper) (e : Edge) (ho : ops[j]? = some o) (he : e ∈ o.after.toList) (hb : Region.binds .any e = true) (h : Anc ops i e.on) : Anc ops i j

theorem bitsOf_spec (ops : Array Oper) (cl : List Nat) (hcl : ∀ j i, (cl.getD j 0).testBit i = true → Anc ops i j) (j : Nat) (o : Oper) (ho : ops[j]? = some o) :
    ∀ (es : List Edge), (∀ e ∈ es, e ∈ o.after.toList) → ∀ i, (bitsOf cl es).testBit i = true → Anc ops i j := by
  intro es
  induction es with
  | nil => intro _ i h; simp [bitsOf] at h
  | cons e r ih =>
    intro hm i h
    simp only [bitsOf] at h
    have hr := ih (fun x hx => hm x (List.mem_cons_of_mem _ hx)) i
    split at h
    · rename_i hb
      simp only [Nat.testBit_or, Bool.or_eq_true] at h
      rcases h with h | h | h
      · rw [Nat.testBit_two_pow] at h
        exact .one j o e ho (hm e (by simp)) hb (by simpa using h)
      · exact .step j o e ho (hm e (by simp)) hb (hcl _ _ h)
      · exact hr h
    · exact hr h

theorem closFrom_spec (ops : Array Oper) : ∀ (l : List Oper) (cl : List Nat), (∀ k, l[k]? = ops[cl.length + k]?) → (∀ j i, (cl.getD j 0).testBit i = true → Anc ops i j) →
    ∀ j i, ((closFrom cl l).getD j 0).testBit i = true → Anc ops i j := by
  intro l
  induction l with
  | nil => intro cl _ h; exact h
  | cons o r ih =>
    intro cl hl h
    simp only [closFrom]
    have ho : ops[cl.length]? = some o := by simpa using (hl 0).symm
    refine ih _ (fun k => ?_) (fun j i hb => ?_)
    · have := hl (k + 1)
      simp at this
      rw [this]
      congr 1
      simp
      omega
    · by_cases hj : j < cl.length
      · refine h j i ?_
        have e : (cl ++ [bitsOf cl o.after.toList]).getD j 0 = cl.getD j 0 := by
          simp only [List.getD]
          rw [List.getElem?_append_left hj]
        rw [e] at hb
        exact hb
      · by_cases hj2 : j = cl.length
        · subst hj2
          have e : (cl ++ [bitsOf cl o.after.toList]).getD cl.length 0 = bitsOf cl o.after.toList := by simp [List.getD]
          rw [e] at hb
          exact bitsOf_spec ops cl h _ o ho _ (fun e he => he) i hb
        · have e : (cl ++ [bitsOf cl o.after.toList]).getD j 0 = 0 := by
            simp only [List.getD]
            rw [List.getElem?_eq_none (by simp; omega)]
            rfl
          rw [e] at hb
          simp at hb

/-! ### Two operations that have nothing to do with each other -/

def IndepP : Rec → Rec → Prop
  | .quiet, _ => True
  | _, .quiet => True
  | .mem _ e, .mem _ e' => (∀ b ∈ e.upd.map (·.1), b ∉ e'.rds ∧ b ∉ e'.upd.map (·.1)) ∧ ∀ b ∈ e'.upd.map (·.1), b ∉ e.rds
  | .mem f e, .call b a => e.upd = [] ∧ f b.heap.get = some e ∧ f a.heap.get = some e
  | .call b a, .mem f e => allocOnly e = true ∨ (e.upd = [] ∧ f b.heap.get = some e ∧ f a.heap.get = some e) ∨ (e.upd = [] ∧ ∀ k ∈ e.rds, b.heap.get k = a.heap.get k)
  | .call .., .call .. => False

/-- A call that stays right when one more block lies on the heap. -/
def Mono (call : CallF) : Prop := ∀ (f : FuncId) (args : List Value) (σ : St) (v : Value) (σ' : St) (n : Nat) (x : Option Blk), σ.heap.get n = none → n < σ.next → call f args σ = some (v, σ') →
  σ'.heap.get n = none ∧ σ.next ≤ σ'.next ∧ call f args ⟨σ.heap.set n x, σ.next⟩ = some (v, ⟨σ'.heap.set n x, σ'.next⟩)

/-- The same record, with one more block on the heap. -/
def Grown (n : Nat) (x : Option Blk) : Rec → Rec → Prop
  | .quiet, .quiet => True
  | .mem f e, .mem f' e' => f' = f ∧ e' = e
  | .call b a, .call b' a' => b.heap.get n = none ∧ a.heap.get n = none ∧ b' = ⟨b.heap.set n x, b.next⟩ ∧ a' = ⟨a.heap.set n x, a.next⟩
  | _, _ => False

def RecMono : Rec → Prop
  | .mem f _ => ∀ (g g' : Nat → Option Blk), (∀ b x, g b = some x → g' b = some x) → ∀ e, f g = some e → f g' = some e
  | _ => True

theorem set_ext {h : T} {n : Nat} {x : Option Blk} (hn : h.get n = none) : ∀ b y, h.get b = some y → (h.set n x).get b = some y := by
  intro b y hb
  rw [T.get_set_ne _ _ _ _ (by intro e; subst e; rw [hn] at hb; cases hb)]
  exact hb

theorem IndepP.grow_r {n : Nat} {x : Option Blk} {h r r' : Rec} (hm : RecMono h) (hi : IndepP h r) (hg : Grown n x r r') : IndepP h r' := by
  cases r <;> cases r' <;> simp only [Grown] at hg
  · exact hi
  · obtain ⟨rfl, rfl⟩ := hg; exact hi
  · obtain ⟨h1, h2, rfl, rfl⟩ := hg
    cases h with
    | quiet => trivial
    | call b a => exact hi.elim
    | mem f e =>
      obtain ⟨q1, q2, q3⟩ := hi
      exact ⟨q1, hm _ _ (set_ext h1) _ q2, hm _ _ (set_ext h2) _ q3⟩

theorem IndepP.grow_l {n : Nat} {x : Option Blk} {h r r' : Rec} (hm : RecMono h) (hi : IndepP r h) (hg : Grown n x r r') : IndepP r' h := by
  cases r <;> cases r' <;> simp only [Grown] at hg
  · exact hi
  · obtain ⟨rfl, rfl⟩ := hg; exact hi
  · obtain ⟨h1, h2, rfl, rfl⟩ := hg
    cases h with
    | quiet => trivial
    | call b a => exact hi.elim
    | mem f e =>
      rcases hi with hi | ⟨q1, q2, q3⟩ | ⟨q1, q2⟩
      · exact .inl hi
      · exact .inr (.inl ⟨q1, hm _ _ (set_ext h1) _ q2, hm _ _ (set_ext h2) _ q3⟩)
      · refine .inr (.inr ⟨q1, fun k hk => ?_⟩)
        show (T.set _ _ _).get k = (T.set _ _ _).get k
        rw [T.get_set, T.get_set, q2 k hk]

theorem beqF_eq {a b : Value} (h : beqF a b = true) : a = b := by
  unfold beqF at h
  split at h <;> simp_all

theorem beqL_eq : ∀ {a b : List Value}, beqL a b = true → a = b
  | [], [], _ => rfl
  | [], _ :: _, h => by simp [beqL] at h
  | _ :: _, [], h => by simp [beqL] at h
  | x :: a, y :: b, h => by
    simp only [beqL, Bool.and_eq_true] at h
    rw [beqF_eq h.1, beqL_eq h.2]

theorem beqV_eq {a b : Value} (h : beqV a b = true) : a = b := by
  unfold beqV at h
  split at h
  · rw [show _ = _ from Array.ext' (beqL_eq h)]
  · exact beqF_eq h

theorem effSame_spec {e : Eff} (h0 : e.upd = []) {x : Option Eff} (h : effSame e x = true) : x = some e := by
  unfold effSame at h
  split at h
  · rename_i e'
    simp only [Bool.and_eq_true, List.isEmpty_iff, beq_iff_eq] at h
    obtain ⟨h1, h2, h3⟩ := h
    have := beqV_eq h3
    cases e; cases e'
    simp_all
  · cases h

theorem disj_spec {a b : List Nat} (h : disj a b = true) : ∀ x ∈ a, x ∉ b := by
  intro x hx hb
  unfold disj at h
  have := List.all_eq_true.1 h x hx
  simp at this
  exact this hb

theorem indep_spec {r r' : Rec} (h : indep r r' = true) : IndepP r r' := by
  cases r <;> cases r' <;> simp only [indep, IndepP, Bool.and_eq_true] at h ⊢
  · obtain ⟨h1, h2⟩ := h
    refine ⟨fun b hb => ?_, disj_spec h2⟩
    have := disj_spec h1 b hb
    simp only [List.mem_append, not_or] at this
    exact this
  · obtain ⟨h1, h2, h3⟩ := h
    have h0 : _ = [] := List.isEmpty_iff.1 h1
    exact ⟨h0, effSame_spec h0 h2, effSame_spec h0 h3⟩
  · simp only [Bool.or_eq_true, Bool.and_eq_true] at h
    rcases h with h | ⟨h1, h2, h3⟩
    · exact .inl h
    · have h0 : _ = [] := List.isEmpty_iff.1 h1
      exact .inr (.inl ⟨h0, effSame_spec h0 h2, effSame_spec h0 h3⟩)
  · cases h

theorem upds_get (t : T) : ∀ (l : List (Nat × Option Blk)) (b : Nat), b ∉ l.map (·.1) → (upds t l).get b = t.get b := by
  intro l
  induction l generalizing t with
  | nil => intro b _; rfl
  | cons x l ih =>
    intro b hb
    obtain ⟨n, v⟩ := x
    simp only [List.map_cons, List.mem_cons, not_or] at hb
    simp only [upds]
    rw [ih _ b hb.2, T.get_set_ne _ _ _ _ hb.1]

theorem upds_set (t : T) (n : Nat) (v : Option Blk) : ∀ (l : List (Nat × Option Blk)), n ∉ l.map (·.1) → upds (t.set n v) l = (upds t l).set n v := by
  intro l
  induction l generalizing t with
  | nil => intro _; rfl
  | cons x l ih =>
    intro h
    obtain ⟨m, u⟩ := x
    simp only [List.map_cons, List.mem_cons, not_or] at h
    simp only [upds]
    rw [T.set_comm _ _ _ _ _ h.1, ih _ h.2]

theorem upds_comm (t : T) : ∀ (l k : List (Nat × Option Blk)), (∀ b ∈ l.map (·.1), b ∉ k.map (·.1)) → upds (upds t l) k = upds (upds t k) l := by
  intro l
  induction l generalizing t with
  | nil => intro k _; rfl
  | cons x l ih =>
    intro k h
    obtain ⟨n, v⟩ := x
    simp only [upds]
    rw [ih _ k (fun b hb => h b (by simp at hb ⊢; right; exact hb)), upds_set _ _ _ k (h n (by simp))]

theorem put_get (fr : List Value) (dst : Option Tmp) (v : Value) (t : Nat) (h : dst ≠ some t) : (put fr dst v)[t]? = fr[t]? := by
  cases dst with
  | none => rfl
  | some d =>
    have : d ≠ t := fun e => h (by rw [e])
    simp [put, List.getElem?_set_ne this]

theorem Opd_put (fr : List Value) (dst : Option Tmp) (v : Value) (x : Operand) (h : ∀ d, dst = some d → x ≠ .tmp d) : Opd (put fr dst v) x = Opd fr x := by
  cases x with
  | tmp t =>
    have : dst ≠ some t := fun e => h t e rfl
    simp only [Opd, List.getD]
    rw [put_get fr dst v t this]
  | _ => rfl

theorem put_comm' (fr : List Value) (x y : Option Tmp) (v u : Value) (h : ∀ d, x = some d → y ≠ some d) : put (put fr x v) y u = put (put fr y u) x v := by
  cases x with
  | none => rfl
  | some d =>
    cases y with
    | none => rfl
    | some e =>
      have : d ≠ e := fun he => h d rfl (by rw [he])
      simp only [put]
      exact List.set_comm _ _ this

theorem yieldA_put (ops : Array Oper) (fr : List Value) (dst : Option Tmp) (v : Value) (o : Oper) (h : ∀ d, dst = some d → d ∉ o.looksAt ops) :
    Region.wanted o (yieldA ops.toList (put fr dst v)) = Region.wanted o (yieldA ops.toList fr) := by
  unfold Region.wanted
  cases hg : o.guard with
  | none => rfl
  | some jw =>
    obtain ⟨j, w⟩ := jw
    simp only
    have : yieldA ops.toList (put fr dst v) j = yieldA ops.toList fr j := by
      unfold yieldA
      simp only [Array.getElem?_toList]
      cases hd : (ops[j]?).bind (·.dst) with
      | none => rfl
      | some t =>
        have hne : dst ≠ some t := by
          intro e
          refine h t e ?_
          simp [Oper.looksAt, hg, hd]
        simp only [Option.bind_some]
        rw [put_get _ _ _ _ hne]
    rw [this]

theorem opds_put (ops : Array Oper) (fr : List Value) (dst : Option Tmp) (v : Value) (o : Oper) (h : ∀ d, dst = some d → d ∉ o.looksAt ops) :
    ∀ x ∈ o.op.operands, Opd (put fr dst v) x = Opd fr x := by
  intro x hx
  refine Opd_put _ _ _ _ fun d hd hxd => h d hd ?_
  subst hxd
  simp only [Oper.looksAt, List.mem_append, List.mem_filterMap]
  exact .inl ⟨_, by simpa using hx, rfl⟩

theorem map_opds {fr fr' : List Value} (l : List Operand) (h : ∀ x ∈ l, Opd fr' x = Opd fr x) : l.map (Opd fr') = l.map (Opd fr) := List.map_congr_left h

/-- One step, its record. -/
theorem step1_put {E : Env} {call : CallF} {ops : Array Oper} {base i : Nat} {o : Oper} (ho : ops[i]? = some o) (fr : List Value) (dst : Option Tmp) (v : Value) (h : ∀ d, dst = some d → d ∉ o.looksAt ops)
    (h2 : ∀ d, dst = some d → o.dst ≠ some d) {σ : St} {r : Rec} {fr' : List Value} {σ' : St} (hs : step1 E call ops.toList base i fr σ = some (r, fr', σ')) :
    step1 E call ops.toList base i (put fr dst v) σ = some (r, put fr' dst v, σ') := by
  unfold step1 at hs ⊢
  simp only [Array.getElem?_toList, ho] at hs ⊢
  rw [yieldA_put ops fr dst v o h]
  have hop := opds_put ops fr dst v o h
  split at hs
  · rename_i hw
    rw [if_pos hw]
    cases hc : callOf o with
    | some fa =>
      obtain ⟨f, args⟩ := fa
      obtain ⟨ats, aarr, hoc, rfl⟩ : ∃ ats aarr, o.op = .call { callee := .value f, args := aarr, argTypes := ats } ∧ args = aarr.toList := by
        unfold callOf at hc
        split at hc
        · rename_i f' as' ats hoc; cases hc; exact ⟨ats, as', hoc, rfl⟩
        · cases hc
      simp only [hc] at hs ⊢
      have hf : Opd (put fr dst v) f = Opd fr f := hop f (by simp [hoc, Op.operands, Call.operands])
      have ha : aarr.toList.map (Opd (put fr dst v)) = aarr.toList.map (Opd fr) := map_opds _ fun x hx => hop x (by simp at hx; simp [hoc, Op.operands, Call.operands, hx])
      rw [hf, ha]
      split at hs
      · rename_i f' as' hce
        try simp only [hce]
        split at hs
        · rename_i v' σ2 hcall
          cases hs
          try simp only [hcall]
          rw [put_comm' _ _ _ _ _ h2]
        · cases hs
      · cases hs
    | none =>
      simp only [hc] at hs ⊢
      have hev : ∀ g, evOp E (Opd (put fr dst v)) (base + i) g o = evOp E (Opd fr) (base + i) g o := fun g => evOp_opds hop
      split at hs
      · rename_i e he
        cases hs
        rw [hev, he]
        simp only
        rw [put_comm' _ _ _ _ _ h2]
        congr 2
        congr 1
        funext g
        exact hev g
      · cases hs
  · rename_i hw
    rw [if_neg hw]
    cases hs
    rw [put_comm' _ _ _ _ _ h2]

theorem apart_sym {ops : Array Oper} {x y : Oper} (h : x.apart ops y = true) : (∀ d, x.dst = some d → d ∉ y.looksAt ops) ∧ (∀ d, y.dst = some d → d ∉ x.looksAt ops) ∧ (∀ d, x.dst = some d → y.dst ≠ some d) ∧ (∀ d, y.dst = some d → x.dst ≠ some d) := by
  obtain ⟨h1, h2, h3⟩ := Oper.apart_spec h
  exact ⟨h1, h3, h2, fun d hd he => h2 d he hd⟩

theorem step1_quiet {E : Env} {call : CallF} {ops : Array Oper} {base i : Nat} {fr fr' : List Value} {σ σ' : St} (h : step1 E call ops.toList base i fr σ = some (.quiet, fr', σ')) :
    ∃ o, ops[i]? = some o ∧ Region.wanted o (yieldA ops.toList fr) = false ∧ fr' = put fr o.dst undef ∧ σ' = σ := by
  unfold step1 at h
  simp only [Array.getElem?_toList] at h
  split at h
  · cases h
  · rename_i o ho
    split at h
    · split at h
      · split at h
        · split at h <;> cases h
        · cases h
      · split at h <;> cases h
    · rename_i hw
      cases h
      exact ⟨o, ho, by simpa using hw, rfl, rfl⟩

theorem step1_mem {E : Env} {call : CallF} {ops : Array Oper} {base i : Nat} {fr fr' : List Value} {σ σ' : St} {f : (Nat → Option Blk) → Option Eff} {e : Eff} (h : step1 E call ops.toList base i fr σ = some (.mem f e, fr', σ')) :
    ∃ o, ops[i]? = some o ∧ Region.wanted o (yieldA ops.toList fr) = true ∧ callOf o = none ∧ f = (fun g => evOp E (Opd fr) (base + i) g o) ∧ f σ.heap.get = some e ∧ fr' = put fr o.dst e.val ∧ σ' = ⟨upds σ.heap e.upd, σ.next⟩ := by
  unfold step1 at h
  simp only [Array.getElem?_toList] at h
  split at h
  · cases h
  · rename_i o ho
    split at h
    · rename_i hw
      split at h
      · split at h
        · split at h <;> cases h
        · cases h
      · rename_i hc
        split at h
        · rename_i e' he
          cases h
          exact ⟨o, ho, hw, hc, rfl, he, rfl, rfl⟩
        · cases h
    · cases h

theorem step1_call {E : Env} {call : CallF} {ops : Array Oper} {base i : Nat} {fr fr' : List Value} {σ σ' b a : St} (h : step1 E call ops.toList base i fr σ = some (.call b a, fr', σ')) :
    ∃ o f args fid as v, ops[i]? = some o ∧ Region.wanted o (yieldA ops.toList fr) = true ∧ callOf o = some (f, args) ∧ callee? (Opd fr f) (args.map (Opd fr)) = some (fid, as) ∧ call fid as σ = some (v, σ') ∧ b = σ ∧ a = σ' ∧ fr' = put fr o.dst v := by
  unfold step1 at h
  simp only [Array.getElem?_toList] at h
  split at h
  · cases h
  · rename_i o ho
    split at h
    · rename_i hw
      split at h
      · rename_i f args hc
        split at h
        · rename_i fid as hce
          split at h
          · rename_i v σ2 hcall
            cases h
            exact ⟨o, f, args, fid, as, v, ho, hw, hc, hce, hcall, rfl, rfl, rfl⟩
          · cases h
        · cases h
      · split at h <;> cases h
    · cases h

theorem mk_quiet {E : Env} {call : CallF} {ops : Array Oper} {base i : Nat} {fr : List Value} {σ : St} {o : Oper} (ho : ops[i]? = some o) (hw : Region.wanted o (yieldA ops.toList fr) = false) :
    step1 E call ops.toList base i fr σ = some (.quiet, put fr o.dst undef, σ) := by
  unfold step1; simp [ho, hw]

theorem mk_mem {E : Env} {call : CallF} {ops : Array Oper} {base i : Nat} {fr : List Value} {σ : St} {o : Oper} {e : Eff} (ho : ops[i]? = some o) (hw : Region.wanted o (yieldA ops.toList fr) = true) (hc : callOf o = none)
    (he : evOp E (Opd fr) (base + i) σ.heap.get o = some e) :
    step1 E call ops.toList base i fr σ = some (.mem (fun g => evOp E (Opd fr) (base + i) g o) e, put fr o.dst e.val, ⟨upds σ.heap e.upd, σ.next⟩) := by
  unfold step1; simp [ho, hw, hc, he]

theorem mk_call {E : Env} {call : CallF} {ops : Array Oper} {base i : Nat} {fr : List Value} {σ σ' : St} {o : Oper} {f : Operand} {args : List Operand} {fid : FuncId} {as : List Value} {v : Value} (ho : ops[i]? = some o)
    (hw : Region.wanted o (yieldA ops.toList fr) = true) (hc : callOf o = some (f, args)) (hce : callee? (Opd fr f) (args.map (Opd fr)) = some (fid, as)) (hcall : call fid as σ = some (v, σ')) :
    step1 E call ops.toList base i fr σ = some (.call σ σ', put fr o.dst v, σ') := by
  unfold step1; simp [ho, hw, hc, hce, hcall]

/-- Two steps that have nothing to do with each other, in the other order. -/
theorem swap {E : Env} {call : CallF} (hmono : Mono call) {ops : Array Oper} {base i j : Nat} {oi oj : Oper} (hi : ops[i]? = some oi) (hj : ops[j]? = some oj) (hap : oi.apart ops oj = true)
    {fr fr1 fr2 : List Value} {σ σ1 σ2 : St} {ri rj : Rec} (h1 : step1 E call ops.toList base i fr σ = some (ri, fr1, σ1)) (h2 : step1 E call ops.toList base j fr1 σ1 = some (rj, fr2, σ2)) (hind : IndepP ri rj)
    (hfj : σ.heap.get (base + j) = none) (hnj : base + j < σ.next) :
    ∃ fr1' σ1' ri', step1 E call ops.toList base j fr σ = some (rj, fr1', σ1') ∧ step1 E call ops.toList base i fr1' σ1' = some (ri', fr2, σ2) ∧ (ri' = ri ∨ ∃ x, Grown (base + j) x ri ri') := by
  obtain ⟨a1, a2, a3, a4⟩ := apart_sym hap
  -- taking back what i wrote into the frame
  have back : ∀ (v : Value), fr1 = put fr oi.dst v → ∀ (σ' : St) (r : Rec) (fr' : List Value) (σ'' : St), step1 E call ops.toList base j fr1 σ' = some (r, fr', σ'') →
      ∃ frj, step1 E call ops.toList base j fr σ' = some (r, frj, σ'') ∧ fr' = put frj oi.dst v := by
    intro v hv σ' r fr' σ'' h
    subst hv
    have hy := yieldA_put ops fr oi.dst v oj a1
    have hop := opds_put ops fr oi.dst v oj a1
    cases r with
    | quiet =>
      obtain ⟨o, ho, hw, rfl, rfl⟩ := step1_quiet h
      rw [hj] at ho; cases ho
      rw [hy] at hw
      exact ⟨_, mk_quiet hj hw, put_comm' _ _ _ _ _ a3⟩
    | mem f e =>
      obtain ⟨o, ho, hw, hc, rfl, he, rfl, rfl⟩ := step1_mem h
      rw [hj] at ho; cases ho
      rw [hy] at hw
      have hev : ∀ g, evOp E (Opd (put fr oi.dst v)) (base + j) g oj = evOp E (Opd fr) (base + j) g oj := fun g => evOp_opds hop
      have hfun : (fun g => evOp E (Opd (put fr oi.dst v)) (base + j) g oj) = fun g => evOp E (Opd fr) (base + j) g oj := funext hev
      have he' : evOp E (Opd fr) (base + j) σ'.heap.get oj = some e := by rw [← hev]; exact he
      rw [hfun]
      exact ⟨_, mk_mem hj hw hc he', put_comm' _ _ _ _ _ a3⟩
    | call b a =>
      obtain ⟨o, f, args, fid, as, u, ho, hw, hc, hce, hcall, rfl, rfl, rfl⟩ := step1_call h
      rw [hj] at ho; cases ho
      rw [hy] at hw
      obtain ⟨ats, aarr, hoc, rfl⟩ : ∃ ats aarr, oj.op = .call { callee := .value f, args := aarr, argTypes := ats } ∧ args = aarr.toList := by
        unfold callOf at hc
        split at hc
        · rename_i f' as' ats hoc; cases hc; exact ⟨ats, as', hoc, rfl⟩
        · cases hc
      have hf : Opd (put fr oi.dst v) f = Opd fr f := hop f (by simp [hoc, Op.operands, Call.operands])
      have ha : aarr.toList.map (Opd (put fr oi.dst v)) = aarr.toList.map (Opd fr) := map_opds _ fun x hx => hop x (by simp at hx; simp [hoc, Op.operands, Call.operands, hx])
      rw [hf, ha] at hce
      exact ⟨_, mk_call hj hw hc hce hcall, put_comm' _ _ _ _ _ a3⟩
  cases ri with
  | quiet =>
    obtain ⟨o, ho, hw, rfl, rfl⟩ := step1_quiet h1
    rw [hi] at ho; cases ho
    obtain ⟨frj, hsj, rfl⟩ := back _ rfl _ _ _ _ h2
    refine ⟨frj, σ2, _, hsj, ?_, .inl rfl⟩
    have hq := mk_quiet (E := E) (call := call) (base := base) (σ := σ2) hi hw
    cases rj with
    | quiet =>
      obtain ⟨o, ho, _, rfl, rfl⟩ := step1_quiet hsj
      rw [hj] at ho; cases ho
      have := step1_put hi fr oj.dst undef a2 a4 hq
      rwa [put_comm' _ _ _ _ _ a3] at this
    | mem f e =>
      obtain ⟨o, ho, _, _, rfl, _, rfl, rfl⟩ := step1_mem hsj
      rw [hj] at ho; cases ho
      have := step1_put hi fr oj.dst e.val a2 a4 hq
      rwa [put_comm' _ _ _ _ _ a3] at this
    | call b a =>
      obtain ⟨o, _, _, _, _, u, ho, _, _, _, _, _, _, rfl⟩ := step1_call hsj
      rw [hj] at ho; cases ho
      have := step1_put hi fr oj.dst u a2 a4 hq
      rwa [put_comm' _ _ _ _ _ a3] at this
  | mem f e =>
    obtain ⟨o, ho, hw, hc, rfl, he, rfl, rfl⟩ := step1_mem h1
    rw [hi] at ho; cases ho
    obtain ⟨frj, hsj, rfl⟩ := back _ rfl _ _ _ _ h2
    cases rj with
    | quiet =>
      obtain ⟨o, ho, hwj, rfl, rfl⟩ := step1_quiet hsj
      rw [hj] at ho; cases ho
      refine ⟨_, _, _, mk_quiet hj hwj, ?_, .inl rfl⟩
      have := step1_put hi fr oj.dst undef a2 a4 (mk_mem (call := call) hi hw hc he)
      rwa [put_comm' _ _ _ _ _ a3] at this
    | mem f' e' =>
      obtain ⟨o, ho, hwj, hcj, rfl, hej, rfl, rfl⟩ := step1_mem hsj
      rw [hj] at ho; cases ho
      obtain ⟨d1, d2⟩ := hind
      have hej' : evOp E (Opd fr) (base + j) σ.heap.get oj = some e' := by
        refine evOp_local hej fun b hb => ?_
        rw [upds_get _ _ _ (fun hm => (d1 b hm).1 hb)]
      refine ⟨_, _, _, mk_mem hj hwj hcj hej', ?_, .inl rfl⟩
      have hei : evOp E (Opd fr) (base + i) (upds σ.heap e'.upd).get oi = some e := by
        refine evOp_local he fun b hb => ?_
        rw [upds_get _ _ _ (fun hm => d2 b hm hb)]
      have := step1_put hi fr oj.dst e'.val a2 a4 (mk_mem (call := call) (σ := ⟨upds σ.heap e'.upd, σ.next⟩) hi hw hc hei)
      rw [put_comm' _ _ _ _ _ a3] at this
      rw [this]
      simp only
      rw [upds_comm _ _ _ (fun b hb hb' => (d1 b hb').2 hb)]
    | call b a =>
      obtain ⟨o, f, args, fid, as, u, ho, hwj, hcj, hce, hcall, hb, ha, rfl⟩ := step1_call hsj
      rw [hj] at ho; cases ho
      obtain ⟨d0, d1, d2⟩ := hind
      have hσ : (⟨upds σ.heap e.upd, σ.next⟩ : St) = σ := by rw [d0]; rfl
      rw [hσ] at hcall hb
      subst hb
      subst ha
      refine ⟨_, _, _, mk_call hj hwj hcj hce hcall, ?_, .inl rfl⟩
      have := step1_put hi fr oj.dst u a2 a4 (mk_mem (call := call) (σ := a) hi hw hc d2)
      rw [put_comm' _ _ _ _ _ a3] at this
      rw [this]
      try simp only
      rw [d0]
      rfl
  | call b a =>
    obtain ⟨o, f, args, fid, as, u, ho, hw, hc, hce, hcall, rfl, rfl, rfl⟩ := step1_call h1
    rw [hi] at ho; cases ho
    obtain ⟨frj, hsj, rfl⟩ := back _ rfl _ _ _ _ h2
    cases rj with
    | quiet =>
      obtain ⟨o, ho, hwj, rfl, rfl⟩ := step1_quiet hsj
      rw [hj] at ho; cases ho
      refine ⟨_, _, _, mk_quiet hj hwj, ?_, .inl rfl⟩
      have := step1_put hi fr oj.dst undef a2 a4 (mk_call (E := E) (base := base) hi hw hc hce hcall)
      rwa [put_comm' _ _ _ _ _ a3] at this
    | mem f' e' =>
      obtain ⟨o, ho, hwj, hcj, rfl, hej, rfl, rfl⟩ := step1_mem hsj
      rw [hj] at ho; cases ho
      have hind : allocOnly e' = true ∨ (e'.upd = [] ∧ evOp E (Opd fr) (base + j) b.heap.get oj = some e') := by
        rcases hind with h | ⟨q1, q2, _⟩ | ⟨q1, q2⟩
        · exact .inl h
        · exact .inr ⟨q1, q2⟩
        · exact .inr ⟨q1, evOp_local hej fun k hk => by first | exact q2 k hk | exact (q2 k hk).symm⟩
      rcases hind with hal | ⟨d0, d1⟩
      · obtain ⟨⟨blk, hu⟩, hrd, hall⟩ := evOp_alloc hej hal
        obtain ⟨m1, m2, m3⟩ := hmono _ _ _ _ _ (base + j) (some blk) hfj hnj hcall
        have hσ : ∀ s : St, (⟨upds s.heap e'.upd, s.next⟩ : St) = ⟨s.heap.set (base + j) (some blk), s.next⟩ := fun s => by rw [hu]; rfl
        refine ⟨_, _, .call ⟨b.heap.set (base + j) (some blk), b.next⟩ ⟨a.heap.set (base + j) (some blk), a.next⟩, mk_mem hj hwj hcj (hall _), ?_, .inr ⟨some blk, ?_⟩⟩
        · have := step1_put hi fr oj.dst e'.val a2 a4 (mk_call (E := E) (base := base) hi hw hc hce m3)
          rw [put_comm' _ _ _ _ _ a3] at this
          rw [hσ, hσ]
          exact this
        · exact ⟨hfj, m1, rfl, rfl⟩
      refine ⟨_, _, _, mk_mem hj hwj hcj d1, ?_, .inl rfl⟩
      have := step1_put hi fr oj.dst e'.val a2 a4 (mk_call (E := E) (base := base) (σ := b) hi hw hc hce hcall)
      rw [put_comm' _ _ _ _ _ a3] at this
      rw [d0]
      simpa [upds] using this
    | call b' a' => exact hind.elim

theorem runOps_cons {E : Env} {call : CallF} {ops : List Oper} {base i : Nat} {l : List Nat} {fr : List Value} {σ : St} {rs : List Rec} {frf : List Value} {σf : St}
    (h : runOps E call ops base (i :: l) fr σ = some (rs, frf, σf)) : ∃ r fr1 σ1 rs', step1 E call ops base i fr σ = some (r, fr1, σ1) ∧ runOps E call ops base l fr1 σ1 = some (rs', frf, σf) ∧ rs = r :: rs' := by
  simp only [runOps] at h
  split at h
  · rename_i r fr1 σ1 hs
    split at h
    · rename_i rs' fr2 σ2 hr
      cases h
      exact ⟨r, fr1, σ1, rs', hs, hr, rfl⟩
    · cases h
  · cases h

theorem mk_runOps {E : Env} {call : CallF} {ops : List Oper} {base i : Nat} {l : List Nat} {fr fr1 frf : List Value} {σ σ1 σf : St} {r : Rec} {rs : List Rec} (h : step1 E call ops base i fr σ = some (r, fr1, σ1))
    (h2 : runOps E call ops base l fr1 σ1 = some (rs, frf, σf)) : runOps E call ops base (i :: l) fr σ = some (r :: rs, frf, σf) := by
  simp [runOps, h, h2]

theorem step1_recmono {E : Env} {call : CallF} {ops : Array Oper} {base i : Nat} {fr fr' : List Value} {σ σ' : St} {r : Rec} (h : step1 E call ops.toList base i fr σ = some (r, fr', σ')) : RecMono r := by
  cases r with
  | quiet => trivial
  | call b a => trivial
  | mem f e =>
    obtain ⟨o, _, _, _, rfl, _⟩ := step1_mem h
    exact fun g g' hg e he => evOp_mono hg he

/-- What isn't a step's own number stays free. -/
theorem step1_fresh {E : Env} {call : CallF} (hmono : Mono call) {ops : Array Oper} {base i n : Nat} {fr fr' : List Value} {σ σ' : St} {r : Rec} (h : step1 E call ops.toList base i fr σ = some (r, fr', σ')) (hn : σ.heap.get n = none) (hlt : n < σ.next) (hne : n ≠ base + i) :
    σ'.heap.get n = none ∧ σ.next ≤ σ'.next := by
  cases r with
  | quiet => obtain ⟨_, _, _, _, rfl⟩ := step1_quiet h; exact ⟨hn, Nat.le_refl _⟩
  | mem f e =>
    obtain ⟨o, _, _, _, rfl, he, _, rfl⟩ := step1_mem h
    refine ⟨?_, Nat.le_refl _⟩
    have := evOp_keys he
    simp only
    rw [upds_get]
    · exact hn
    · intro hb
      rcases this n hb with h | h
      · exact hne h
      · exact h hn
  | call b a =>
    obtain ⟨_, _, _, _, _, _, _, _, _, _, hc, _⟩ := step1_call h
    obtain ⟨h1, h2, _⟩ := hmono _ _ _ _ _ n none hn hlt hc
    exact ⟨h1, h2⟩

/-- Any two of a row: the first stands ahead by the text's own edges, or they have nothing to do with each other. -/
def Far (ops : Array Oper) : List (Nat × Rec) → Prop
  | [] => True
  | (i, r) :: l => (RecMono r ∧ ∀ x ∈ l, Anc ops i x.1 ∨ (∃ oi oj, ops[i]? = some oi ∧ ops[x.1]? = some oj ∧ oi.apart ops oj = true ∧ IndepP r x.2)) ∧ Far ops l

theorem Far_mono {ops : Array Oper} : ∀ {l : List (Nat × Rec)}, Far ops l → ∀ x ∈ l, RecMono x.2
  | [], _, x, hx => by cases hx
  | (i, r) :: l, h, x, hx => by
    simp only [List.mem_cons] at hx
    rcases hx with rfl | hx
    · exact h.1.1
    · exact Far_mono h.2 x hx

/-- What may come now may come first. -/
theorem bubble {E : Env} {call : CallF} (hmono : Mono call) {ops : Array Oper} {base j : Nat} : ∀ (l1 l2 : List Nat) (fr : List Value) (σ : St) (rs : List Rec) (frf : List Value) (σf : St),
    runOps E call ops.toList base (l1 ++ j :: l2) fr σ = some (rs, frf, σf) → Far ops ((l1 ++ j :: l2).zip rs) → (∀ i ∈ l1, ¬ Anc ops i j) → j ∉ l1 → σ.heap.get (base + j) = none → base + j < σ.next →
    ∃ r frj σj rs', step1 E call ops.toList base j fr σ = some (r, frj, σj) ∧ runOps E call ops.toList base (l1 ++ l2) frj σj = some (rs', frf, σf) ∧ Far ops ((l1 ++ l2).zip rs') ∧
      (∀ x, x ∈ (l1 ++ l2).zip rs' → ∃ y ∈ (l1 ++ j :: l2).zip rs, y.1 = x.1 ∧ (x.2 = y.2 ∨ ∃ b, Grown (base + j) b y.2 x.2)) ∧ (j, r) ∈ (l1 ++ j :: l2).zip rs := by
  intro l1
  induction l1 with
  | nil =>
    intro l2 fr σ rs frf σf h hf _ _ _ _
    obtain ⟨r, fr1, σ1, rs', hs, hr, rfl⟩ := runOps_cons h
    exact ⟨r, fr1, σ1, rs', hs, hr, hf.2, fun x hx => ⟨x, by simp; right; simpa using hx, rfl, .inl rfl⟩, by simp⟩
  | cons i l1 ih =>
    intro l2 fr σ rs frf σf h hf hn hj hfj hnj
    obtain ⟨r, fr1, σ1, rs', hs, hr, rfl⟩ := runOps_cons h
    simp only [List.cons_append, List.zip_cons_cons, Far] at hf
    have hne : base + j ≠ base + i := fun e => hj (by have : j = i := by omega
                                                      simp [this])
    obtain ⟨q1, q2⟩ := step1_fresh hmono hs hfj hnj hne
    obtain ⟨rj, frj, σj, rs2, hsj, hr2, hf2, hsub, hmem⟩ := ih l2 fr1 σ1 rs' frf σf hr hf.2 (fun k hk => hn k (List.mem_cons_of_mem _ hk)) (fun hk => hj (List.mem_cons_of_mem _ hk)) q1 (by omega)
    rcases hf.1.2 (j, rj) hmem with hanc | ⟨oi, oj, hoi, hoj, hap, hind⟩
    · exact absurd hanc (hn i (by simp))
    · obtain ⟨frj', σj', r', hsj', hsi', hgr⟩ := swap hmono hoi hoj hap hs hsj hind hfj hnj
      have hrm := step1_recmono hsi'
      have later : ∀ x ∈ (l1 ++ l2).zip rs2, Anc ops i x.1 ∨ (∃ oi oj, ops[i]? = some oi ∧ ops[x.1]? = some oj ∧ oi.apart ops oj = true ∧ IndepP r' x.2) := by
        intro x hx
        obtain ⟨y, hy, hy1, hy2⟩ := hsub x hx
        rcases hf.1.2 y hy with hanc | ⟨oi, oj, h1, h2, h3, h4⟩
        · exact .inl (hy1 ▸ hanc)
        · refine .inr ⟨oi, oj, h1, hy1 ▸ h2, h3, ?_⟩
          have h5 : IndepP r x.2 := by
            rcases hy2 with e | ⟨b, hb⟩
            · rw [e]; exact h4
            · exact h4.grow_r hf.1.1 hb
          rcases hgr with rfl | ⟨b, hb⟩
          · exact h5
          · exact h5.grow_l (Far_mono hf2 x hx) hb
      refine ⟨rj, frj', σj', r' :: rs2, hsj', mk_runOps hsi' hr2, ?_, ?_, ?_⟩
      · simp only [List.cons_append, List.zip_cons_cons, Far]
        exact ⟨⟨hrm, later⟩, hf2⟩
      · intro x hx
        simp only [List.cons_append, List.zip_cons_cons, List.mem_cons] at hx ⊢
        rcases hx with rfl | hx
        · exact ⟨(i, r), .inl rfl, rfl, hgr⟩
        · obtain ⟨y, hy, hy1⟩ := hsub x hx
          exact ⟨y, .inr hy, hy1⟩
      · simp only [List.cons_append, List.zip_cons_cons, List.mem_cons]
        exact .inr hmem
end Go.Ab
