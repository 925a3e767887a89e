/- An abstract evaluator of the model's code (deterministic, over a small abstract heap): definitions. -/
import Derived.Orders
import Derived.Scope
import Derived.LoopN
import Derived.Below
import Derived.Laws.Tables
import Derived.KernelRfl
set_option linter.all false
namespace Go.Ab

/-- A block of the abstract heap: its cells, their type, whether the concrete block bears no cell beyond them. -/
inductive Blk where
  | cells (c : List Value) (elem : TypeId) (ex : Bool)

/-- A finite map from numbers to blocks. -/
inductive T where
  | leaf
  | node (v : Option Blk) (l r : T)

def T.get : T → Nat → Option Blk
  | .leaf, _ => none
  | .node v l r, n => if n = 0 then v else if n % 2 = 1 then l.get (n / 2) else r.get (n / 2 - 1)

def T.setF : Nat → T → Nat → Option Blk → T
  | 0, t, _, _ => t
  | k + 1, .leaf, n, x =>
    if n = 0 then .node x .leaf .leaf else if n % 2 = 1 then .node none (T.setF k .leaf (n / 2) x) .leaf else .node none .leaf (T.setF k .leaf (n / 2 - 1) x)
  | k + 1, .node v l r, n, x =>
    if n = 0 then .node x l r else if n % 2 = 1 then .node v (T.setF k l (n / 2) x) r else .node v l (T.setF k r (n / 2 - 1) x)

def T.set (t : T) (n : Nat) (x : Option Blk) : T := T.setF (n + 1) t n x

theorem T.get_setF : ∀ (k : Nat) (t : T) (n m : Nat) (x : Option Blk), n < k → (T.setF k t n x).get m = if m = n then x else t.get m := by
  intro k
  induction k with
  | zero => intro t n m x h; omega
  | succ k ih =>
    intro t n m x h
    cases t with
    | leaf =>
      simp only [T.setF]
      by_cases h0 : n = 0
      · subst h0
        by_cases hm : m = 0
        · simp [T.get, hm]
        · simp [T.get, hm]
      · rw [if_neg h0]
        by_cases h1 : n % 2 = 1
        · rw [if_pos h1]
          by_cases hm : m = 0
          · subst hm; simp [T.get, Ne.symm h0]
          · by_cases hm1 : m % 2 = 1
            · simp only [T.get, hm, hm1, if_false, if_true]
              rw [ih _ _ _ _ (by omega)]
              by_cases e : m = n
              · subst e; simp
              · rw [if_neg e, if_neg (by omega)]; simp [T.get]
            · simp only [T.get, hm, hm1, if_false]
              rw [if_neg (by intro e; subst e; exact hm1 h1)]
        · rw [if_neg h1]
          by_cases hm : m = 0
          · subst hm; simp [T.get, Ne.symm h0]
          · by_cases hm1 : m % 2 = 1
            · simp only [T.get, hm, hm1, if_false, if_true]
              rw [if_neg (by intro e; subst e; exact h1 hm1)]
            · simp only [T.get, hm, hm1, if_false]
              rw [ih _ _ _ _ (by omega)]
              by_cases e : m = n
              · subst e; simp
              · rw [if_neg e, if_neg (by omega)]; simp [T.get]
    | node v l r =>
      simp only [T.setF]
      by_cases h0 : n = 0
      · subst h0
        by_cases hm : m = 0
        · simp [T.get, hm]
        · simp [T.get, hm]
      · rw [if_neg h0]
        by_cases h1 : n % 2 = 1
        · rw [if_pos h1]
          by_cases hm : m = 0
          · subst hm; simp [T.get, Ne.symm h0]
          · by_cases hm1 : m % 2 = 1
            · simp only [T.get, hm, hm1, if_false, if_true]
              rw [ih _ _ _ _ (by omega)]
              by_cases e : m = n
              · subst e; simp
              · rw [if_neg e, if_neg (by omega)]
            · simp only [T.get, hm, hm1, if_false]
              rw [if_neg (by intro e; subst e; exact hm1 h1)]
        · rw [if_neg h1]
          by_cases hm : m = 0
          · subst hm; simp [T.get, Ne.symm h0]
          · by_cases hm1 : m % 2 = 1
            · simp only [T.get, hm, hm1, if_false, if_true]
              rw [if_neg (by intro e; subst e; exact h1 hm1)]
            · simp only [T.get, hm, hm1, if_false]
              rw [ih _ _ _ _ (by omega)]
              by_cases e : m = n
              · subst e; simp
              · rw [if_neg e, if_neg (by omega)]

theorem T.get_set (t : T) (n m : Nat) (x : Option Blk) : (t.set n x).get m = if m = n then x else t.get m := T.get_setF _ _ _ _ _ (Nat.lt_succ_self n)
theorem T.get_set_self (t : T) (n : Nat) (x : Option Blk) : (t.set n x).get n = x := by rw [T.get_set, if_pos rfl]
theorem T.get_set_ne (t : T) (n m : Nat) (x : Option Blk) (h : m ≠ n) : (t.set n x).get m = t.get m := by rw [T.get_set, if_neg h]

theorem T.setF_fuel : ∀ (k k' : Nat) (t : T) (n : Nat) (x : Option Blk), n < k → n < k' → T.setF k t n x = T.setF k' t n x := by
  intro k
  induction k with
  | zero => intro k' t n x h; omega
  | succ k ih =>
    intro k' t n x h h'
    obtain ⟨k', rfl⟩ : ∃ m, k' = m + 1 := ⟨k' - 1, by omega⟩
    cases t <;> simp only [T.setF] <;> by_cases h0 : n = 0
    · simp [h0]
    · by_cases h1 : n % 2 = 1
      · simp only [h0, h1, if_false, if_true]; rw [ih k' _ _ _ (by omega) (by omega)]
      · simp only [h0, h1, if_false]; rw [ih k' _ _ _ (by omega) (by omega)]
    · simp [h0]
    · by_cases h1 : n % 2 = 1
      · simp only [h0, h1, if_false, if_true]; rw [ih k' _ _ _ (by omega) (by omega)]
      · simp only [h0, h1, if_false]; rw [ih k' _ _ _ (by omega) (by omega)]

theorem T.setF_comm : ∀ (k : Nat) (t : T) (n m : Nat) (x y : Option Blk), n < k → m < k → n ≠ m →
    T.setF k (T.setF k t n x) m y = T.setF k (T.setF k t m y) n x := by
  intro k
  induction k with
  | zero => intro t n m x y h; omega
  | succ k ih =>
    intro t n m x y hn hm hne
    rcases Nat.eq_zero_or_pos n with h0 | h0 <;> rcases Nat.eq_zero_or_pos m with g0 | g0
    · omega
    · subst h0
      have g0' : m ≠ 0 := by omega
      by_cases g1 : m % 2 = 1 <;> cases t <;> simp [T.setF, g0', g1]
    · subst g0
      have h0' : n ≠ 0 := by omega
      by_cases h1 : n % 2 = 1 <;> cases t <;> simp [T.setF, h0', h1]
    · have h0' : n ≠ 0 := by omega
      have g0' : m ≠ 0 := by omega
      by_cases h1 : n % 2 = 1 <;> by_cases g1 : m % 2 = 1 <;> cases t <;> simp only [T.setF, h0', g0', h1, g1, if_false, if_true]
      · rw [ih _ _ _ _ _ (by omega) (by omega) (by omega)]
      · rw [ih _ _ _ _ _ (by omega) (by omega) (by omega)]
      · rw [ih _ _ _ _ _ (by omega) (by omega) (by omega)]
      · rw [ih _ _ _ _ _ (by omega) (by omega) (by omega)]

theorem T.set_comm (t : T) (n m : Nat) (x y : Option Blk) (h : n ≠ m) : (t.set n x).set m y = (t.set m y).set n x := by
  unfold T.set
  rw [T.setF_fuel (n + 1) (n + m + 1) _ _ _ (by omega) (by omega), T.setF_fuel (m + 1) (n + m + 1) _ _ _ (by omega) (by omega),
    T.setF_fuel (m + 1) (n + m + 1) _ _ _ (by omega) (by omega), T.setF_fuel (n + 1) (n + m + 1) _ _ _ (by omega) (by omega)]
  exact T.setF_comm _ _ _ _ _ _ (by omega) (by omega) h

structure St where
  heap : T
  next : Nat

def upds (t : T) : List (Nat × Option Blk) → T
  | [] => t
  | (n, x) :: r => upds (t.set n x) r

/-- What an operation does: its value, the blocks that it writes, those that it reads. -/
structure Eff where
  val : Value
  upd : List (Nat × Option Blk)
  rds : List Nat

/-- The fixed part: the program; the numbers below 'old' are blocks that were there, read by 'base'; contracts of functions; the pairs of operations of a region that are to be looked at while it runs. -/
structure Env where
  P : Program
  old : Nat
  base : Addr → Option Value
  sum : FuncId → List Value → St → Option (Value × St)
  pairs : FuncId → Nat → List (Nat × Nat)

def pureRun {α : Type} (P : Program) : Sem α → Option α
  | .pure a => some a
  | .program k => pureRun P (k P)
  | _ => none

/-- One cell, and no number of a block in it. -/
def flatS : Value → Bool
  | .bool _ | .int _ _ | .float _ _ | .complex _ _ _ | .string _ | .nilFunc | .nilIface => true
  | .pointer none => true
  | .slice none 0 0 => true
  | .map none => true
  | _ => false

def pureV (P : Program) (s : Sem Value) : Option Value :=
  match pureRun P s with
  | some v => if flatS v then some v else none
  | none => none

def scalar : Value → Bool
  | .agg cs => cs.toList.all flatS
  | v => flatS v

def oneCell : Value → Bool
  | .agg _ | .tuple _ => false
  | _ => true

/-- A value of old memory: its numbers are of old blocks. -/
def oldV (old : Nat) : Value → Bool
  | .pointer (some a) => decide (a.block < old) && a.spot.isNone
  | .slice (some a) _ _ => decide (a.block < old) && a.spot.isNone
  | v => flatS v

def rdOld (E : Env) (b : Nat) (off : Nat) : Nat → Option (List Value)
  | 0 => some []
  | n + 1 =>
    match E.base ⟨b, off, none⟩ with
    | some v => if oldV E.old v then (match rdOld E b (off + 1) n with | some l => some (v :: l) | none => none) else none
    | none => none

/-- n cells from an address on. -/
def rd (E : Env) (g : Nat → Option Blk) (a : Addr) (n : Nat) : Option (List Value) :=
  if a.spot.isSome then none else
  if a.block < E.old then rdOld E a.block a.off n else
  match g a.block with
  | some (.cells c _ _) => if a.off + n ≤ c.length then some ((c.drop a.off).take n) else none
  | none => none

def wrList (c : List Value) (off : Nat) (vs : List Value) : List Value := c.take off ++ (vs ++ c.drop (off + vs.length))

/-- Cells written from an address on. -/
def wr (E : Env) (g : Nat → Option Blk) (a : Addr) (vs : List Value) : Option (Nat × Option Blk) :=
  if a.spot.isSome || decide (a.block < E.old) || !vs.all oneCell then none else
  match g a.block with
  | some (.cells c e x) => if a.off + vs.length ≤ c.length then some (a.block, some (.cells (wrList c a.off vs) e x)) else none
  | none => none

def isAggT (P : Program) (t : TypeId) : Option Bool :=
  match P.underlying t with
  | some (.struct _) | some (.array _ _) => some true
  | some _ => some false
  | none => none

def sizeT (P : Program) (t : TypeId) : Option Nat := (P.info? t).map (·.size)

def evLoad (E : Env) (g : Nat → Option Blk) (t : TypeId) (x : Value) : Option Eff :=
  match x with
  | .pointer (some a) =>
    match isAggT E.P t with
    | some true =>
      match sizeT E.P t with
      | some n => match rd E g a n with
        | some l => some ⟨.agg l.toArray, [], [a.block]⟩
        | none => none
      | none => none
    | some false => match rd E g a 1 with
      | some [v] => some ⟨v, [], [a.block]⟩
      | _ => none
    | none => none
  | _ => none

def evStore (E : Env) (g : Nat → Option Blk) (t : TypeId) (x v : Value) : Option Eff :=
  match x with
  | .pointer (some a) =>
    if sizeT E.P t = some v.cells.size then
      match wr E g a v.cells.toList with
      | some u => some ⟨.tuple #[], [u], [a.block]⟩
      | none => none
    else none
  | _ => none

def zeroCells? (P : Program) (t : TypeId) : Option (Array Value) :=
  match (P.info? t).bind (·.zero) with
  | some v => if scalar v then some v.cells else none
  | none => none

def evBuild (P : Program) (t : TypeId) (parts : List (Nat × Value)) : Option Value :=
  match zeroCells? P t with
  | some _ => (P.built t parts).map .agg
  | none => none

def zeroRow (z : Array Value) (n : Nat) : List Value :=
  if z.size = 1 then List.replicate n (z.getD 0 default) else (List.range n).map fun i => z[i % z.size]!

def elemT (P : Program) (t : TypeId) : Option TypeId :=
  match P.underlying t with
  | some (.slice e) => some e
  | _ => none

def evBuildSlice (P : Program) (nid : Nat) (t : TypeId) (len : Nat) (parts : List (Nat × Value)) : Option Eff :=
  match elemT P t with
  | some e => match sizeT P e, zeroCells? P e with
    | some size, some z =>
      if len * size ≤ 2 ^ 24 ∧ 0 < z.size then
        match Instr.fill (fun i => some (i * size, size)) (zeroRow z (len * size)).toArray parts with
        | some cs => some ⟨.slice (some ⟨nid, 0, none⟩) len len, [(nid, some (.cells cs.toList e true))], []⟩
        | none => none
      else none
    | _, _ => none
  | none => none

def evField (P : Program) (t : TypeId) (x : Value) (i : Nat) : Option Value :=
  match P.underlying t, x with
  | some (.struct fields), .agg cs =>
    match fields[i]? with
    | some f => match isAggT P f.type with
      | some true => match sizeT P f.type with
        | some n => some (.agg (cs.extract f.offset (f.offset + n)))
        | none => none
      | some false => cs[f.offset]?
      | none => none
    | none => none
  | _, _ => none

def evFieldAddr (P : Program) (t : TypeId) (x : Value) (i : Nat) : Option Value :=
  match P.underlying t, x with
  | some (.struct fields), .pointer (some a) =>
    match fields[i]? with
    | some f => match sizeT P f.type with
      | some n => if n = 0 ∨ a.spot.isSome then none else some (.pointer (some ⟨a.block, a.off + f.offset, none⟩))
      | none => none
    | none => none
  | _, _ => none

def evIndexAddr (P : Program) (t : TypeId) (x ix : Value) : Option Value :=
  match P.underlying t, x, ix with
  | some (.array len e), .pointer (some a), .int _ i =>
    match sizeT P e with
    | some n => if 0 ≤ i ∧ i < len ∧ a.spot.isNone then some (.pointer (some ⟨a.block, a.off + i.toNat * n, none⟩)) else none
    | none => none
  | some (.slice e), .slice (some a) len _, .int _ i =>
    match sizeT P e with
    | some n => if 0 ≤ i ∧ i < len ∧ a.spot.isNone then some (.pointer (some ⟨a.block, a.off + i.toNat * n, none⟩)) else none
    | none => none
  | _, _, _ => none

def evIndex (P : Program) (t : TypeId) (x ix : Value) : Option Value :=
  match P.underlying t, x, ix with
  | some (.array len e), .agg cs, .int _ i =>
    match sizeT P e, isAggT P e with
    | some n, some true => if 0 ≤ i ∧ i < len then some (.agg (cs.extract (i.toNat * n) (i.toNat * n + n))) else none
    | some n, some false => if 0 ≤ i ∧ i < len then cs[i.toNat * n]? else none
    | _, _ => none
  | some .string, .string s, .int _ i => if 0 ≤ i ∧ i < s.size then some (.int .u8 (s[i.toNat]!).toNat) else none
  | _, _, _ => none

def bound? (x : Option Value) (d y : Nat) : Option Nat :=
  match x with
  | none => some d
  | some (.int _ i) => if 0 ≤ i ∧ i ≤ y then some i.toNat else none
  | _ => none

/-- Does a slice reach to the end of a block that may bear more cells than are known? -/
def opens (E : Env) (g : Nat → Option Blk) (a : Addr) (cap : Nat) (el : TypeId) (size : Nat) : Option Bool :=
  if a.block < E.old then some false else
  match g a.block with
  | some (.cells c e x) => if x then some false else if e = el then some (decide (a.off + cap * size = c.length)) else none
  | none => none

def szOk (E : Env) (g : Nat → Option Blk) (a : Addr) (n : Nat) : Bool :=
  if a.block < E.old then true else
  match g a.block with
  | some (.cells _ e x) => x || decide (sizeT E.P e = some n)
  | none => false

def evSlice (E : Env) (g : Nat → Option Blk) (t : TypeId) (x : Value) (lo hi mx : Option Value) : Option Eff :=
  match E.P.underlying t, x with
  | some .string, .string s =>
    match mx, bound? hi s.size s.size with
    | none, some h => match bound? lo 0 h with
      | some l => some ⟨.string (s.extract l h), [], []⟩
      | none => none
    | _, _ => none
  | some (.slice e), .slice none 0 0 =>
    match mx, bound? hi 0 0, bound? lo 0 0 with
    | none, some _, some _ => match sizeT E.P e with
      | some _ => some ⟨.slice none 0 0, [], []⟩
      | none => none
    | some m, some _, some _ => match hi, bound? (some m) 0 0, sizeT E.P e with
      | some _, some _, some _ => some ⟨.slice none 0 0, [], []⟩
      | _, _, _ => none
    | _, _, _ => none
  | some (.slice e), .slice (some a) len cap =>
    match sizeT E.P e, mx with
    | some n, none =>
      if szOk E g a n = true ∧ len ≤ cap then
        match bound? hi len cap with
        | some h => match bound? lo 0 h with
          | some l => some ⟨.slice (some ⟨a.block, a.off + l * n, none⟩) (h - l) (cap - l), [], [a.block]⟩
          | none => none
        | none => none
      else none
    | some n, some m =>
      if szOk E g a n = true ∧ len ≤ cap then
        match hi, bound? (some m) 0 cap with
        | some hi, some m => match bound? (some hi) 0 m with
          | some h => match bound? lo 0 h with
            | some l => some ⟨.slice (some ⟨a.block, a.off + l * n, none⟩) (h - l) (m - l), [], [a.block]⟩
            | none => none
          | none => none
        | _, _ => none
      else none
    | none, _ => none
  | some (.array n e), .pointer (some a) =>
    match sizeT E.P e, mx, bound? hi n n with
    | some z, none, some h => match bound? lo 0 h with
      | some l => some ⟨.slice (some ⟨a.block, a.off + l * z, none⟩) (h - l) (n - l), [], []⟩
      | none => none
    | _, _, _ => none
  | _, _ => none

def rdRow (E : Env) (g : Nat → Option Blk) (size n : Nat) : Value → Option (List Value)
  | .slice none _ _ => if n = 0 then some [] else none
  | .slice (some a) len _ => if n = 0 then some [] else if n ≤ len then rd E g a (n * size) else none
  | .string s => if n ≤ s.size then some (((s.extract 0 n).data.map fun b => Value.int .u8 b.toNat).toList) else none
  | _ => none

def lenV : Value → Option Nat
  | .slice none 0 _ => some 0
  | .slice (some _) n _ => some n
  | .string s => some s.size
  | _ => none

def blkOf : Value → List Nat
  | .slice (some a) _ _ => [a.block]
  | _ => []

def isSlStr : TypeDesc → Bool
  | .slice _ | .string => true
  | _ => false

def strOk : Value → Nat → Bool
  | .string _, s => s == 1
  | _, _ => true

/-- append of so many zero values to a slice that has no room for them and is known to the end. -/
def evAppendZ (E : Env) (g : Nat → Option Blk) (nid : Nat) (e : TypeId) (u : TypeDesc) (s x : Value) : Option Eff :=
  match u, s, x with
  | .int _, .slice (some a) sLen sCap, .int _ q =>
    match E.P.info? e, zeroCells? E.P e with
    | some i, some z =>
      if i.size = 0 ∨ z.size ≠ i.size ∨ q ≤ 0 ∨ sLen + q.toNat ≤ sCap ∨ 140737488355328 < (sLen + q.toNat) * i.bytes ∨ 9223372036854775807 < sLen + q.toNat then none else
      match rdRow E g i.size sLen s, opens E g a sCap e i.size with
      | some old, some false => some ⟨.slice (some ⟨nid, 0, none⟩) (sLen + q.toNat) (sLen + q.toNat), [(nid, some (.cells (old ++ zeroRow z (q.toNat * i.size)) e false))], [a.block]⟩
      | _, _ => none
    | _, _ => none
  | _, _, _ => none

def evCap (E : Env) (g : Nat → Option Blk) (ts : Array TypeId) (x : Value) : Option Eff :=
  match (ts[0]?).bind (elemT E.P), x with
  | some _, .slice none 0 0 => some ⟨.int .i64 0, [], []⟩
  | some e, .slice (some a) _ c =>
    match sizeT E.P e with
    | some sz => match opens E g a c e sz with
      | some false => some ⟨.int .i64 c, [], [a.block]⟩
      | _ => none
    | none => none
  | _, _ => none

/-- 'append(s, x...)'. A slice that may have room that nobody knows of is used up: its block is struck. -/
def evAppend (E : Env) (g : Nat → Option Blk) (nid : Nat) (ts : Array TypeId) (s x : Value) : Option Eff :=
  match (ts[0]?).bind (elemT E.P), ((ts[1]?).bind fun u => E.P.underlying u) with
  | some e, some u =>
    if !isSlStr u then evAppendZ E g nid e u s x else
    match E.P.info? e, zeroCells? E.P e, lenV x with
    | some i, some z, some n =>
      if i.size = 0 ∨ z.size ≠ i.size ∨ strOk x i.size = false then none else
      match s, rdRow E g i.size n x with
      | .slice base sLen sCap, some new =>
        if (sLen + n) ≤ sCap then
          if n = 0 then some ⟨.slice base (sLen + n) sCap, [], blkOf x⟩ else
          match base with
          | some a =>
            if a.spot.isSome then none else
            match wr E g ⟨a.block, a.off + sLen * i.size, none⟩ new with
            | some w => some ⟨.slice base (sLen + n) sCap, [w], a.block :: blkOf x⟩
            | none => none
          | none => none
        else
          if (sLen + n) * i.bytes ≤ 140737488355328 ∧ (sLen + n) ≤ 9223372036854775807 then
            match base with
            | none =>
              if sLen = 0 ∧ sCap = 0 then some ⟨.slice (some ⟨nid, 0, none⟩) (sLen + n) (sLen + n), [(nid, some (.cells new e false))], blkOf x⟩ else none
            | some a =>
              match rdRow E g i.size sLen s, opens E g a sCap e i.size with
              | some old, some true => if new.all oneCell = false then none else some ⟨.slice (some ⟨nid, 0, none⟩) (sLen + n) (sLen + n), [(a.block, none), (nid, some (.cells (old ++ new) e false))], a.block :: blkOf x⟩
              | some old, some false => some ⟨.slice (some ⟨nid, 0, none⟩) (sLen + n) (sLen + n), [(nid, some (.cells (old ++ new) e false))], a.block :: blkOf x⟩
              | _, _ => none
          else none
      | _, _ => none
    | _, _, _ => none
  | _, _ => none

def evCopy (E : Env) (g : Nat → Option Blk) (ts : Array TypeId) (d x : Value) : Option Eff :=
  match (ts[0]?).bind (elemT E.P) with
  | some e =>
    match sizeT E.P e, d, lenV x with
    | some size, .slice base dLen _, some xl =>
      match rdRow E g size (Nat.min xl dLen) x with
      | some l =>
        if Nat.min xl dLen = 0 then some ⟨.int .i64 0, [], blkOf x⟩ else
        match base with
        | some a => match wr E g a l with
          | some w => some ⟨.int .i64 (Nat.min xl dLen : Nat), [w], a.block :: blkOf x⟩
          | none => none
        | none => none
      | none => none
    | _, _, _ => none
  | none => none

def evClear (E : Env) (g : Nat → Option Blk) (ts : Array TypeId) (d : Value) : Option Eff :=
  match (ts[0]?).bind (elemT E.P), d with
  | some _, .slice none _ _ => some ⟨.tuple #[], [], []⟩
  | some e, .slice (some a) n _ =>
    if n = 0 then some ⟨.tuple #[], [], []⟩ else
    match sizeT E.P e, zeroCells? E.P e with
    | some size, some z =>
      if z.size = size ∧ size ≠ 0 then
        match wr E g a (zeroRow z (n * z.size)) with
        | some w => some ⟨.tuple #[], [w], [a.block]⟩
        | none => none
      else none
    | _, _ => none
  | _, _ => none

def evMakeSlice (E : Env) (nid : Nat) (t : TypeId) (l c : Value) : Option Eff :=
  match elemT E.P t, l, c with
  | some e, .int _ l, .int _ c =>
    match E.P.info? e, zeroCells? E.P e with
    | some i, some z =>
      if 0 ≤ l ∧ l ≤ c ∧ c ≤ 9223372036854775807 ∧ (i.bytes : Int) * c ≤ 281474976710656 ∧ z.size = i.size ∧ 0 < i.size then
        some ⟨.slice (some ⟨nid, 0, none⟩) l.toNat c.toNat, [(nid, some (.cells (zeroRow z (c.toNat * i.size)) e true))], []⟩
      else none
    | _, _ => none
  | _, _, _ => none

def isByte : Value → Bool
  | .int .u8 _ => true
  | _ => false

def byteV : Value → UInt8
  | .int _ n => UInt8.ofNat n.toNat
  | _ => 0

def bytesOf? (l : List Value) : Option ByteArray := if l.all isByte then some ⟨(l.map byteV).toArray⟩ else none

def evConvert (E : Env) (g : Nat → Option Blk) (nid : Nat) (src dst : TypeId) (x : Value) : Option Eff :=
  match E.P.underlying src, E.P.underlying dst, x with
  | some .string, some (.slice e), .string s =>
    match E.P.underlying e with
    | some (.int .u8) => if sizeT E.P e = some 1 then some ⟨.slice (some ⟨nid, 0, none⟩) s.size s.size, [(nid, some (.cells (s.data.map fun b => Value.int .u8 b.toNat).toList e false))], []⟩ else none
    | _ => none
  | some (.slice e), some .string, x =>
    match E.P.underlying e, x with
    | some (.int .u8), .slice none _ _ => some ⟨.string .empty, [], []⟩
    | some (.int .u8), .slice (some a) n _ => match rd E g a n with
      | some l => (bytesOf? l).map fun s => ⟨.string s, [], [a.block]⟩
      | none => none
    | _, _ => none
  | some (.slice _), _, _ => none
  | some _, some (.slice _), _ => none
  | some _, some _, x => if scalar x then (pureV E.P (convert src dst x)).map fun v => ⟨v, [], []⟩ else none
  | _, _, _ => none

def evLen (P : Program) (ts : Array TypeId) (x : Value) : Option Value :=
  match (ts[0]?).bind fun t => P.underlying t with
  | some .string => match x with | .string s => some (.int .i64 s.size) | _ => none
  | some (.array n _) => some (.int .i64 n)
  | some (.slice _) => match x with | .slice _ n _ => some (.int .i64 n) | _ => none
  | _ => none

/-- Equality where one side is a nil. -/
def evNilP (eq : Bool) : Value → Value → Option Value
  | .pointer none, .pointer b => some (.bool (b.isNone == eq))
  | .pointer a, .pointer none => some (.bool (a.isNone == eq))
  | _, _ => none

def evNilS (eq : Bool) : Value → Value → Option Value
  | .slice none _ _, .slice b _ _ => some (.bool (b.isNone == eq))
  | .slice a _ _, .slice none _ _ => some (.bool (a.isNone == eq))
  | _, _ => none

def isPtr (P : Program) (t : TypeId) : Bool := match P.underlying t with | some (.pointer _) => true | _ => false
def isSl (P : Program) (t : TypeId) : Bool := match P.underlying t with | some (.slice _) => true | _ => false

def evBin (P : Program) (op : BinOp) (t : TypeId) (xo yo : Operand) (x y : Value) : Option Value :=
  if isPtr P t then
    match op with
    | .eql => evNilP true x y
    | .neq => evNilP false x y
    | _ => none
  else if isSl P t then
    match op with
    | .eql => evNilS true x y
    | .neq => evNilS false x y
    | _ => none
  else if scalar x && scalar y then pureV P (do eqGuard op t xo yo x y; binOp op t x y) else none

def evBuiltin (E : Env) (g : Nat → Option Blk) (nid : Nat) (b : Builtin) (ts : Array TypeId) (type : TypeId) (args : List Value) : Option Eff :=
  match b, args with
  | .append, [s, x] => evAppend E g nid ts s x
  | .copy, [d, x] => evCopy E g ts d x
  | .clear, [d] => evClear E g ts d
  | .len, [x] => (evLen E.P ts x).map fun v => ⟨v, [], []⟩
  | .cap, [x] => evCap E g ts x
  | .min, l => if l.all scalar then (pureV E.P (Builtin.min_ ts type l.toArray)).map fun v => ⟨v, [], []⟩ else none
  | .max, l => if l.all scalar then (pureV E.P (Builtin.max_ ts type l.toArray)).map fun v => ⟨v, [], []⟩ else none
  | _, _ => none

/-- An operation that is no call of a function with code. -/
def evOp (E : Env) (ρ : Operand → Value) (nid : Nat) (g : Nat → Option Blk) (o : Oper) : Option Eff :=
  let v (x : Option Value) : Option Eff := x.map fun v => ⟨v, [], []⟩
  match o.op with
  | .move x | .assign x => some ⟨ρ x, [], []⟩
  | .pick c a b => match ρ c with
    | .bool true => some ⟨ρ a, [], []⟩
    | .bool false => some ⟨ρ b, [], []⟩
    | _ => none
  | .alloc e => match zeroCells? E.P e with
    | some z => some ⟨.pointer (some ⟨nid, 0, none⟩), [(nid, some (.cells z.toList e true))], []⟩
    | none => none
  | .box e x => some ⟨.pointer (some ⟨nid, 0, none⟩), [(nid, some (.cells (ρ x).cells.toList e true))], []⟩
  | .build t parts => v (evBuild E.P t (parts.toList.map fun p => (p.1, ρ p.2)))
  | .buildSlice t len parts => evBuildSlice E.P nid t len (parts.toList.map fun p => (p.1, ρ p.2))
  | .load t a => evLoad E g t (ρ a)
  | .store t a x => evStore E g t (ρ a) (ρ x)
  | .nilCheck x => match ρ x with
    | .pointer (some a) => some ⟨.pointer (some a), [], []⟩
    | .func (.func f) xs ys => some ⟨.func (.func f) xs ys, [], []⟩
    | _ => none
  | .binOp op t x y _ => v (evBin E.P op t x y (ρ x) (ρ y))
  | .unOp op _ x => if scalar (ρ x) then v (pureV E.P (Op.unary op (ρ x))) else none
  | .convert src dst x => evConvert E g nid src dst (ρ x)
  | .makeFunc fn first captured => some ⟨.func fn (first.map ρ) (captured.map ρ), [], []⟩
  | .makeSlice t l c => evMakeSlice E nid t (ρ l) (ρ c)
  | .slice t x lo hi mx => evSlice E g t (ρ x) (lo.map ρ) (hi.map ρ) (mx.map ρ)
  | .fieldAddr t x f => v (evFieldAddr E.P t (ρ x) f)
  | .field t x f => v (evField E.P t (ρ x) f)
  | .indexAddr t x i => v (evIndexAddr E.P t (ρ x) (ρ i))
  | .index t x i => v (evIndex E.P t (ρ x) (ρ i))
  | .extract x i => match ρ x with
    | .tuple vs => v (vs[i]?)
    | _ => none
  | .call { callee := .builtin b, args, argTypes } => evBuiltin E g nid b argTypes o.type (args.toList.map ρ)
  | _ => none

def Opd (fr : List Value) : Operand → Value
  | .tmp t => fr.getD t undef
  | .const v => v
  | .func f => .func (.func f) #[] #[]
  | .global _ => undef

def put (fr : List Value) (dst : Option Tmp) (v : Value) : List Value :=
  match dst with
  | some d => fr.set d v
  | none => fr

def beqF : Value → Value → Bool
  | .bool a, .bool b => a == b
  | .int k a, .int l b => k == l && a == b
  | .string a, .string b => decide (a = b)
  | .pointer a, .pointer b => decide (a = b)
  | .slice a n c, .slice b m d => decide (a = b) && n == m && c == d
  | .map a, .map b => decide (a = b)
  | .nilFunc, .nilFunc => true
  | .nilIface, .nilIface => true
  | _, _ => false

def beqL : List Value → List Value → Bool
  | [], [] => true
  | a :: x, b :: y => beqF a b && beqL x y
  | _, _ => false

def beqV : Value → Value → Bool
  | .agg a, .agg b => beqL a.toList b.toList
  | x, y => beqF x y

/-- What is kept of an operation that was carried out. -/
inductive Rec where
  | quiet
  | mem (f : (Nat → Option Blk) → Option Eff) (e : Eff)
  | call (before after : St)

def disj (a b : List Nat) : Bool := a.all fun x => !b.contains x

def effSame (e : Eff) : Option Eff → Bool
  | some e' => e'.upd.isEmpty && (e'.rds == e.rds && beqV e'.val e.val)
  | none => false

/-- An operation that makes a block, and looks at none. -/
def allocOnly (e : Eff) : Bool := e.rds.isEmpty && (match e.upd with | [(_, some _)] => true | _ => false)

def indep : Rec → Rec → Bool
  | .quiet, _ | _, .quiet => true
  | .mem _ e, .mem _ e' => disj (e.upd.map (·.1)) (e'.rds ++ e'.upd.map (·.1)) && disj (e'.upd.map (·.1)) e.rds
  | .mem f e, .call b a => e.upd.isEmpty && (effSame e (f b.heap.get) && effSame e (f a.heap.get))
  | .call b a, .mem f e => allocOnly e || (e.upd.isEmpty && (effSame e (f b.heap.get) && effSame e (f a.heap.get)))
  | .call .., .call .. => false

def yieldA (ops : List Oper) (fr : List Value) (j : Nat) : Option Bool :=
  match ((ops[j]?).bind (·.dst)).bind (fr[·]?) with
  | some (.bool b) => some b
  | _ => none

abbrev CallF := FuncId → List Value → St → Option (Value × St)

/-- A function value with its first and captured values; which function, all arguments. -/
def callee? (f : Value) (args : List Value) : Option (FuncId × List Value) :=
  match f with
  | .func (.func f) first captured => some (f, first.toList ++ args ++ captured.toList)
  | _ => none

/-- A call of a function value: it, its arguments. -/
def callOf (o : Oper) : Option (Operand × List Operand) :=
  match o.op with
  | .call { callee := .value f, args, argTypes := _ } => some (f, args.toList)
  | _ => none

def step1 (E : Env) (call : CallF) (ops : List Oper) (base : Nat) (i : Nat) (fr : List Value) (σ : St) : Option (Rec × List Value × St) :=
  match ops[i]? with
  | none => none
  | some o =>
    if Region.wanted o (yieldA ops fr) then
      match callOf o with
      | some (f, args) =>
        match callee? (Opd fr f) (args.map (Opd fr)) with
        | some (f, args) => match call f args σ with
          | some (v, σ') => some (.call σ σ', put fr o.dst v, σ')
          | none => none
        | none => none
      | none =>
        match evOp E (Opd fr) (base + i) σ.heap.get o with
        | some e => some (.mem (fun g => evOp E (Opd fr) (base + i) g o) e, put fr o.dst e.val, ⟨upds σ.heap e.upd, σ.next⟩)
        | none => none
    else some (.quiet, put fr o.dst undef, σ)

def runOps (E : Env) (call : CallF) (ops : List Oper) (base : Nat) : List Nat → List Value → St → Option (List Rec × List Value × St)
  | [], fr, σ => some ([], fr, σ)
  | i :: l, fr, σ => match step1 E call ops base i fr σ with
    | some (r, fr, σ) => match runOps E call ops base l fr σ with
      | some (rs, fr, σ) => some (r :: rs, fr, σ)
      | none => none
    | none => none

def pairsOk (rs : List Rec) : List (Nat × Nat) → Bool
  | [] => true
  | (i, j) :: r => (match rs[i]?, rs[j]? with | some a, some b => indep a b | _, _ => false) && pairsOk rs r

def evRegion (E : Env) (call : CallF) (ps : List (Nat × Nat)) (ops : List Oper) (fr : List Value) (σ : St) : Option (List Value × St) :=
  match runOps E call ops σ.next (List.range ops.length) fr ⟨σ.heap, σ.next + ops.length⟩ with
  | some (rs, fr, σ) => if pairsOk rs ps then some (fr, σ) else none
  | none => none

inductive Ex where
  | normal
  | exit (id : Nat)
  | goto (l : Nat)
  | ret

abbrev Out := Option (Ex × List Value × St)

def iter (f : List Value → St → Out) : Nat → List Value → St → Out
  | 0, _, _ => none
  | k + 1, fr, σ => match f fr σ with
    | some (.normal, fr, σ) => iter f k fr σ
    | x => x

def hasLabel : Code → Nat → Bool
  | .seq a b, l => hasLabel a l || hasLabel b l
  | .label l', l => l' == l
  | _, _ => false

def hop (has : Nat → Bool) (f : Option Nat → List Value → St → Out) : Nat → Option Nat → List Value → St → Out
  | 0, _, _, _ => none
  | k + 1, e, fr, σ => match f e fr σ with
    | some (.goto l, fr, σ) => if has l then hop has f k (some l) fr σ else some (.goto l, fr, σ)
    | x => x

def thenC (x : Out) (f : List Value → St → Out) : Out :=
  match x with
  | some (.normal, fr, σ) => f fr σ
  | x => x

/-- Code from its beginning (none) or from one of its labels on. -/
def evC (E : Env) (call : CallF) (k : Nat) (fid : FuncId) : Code → Option Nat → List Value → St → Out
  | .seq a b, none, fr, σ => thenC (evC E call k fid a none fr σ) (evC E call k fid b none)
  | .seq a b, some l, fr, σ => if hasLabel a l then thenC (evC E call k fid a (some l) fr σ) (evC E call k fid b none) else evC E call k fid b (some l) fr σ
  | .label _, none, fr, σ => some (.normal, fr, σ)
  | .label l', some l, fr, σ => if l' = l then some (.normal, fr, σ) else none
  | .skip, none, fr, σ => some (.normal, fr, σ)
  | .region id ops _, none, fr, σ => match evRegion E call (E.pairs fid id) ops.toList fr σ with
    | some (fr, σ) => some (.normal, fr, σ)
    | none => none
  | .cond c a b, none, fr, σ => match Opd fr c with
    | .bool t => if t = true then evC E call k fid a none fr σ else evC E call k fid b none fr σ
    | _ => none
  | .block id c, none, fr, σ => match evC E call k fid c none fr σ with
    | some (.exit id', fr, σ) => if id' = id then some (.normal, fr, σ) else some (.exit id', fr, σ)
    | x => x
  | .loop c, none, fr, σ => iter (evC E call k fid c none) k fr σ
  | .exit id, none, fr, σ => some (.exit id, fr, σ)
  | .goto l, none, fr, σ => some (.goto l, fr, σ)
  | .ret, none, fr, σ => some (.ret, fr, σ)
  | .scope c, none, fr, σ => hop (hasLabel c) (evC E call k fid c) k none fr σ
  | _, _, _, _ => none

def resV (E : Env) (fr : List Value) (σ : St) : List ResultVar → Option (List Value)
  | [] => some []
  | .tmp t :: r => (resV E fr σ r).map fun l => fr.getD t undef :: l
  | .cell a t :: r => match evLoad E σ.heap.get t (fr.getD a undef), resV E fr σ r with
    | some e, some l => some (e.val :: l)
    | _, _ => none

def resOf (E : Env) (fn : Func) (fr : List Value) (σ : St) : Option Value :=
  match resV E fr σ fn.results.toList with
  | some [v] => some v
  | some l => some (.tuple l.toArray)
  | none => none

/-- A function's body, its calls answered by 'call'. -/
def evBody (E : Env) (call : CallF) (k : Nat) (f : FuncId) (fn : Func) (c : Code) (args : List Value) (σ : St) : Option (Value × St) :=
  match evC E call k f c none (args ++ List.replicate (fn.ntmps - args.length) undef) σ with
  | some (.normal, fr, σ) | some (.ret, fr, σ) => (resOf E fn fr σ).map fun v => (v, σ)
  | _ => none

def evFun (E : Env) (k : Nat) : Nat → CallF
  | 0, f, args, σ => E.sum f args σ
  | d + 1, f, args, σ => match E.sum f args σ with
    | some r => some r
    | none => match E.P.funcs[f]? with
      | some fn => match fn.body with
        | some c => evBody E (evFun E k d) k f fn c args σ
        | none => none
      | none => none
end Go.Ab
