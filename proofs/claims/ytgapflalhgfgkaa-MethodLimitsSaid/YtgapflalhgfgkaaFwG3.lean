/- A part of the framework: an abstract evaluator of the model's code and its soundness. -/
import Derived.Test.YtgapflalhgfgkaaFwG2
import Derived.Lib.Overlaps
/- Rows of records: cells one record behind the other. -/
set_option linter.all false
namespace Go.Ab
def flat {α : Type} (f : α → List Value) (l : List α) : List Value := l.flatMap f
section
variable {α : Type} {f : α → List Value} {k : Nat} {l : List α} {x : α}
theorem flat_nil : flat f [] = [] := rfl
theorem flat_snoc : flat f (l ++ [x]) = flat f l ++ f x := by simp [flat]
theorem flat_app {m : List α} : flat f (l ++ m) = flat f l ++ flat f m := by simp [flat]
theorem flat_cons : flat f (x :: l) = f x ++ flat f l := by simp [flat]
theorem flat_size (h : ∀ x, (f x).length = k) : (flat f l).length = l.length * k := by
  induction l with
  | nil => simp [flat]
  | cons a l ih => simp only [flat, List.flatMap_cons, List.length_append, List.length_cons] at *; rw [ih, h, Nat.succ_mul, Nat.add_comm]
theorem flat_all (h : ∀ x, (f x).all oneCell = true) : (flat f l).all oneCell = true := by
  simp only [flat, List.all_eq_true, List.mem_flatMap] at *
  rintro v ⟨x, _, hv⟩
  exact h x v hv
theorem flat_drop (h : ∀ x, (f x).length = k) : ∀ (l : List α) (i : Nat), (flat f l).drop (i * k) = flat f (l.drop i)
  | [], i => by simp [flat]
  | a :: l, 0 => by simp
  | a :: l, i + 1 => by
    rw [List.drop_succ_cons, ← flat_drop h l i, flat_cons, Nat.succ_mul, Nat.add_comm, ← List.drop_drop, List.drop_left' (h a)]
theorem flat_take (h : ∀ x, (f x).length = k) : ∀ (l : List α) (i : Nat), (flat f l).take (i * k) = flat f (l.take i)
  | [], i => by simp [flat]
  | a :: l, 0 => by simp [flat]
  | a :: l, i + 1 => by
    rw [List.take_succ_cons, flat_cons, flat_cons, Nat.succ_mul, Nat.add_comm, ← h a, List.take_length_add_append, h a, flat_take h l i]
theorem flat_part (h : ∀ x, (f x).length = k) {i : Nat} (hi : l[i]? = some x) : ((flat f l).drop (i * k)).take k = f x := by
  rw [flat_drop h]
  obtain ⟨h1, h2⟩ := List.getElem?_eq_some_iff.1 hi
  rw [List.drop_eq_getElem_cons h1, h2, flat_cons, List.take_left' (h x)]
theorem flat_cell (h : ∀ x, (f x).length = k) {i q : Nat} (hi : l[i]? = some x) (hq : q < k) : (flat f l)[i * k + q]? = (f x)[q]? := by
  rw [← List.getElem?_drop, flat_drop h]
  obtain ⟨h1, h2⟩ := List.getElem?_eq_some_iff.1 hi
  rw [List.drop_eq_getElem_cons h1, h2, flat_cons, List.getElem?_append_left (by rw [h]; exact hq)]
theorem len_snoc : (l ++ [x]).length = l.length + 1 := by simp
theorem flat_range {g : Nat → α} {n : Nat} : (List.range n).flatMap (fun j => f (g j)) = flat f ((List.range n).map g) := by simp [flat, List.flatMap_map]
theorem range_get {g : Nat → α} {n i : Nat} (h : i < n) : ((List.range n).map g)[i]? = some (g i) := by simp [h]
theorem range_len {g : Nat → α} {n : Nat} : ((List.range n).map g).length = n := by simp
theorem take_next {i : Nat} (hi : l[i]? = some x) : l.take (i + 1) = l.take i ++ [x] := by
  rw [List.take_succ, hi]; rfl
end
/-- A row of numbers. -/
def intC (n : Int) : List Value := [.int .i64 n]
theorem intC_len (n : Int) : (intC n).length = 1 := rfl
theorem intC_one (n : Int) : (intC n).all oneCell = true := rfl
/-- A row of bytes. -/
def byteC (n : Int) : List Value := [.int .u8 n]
theorem byteC_len (n : Int) : (byteC n).length = 1 := rfl
/-- A row of pairs of numbers. -/
def pairC (p : Int × Int) : List Value := [.int .i64 p.1, .int .i64 p.2]
theorem pairC_len (p : Int × Int) : (pairC p).length = 2 := rfl
theorem pairC_one (p : Int × Int) : (pairC p).all oneCell = true := rfl
/-- An entry. -/
structure Entry where
  id : Int
  body : Int
  size : Int
  exch : ByteArray
  key : ByteArray
  prio : Int
  ttl : Int
  till : Int
  again : Bool
  hops : Int
def entC (e : Entry) : List Value := [.int .i64 e.id, .int .i64 e.body, .int .i64 e.size, .string e.exch, .string e.key, .int .i64 e.prio, .int .i64 e.ttl, .int .i64 e.till, .bool e.again, .int .i64 e.hops]
theorem entC_len (e : Entry) : (entC e).length = 10 := rfl
theorem entC_one (e : Entry) : (entC e).all oneCell = true := rfl
end Go.Ab

/- Numbers and texts as bytes: plain facts. -/
set_option linter.all false
set_option maxRecDepth 10000
open Go.RowKit
namespace Go.Ab
theorem wrap64_id {n : Int} (h0 : -9223372036854775808 ≤ n) (h1 : n ≤ 9223372036854775807) : IntKind.i64.wrap n = n := by
  by_cases hh : n % 2 ^ 64 ≥ 2 ^ 63 <;> simp [IntKind.wrap, IntKind.bits, IntKind.signed, hh] <;> omega
/-- The number that the first so many bytes tell. -/
def takeN (s : ByteArray) : Nat → Int
  | 0 => 0
  | i + 1 => takeN s i * 256 + ((s[i]!).toNat : Int)
theorem takeN_bd (s : ByteArray) : ∀ i, 0 ≤ takeN s i ∧ takeN s i < 256 ^ i
  | 0 => by simp [takeN]
  | i + 1 => by
    have h := takeN_bd s i
    have hb := (s[i]!).toNat_lt
    simp only [takeN]
    refine ⟨by omega, ?_⟩
    rw [Int.pow_succ]
    omega
theorem or_step (a b : Int) (h0 : 0 ≤ a) (h1 : a < 281474976710656) (b0 : 0 ≤ b) (b1 : b < 256) :
    IntKind.i64.wrap ((BitVec.ofInt IntKind.i64.bits (a * 256) ||| BitVec.ofInt IntKind.i64.bits b).toNat) = a * 256 + b := by
  obtain ⟨n, rfl⟩ : ∃ n : Nat, a = (n : Int) := ⟨a.toNat, by omega⟩
  obtain ⟨m, rfl⟩ : ∃ m : Nat, b = (m : Int) := ⟨b.toNat, by omega⟩
  have e2 : (BitVec.ofInt IntKind.i64.bits ((n : Int) * 256) ||| BitVec.ofInt IntKind.i64.bits (m : Int)).toNat = 256 * n + m := by
    rw [BitVec.toNat_or]
    have x1 : (BitVec.ofInt IntKind.i64.bits ((n : Int) * 256)).toNat = 2 ^ 8 * n := by
      simp only [BitVec.toNat_ofInt, IntKind.bits]
      omega
    have x2 : (BitVec.ofInt IntKind.i64.bits (m : Int)).toNat = m := by
      simp only [BitVec.toNat_ofInt, IntKind.bits]
      omega
    rw [x1, x2, ← Nat.two_pow_add_eq_or_of_lt (by omega)]
  rw [e2, wrap64_id (by omega) (by omega)]
  omega
theorem or_step0 (b : Int) (b0 : 0 ≤ b) (b1 : b < 256) :
    IntKind.i64.wrap ((BitVec.ofInt IntKind.i64.bits 0 ||| BitVec.ofInt IntKind.i64.bits b).toNat) = b := by
  have := or_step 0 b (by omega) (by omega) b0 b1
  simpa using this
/-- The lowest bytes of a number. -/
def dv (n : Int) : Nat → Int
  | 0 => n
  | j + 1 => n.fdiv (256 ^ (j + 1))
def nb (n : Int) : UInt8 := UInt8.ofNat (IntKind.u8.wrap n).toNat
def numL (n : Int) : Nat → List UInt8
  | 0 => []
  | k + 1 => nb (dv n k) :: numL n k
def numB (n : Int) (k : Nat) : ByteArray := ⟨(numL n k).toArray⟩
theorem numL_length (n : Int) : ∀ k, (numL n k).length = k
  | 0 => rfl
  | k + 1 => by simp [numL, numL_length n k]
theorem numB_size (n : Int) (k : Nat) : (numB n k).size = k := by simp [numB, ByteArray.size, numL_length]
theorem fdd (n a b : Int) (ha : 0 ≤ a) (hb : 0 ≤ b) : (n.fdiv a).fdiv b = n.fdiv (a * b) := by
  rw [Int.fdiv_eq_ediv_of_nonneg _ ha, Int.fdiv_eq_ediv_of_nonneg _ hb, Int.fdiv_eq_ediv_of_nonneg _ (Int.mul_nonneg ha hb)]
  first | exact Int.ediv_ediv_of_nonneg ha | exact Int.ediv_ediv ha
theorem fd1 (n : Int) : n.fdiv 1 = n := by simp
theorem ba_app (a b : Array UInt8) : (⟨a⟩ : ByteArray) ++ ⟨b⟩ = ⟨a ++ b⟩ := by simp [ByteArray.ext_iff]
theorem numB_1 (n : Int) : numB n 1 = ⟨#[nb n]⟩ := rfl
theorem numB_2 (n : Int) : numB n 2 = ⟨#[nb (n.fdiv 256), nb n]⟩ := rfl
theorem numB_4 (n : Int) : numB n 4 = ⟨#[nb (n.fdiv 16777216), nb (n.fdiv 65536), nb (n.fdiv 256), nb n]⟩ := rfl
theorem dv_nat (m j : Nat) : dv (m : Int) j = ((m / 256 ^ j : Nat) : Int) := by
  cases j with
  | zero => simp [dv]
  | succ j =>
    simp only [dv]
    rw [Int.fdiv_eq_ediv_of_nonneg _ (by exact_mod_cast Nat.zero_le _)]
    norm_cast
theorem nb_nat (x : Nat) : (nb (x : Int)).toNat = x % 256 := by
  have e : IntKind.u8.wrap (x : Int) = ((x % 256 : Nat) : Int) := by
    simp [IntKind.wrap, IntKind.bits, IntKind.signed]
  unfold nb
  rw [e]
  simp
  omega
theorem numL_get (m : Nat) : ∀ (k i : Nat), i < k → (numL (m : Int) k)[i]? = some (nb (dv (m : Int) (k - 1 - i)))
  | 0, i, h => by omega
  | k + 1, 0, _ => by simp [numL]
  | k + 1, i + 1, h => by
    simp only [numL, List.getElem?_cons_succ]
    rw [numL_get m k i (by omega)]
    have : k + 1 - 1 - (i + 1) = k - 1 - i := by omega
    rw [this]
theorem numB_at (m k i : Nat) (h : i < k) (more : ByteArray) : (((numB (m : Int) k ++ more)[i]!).toNat : Int) = ((m / 256 ^ (k - 1 - i) % 256 : Nat) : Int) := by
  have hs : i < (numB (m : Int) k).size := by rw [numB_size]; exact h
  have hs2 : i < (numB (m : Int) k ++ more).size := by rw [ByteArray.size_append]; omega
  rw [getElem!_pos (numB (m : Int) k ++ more) i hs2, ByteArray.getElem_append_left hs]
  have e : (numB (m : Int) k)[i] = nb (dv (m : Int) (k - 1 - i)) := by
    have h1 := numL_get m k i h
    have h2 : i < (numL (m : Int) k).length := by rw [numL_length]; exact h
    rw [List.getElem?_eq_getElem h2] at h1
    exact Option.some.inj h1
  rw [e, dv_nat, nb_nat]
/-- What was put is taken. -/
theorem takeN_num (m k : Nat) (hm : m < 256 ^ k) (more : ByteArray) : ∀ i, i ≤ k → takeN (numB (m : Int) k ++ more) i = ((m / 256 ^ (k - i) : Nat) : Int)
  | 0, _ => by
    simp only [takeN, Nat.sub_zero]
    rw [Nat.div_eq_of_lt hm]; rfl
  | i + 1, h => by
    simp only [takeN]
    rw [takeN_num m k hm more i (by omega), numB_at m k i (by omega)]
    have e1 : k - i = (k - 1 - i) + 1 := by omega
    have e2 : k - (i + 1) = k - 1 - i := by omega
    rw [e1, e2, Nat.pow_succ, ← Nat.div_div_eq_div_mul]
    generalize m / 256 ^ (k - 1 - i) = q
    omega
theorem takeN_numB (m k : Nat) (hm : m < 256 ^ k) (more : ByteArray) : takeN (numB (m : Int) k ++ more) k = (m : Int) := by
  rw [takeN_num m k hm more k (Nat.le_refl _)]; simp
theorem numB_rest (m : Int) (k : Nat) (more : ByteArray) (z : Nat) (hz : z = k + more.size) : (numB m k ++ more).extract k z = more := by
  subst hz
  exact ByteArray.extract_append_eq_right (by rw [numB_size]) (by rw [numB_size])
theorem ext_ext (s : ByteArray) (a b : Nat) : (s.extract a s.size).extract b (s.extract a s.size).size = s.extract (a + b) s.size := by
  rw [ByteArray.extract_extract, ByteArray.size_extract]
  congr 1
  omega
theorem ext_in (s : ByteArray) (a b c : Nat) (h : a + c ≤ s.size) : (s.extract a s.size).extract b c = s.extract (a + b) (a + c) := by
  rw [ByteArray.extract_extract]
  congr 1
  omega
theorem ext_all (s : ByteArray) : s.extract 0 s.size = s := ByteArray.extract_zero_size
theorem empty_append (x : ByteArray) : (⟨#[]⟩ : ByteArray) ++ x = x := by
  apply ByteArray.ext
  simp [ByteArray.data_append]
theorem append_empty' (x : ByteArray) : x ++ (⟨#[]⟩ : ByteArray) = x := by
  apply ByteArray.ext
  simp [ByteArray.data_append]
theorem ba_nil {s : ByteArray} (h : s.size = 0) : s = ⟨#[]⟩ := by
  apply ByteArray.ext
  exact Array.size_eq_zero_iff.1 h
theorem ba_at {s : ByteArray} {a b i : Nat} (h : a + i < b) (hb : b ≤ s.size) : ((s.extract a b)[i]!) = (s[a + i]!) := by
  have h1 : i < (s.extract a b).size := by rw [ByteArray.size_extract]; omega
  rw [getElem!_pos (s.extract a b) i h1, getElem!_pos s (a + i) (by omega), ByteArray.getElem_extract]
theorem takeN_congr {s t : ByteArray} : ∀ {k : Nat}, (∀ i, i < k → s[i]! = t[i]!) → takeN s k = takeN t k
  | 0, _ => rfl
  | k + 1, h => by
    simp only [takeN]
    rw [takeN_congr (k := k) fun i hi => h i (by omega), h k (by omega)]
/-- Bytes of a string, as a row. -/
def bytesR (s : ByteArray) : List Value := (s.data.map fun b => Value.int .u8 b.toNat).toList
theorem bytesR_len (s : ByteArray) : (bytesR s).length = s.size := by
  unfold bytesR; rw [Array.length_toList, Array.size_map]; rfl
theorem bytesR_at {s : ByteArray} {i : Nat} (h : i < s.size) : (bytesR s)[i]? = some (.int .u8 (s[i]!).toNat) := by
  rw [getElem!_pos s i h]
  have h2 : i < s.data.size := h
  simp [bytesR]
  exact ⟨s[i], by rw [Array.getElem?_eq_getElem h2]; rfl, rfl⟩
theorem bytesR_all (s : ByteArray) : (bytesR s).all isByte = true := by
  unfold bytesR
  rw [Array.toList_map, List.all_map]
  exact List.all_eq_true.2 fun _ _ => rfl
theorem byteV_nat (b : UInt8) : byteV (.int .u8 b.toNat) = b := by simp [byteV]
theorem bytesR_back (s : ByteArray) : bytesOf? (bytesR s) = some s := by
  unfold bytesOf?
  rw [if_pos (bytesR_all s)]
  congr 1
  apply ByteArray.ext
  simp only [bytesR, Array.toList_map, List.map_map]
  have : (byteV ∘ fun b : UInt8 => Value.int .u8 b.toNat) = id := by funext b; exact byteV_nat b
  rw [this]; simp
theorem bytesOf_some {l : List Value} (h : l.all isByte = true) : ∃ s, bytesOf? l = some s ∧ s.size = l.length := by
  refine ⟨⟨(l.map byteV).toArray⟩, by unfold bytesOf?; rw [if_pos h], by simp [ByteArray.size]⟩
theorem all_take {l : List Value} {n : Nat} (h : l.all isByte = true) : (l.take n).all isByte = true := by
  simp only [List.all_eq_true] at *
  exact fun x hx => h x (List.mem_of_mem_take hx)
theorem all_drop {l : List Value} {n : Nat} (h : l.all isByte = true) : (l.drop n).all isByte = true := by
  simp only [List.all_eq_true] at *
  exact fun x hx => h x (List.mem_of_mem_drop hx)
theorem all_wr {l m : List Value} {n : Nat} (h : l.all isByte = true) (hm : m.all isByte = true) : (wrList l n m).all isByte = true := by
  unfold wrList
  rw [List.all_append, List.all_append, all_take h, hm, all_drop h]; rfl
theorem wr_len {c l : List Value} {off : Nat} (h : off + l.length ≤ c.length) : (wrList c off l).length = c.length := by
  unfold wrList
  simp only [List.length_append, List.length_take, List.length_drop]
  omega
theorem toList_loop (bs : ByteArray) : ∀ (k i : Nat) (r : List UInt8), bs.size - i = k → ByteArray.toList.loop bs i r = r.reverse ++ bs.data.toList.drop i := by
  intro k
  induction k with
  | zero =>
    intro i r h
    unfold ByteArray.toList.loop
    rw [if_neg (by omega), List.drop_eq_nil_of_le (by have : bs.data.toList.length = bs.size := rfl; omega), List.append_nil]
  | succ k ih =>
    intro i r h
    unfold ByteArray.toList.loop
    have hi : i < bs.data.toList.length := by have : bs.data.toList.length = bs.size := rfl; omega
    rw [if_pos (by omega), ih (i + 1) _ (by omega), List.drop_eq_getElem_cons hi]
    have : bs.get! i = bs.data.toList[i] := by
      have h2 : i < bs.data.size := hi
      simp only [ByteArray.get!]
      rw [getElem!_pos bs.data i h2]; rfl
    rw [this]; simp
theorem toList_data (bs : ByteArray) : bs.toList = bs.data.toList := by
  unfold ByteArray.toList
  rw [toList_loop bs _ 0 [] rfl]; simp
theorem toList_beq (x y : ByteArray) : (x.toList == y.toList) = decide (x = y) := by
  rw [toList_data, toList_data]
  by_cases h : x = y
  · subst h; simp
  · have : ¬ x.data = y.data := fun e => h (ByteArray.ext e)
    simp [h, this]
theorem ba_ne {b : ByteArray} (h : 0 < b.size) : ¬ b = ⟨#[]⟩ := by intro e; subst e; exact absurd h (by decide)
theorem o_bool {E : Env} {L : List Res} {Q : Value → St → Prop} {x y : Bool} (h : x = y) (K : O E L (Q (.bool x))) : O E L (Q (.bool y)) := by subst h; exact K
end Go.Ab

/- Slices of blocks and rows; copying, clearing, appending within a block. -/
set_option linter.all false
open Go.RowKit
namespace Go.Ab
section
variable {E : Env} {call : CallF} {ops : List Oper} {base i : Nat} {o : Oper} {rest : List Oper} {fr fr' : List Value} {L L' R : List Res} {K : List Rec → List Value → St → Prop} {P : Program}
theorem bd_none {d y : Nat} : bound? none d y = some d := rfl
theorem bd_int {k : IntKind} {v : Int} {d y r : Nat} (h0 : 0 ≤ v) (h1 : v ≤ y) (hr : v.toNat = r) : bound? (some (.int k v)) d y = some r := by
  simp only [bound?]; rw [if_pos ⟨h0, h1⟩, hr]
/-- A slice of a block of one's own. -/
theorem ro_slB {t e' : TypeId} {x : Operand} {lo hi : Option Operand} {b off n len cap h l : Nat} {c : List Value} {e : TypeId} {ex : Bool} {vl vh : Option Value} (hw : Region.wanted o (yieldA ops fr) = true) (hop : o.op = .slice t x lo hi none) (hP : E.P = P) (hu : P.underlying t = some (.slice e')) (hz : sizeT P e' = some n)
    (hx : Opd fr x = .slice (some ⟨b, off, none⟩) len cap) (hlo : lo.map (Opd fr) = vl) (hhi : hi.map (Opd fr) = vh) (hs : Sel L (.blk b c e ex) R) (hex : ex = true ∨ sizeT P e = some n) (hle : len ≤ cap) (bh : bound? vh len cap = some h) (bl : bound? vl 0 h = some l)
    (hk : RO E call ops base (i + 1) rest (put fr o.dst (.slice (some ⟨b, off + l * n, none⟩) (h - l) (cap - l))) L fun rs => K (.mem (fun g => evOp E (Opd fr) (base + i) g o) ⟨.slice (some ⟨b, off + l * n, none⟩) (h - l) (cap - l), [], [b]⟩ :: rs)) : ROC E call ops base i o rest fr L K :=
  ro_mem (by unfold callOf; rw [hop]) hw fun σ r ho => by
    subst hP
    have hg := ho.tail.tail.get hs
    refine ⟨⟨.slice (some ⟨b, off + l * n, none⟩) (h - l) (cap - l), [], [b]⟩, L, ?_, ho.tail, hk⟩
    unfold evOp
    simp only [hop, hx, hlo, hhi, Option.map_none]
    unfold evSlice
    have hsz : szOk E σ.heap.get ⟨b, off, none⟩ n = true := by
      simp only [szOk, hg.1, if_false, hg.2]
      rcases hex with h | h <;> simp [h]
    simp only [hu, hz, hsz, hle, and_self, if_true, bh, bl]
/-- .. with three indexes. -/
theorem ro_slB3 {t e' : TypeId} {x : Operand} {lo : Option Operand} {hi mx : Operand} {b off n len cap h l m : Nat} {c : List Value} {e : TypeId} {ex : Bool} {vl : Option Value} {vh vm : Value} (hw : Region.wanted o (yieldA ops fr) = true) (hop : o.op = .slice t x lo (some hi) (some mx)) (hP : E.P = P) (hu : P.underlying t = some (.slice e')) (hz : sizeT P e' = some n)
    (hx : Opd fr x = .slice (some ⟨b, off, none⟩) len cap) (hlo : lo.map (Opd fr) = vl) (hhi : Opd fr hi = vh) (hmx : Opd fr mx = vm) (hs : Sel L (.blk b c e ex) R) (hex : ex = true ∨ sizeT P e = some n) (hle : len ≤ cap) (bm : bound? (some vm) 0 cap = some m) (bh : bound? (some vh) 0 m = some h) (bl : bound? vl 0 h = some l)
    (hk : RO E call ops base (i + 1) rest (put fr o.dst (.slice (some ⟨b, off + l * n, none⟩) (h - l) (m - l))) L fun rs => K (.mem (fun g => evOp E (Opd fr) (base + i) g o) ⟨.slice (some ⟨b, off + l * n, none⟩) (h - l) (m - l), [], [b]⟩ :: rs)) : ROC E call ops base i o rest fr L K :=
  ro_mem (by unfold callOf; rw [hop]) hw fun σ r ho => by
    subst hP
    have hg := ho.tail.tail.get hs
    refine ⟨⟨.slice (some ⟨b, off + l * n, none⟩) (h - l) (m - l), [], [b]⟩, L, ?_, ho.tail, hk⟩
    unfold evOp
    simp only [hop, hx, hlo, hhi, hmx, Option.map_some]
    unfold evSlice
    have hsz : szOk E σ.heap.get ⟨b, off, none⟩ n = true := by
      simp only [szOk, hg.1, if_false, hg.2]
      rcases hex with h | h <;> simp [h]
    simp only [hu, hz, hsz, hle, and_self, if_true, bm, bh, bl]
/-- A slice of a row of one's own, in its place. -/
theorem ro_slR {t e' : TypeId} {x : Operand} {lo hi : Option Operand} {n h l : Nat} {s : Value} {c : List Value} {e : TypeId} {sz : Nat} {vl vh : Option Value} (hw : Region.wanted o (yieldA ops fr) = true) (hop : o.op = .slice t x lo hi none) (hP : E.P = P) (hu : P.underlying t = some (.slice e')) (hz : sizeT P e' = some sz)
    (hx : Opd fr x = s) (hlo : lo.map (Opd fr) = vl) (hhi : hi.map (Opd fr) = vh) (hs : Sel L (.row 0 s n c e sz) R) (hex : sizeT P e = some sz) (bh : bound? vh n n = some h) (bl : bound? vl 0 h = some l)
    (hk : ∀ a cap e', RO E call ops base (i + 1) rest (put fr o.dst (.slice a (h - l) cap)) (.row 0 (.slice a (h - l) cap) (h - l) ((c.drop (l * sz)).take ((h - l) * sz)) e sz :: R) fun rs => K (.mem (fun g => evOp E (Opd fr) (base + i) g o) e' :: rs)) : ROC E call ops base i o rest fr L K :=
  ro_mem (by unfold callOf; rw [hop]) hw fun σ r ho => by
    subst hP
    have hbd : ∀ (x : Option Value) d y r, bound? x d y = some r → d ≤ y → r ≤ y := by
      intro x d y r hb hd
      unfold bound? at hb
      split at hb
      · cases hb; exact hd
      · split at hb
        · cases hb; omega
        · cases hb
      · cases hb
    have hhn := hbd _ _ _ _ bh (Nat.le_refl _)
    have hlh := hbd _ _ _ _ bl (Nat.zero_le _)
    have hmono : ∀ y, n ≤ y → bound? vh n y = some h := by
      intro y hy
      unfold bound? at bh ⊢
      cases vh with
      | none => exact bh
      | some v =>
        cases v <;> simp only at bh ⊢ <;> first | (cases bh; done) | skip
        split at bh
        · rename_i hc; rw [if_pos ⟨hc.1, by omega⟩]; exact bh
        · cases bh
    have hr := ho.tail.tail.row hs
    have h1 : Own E σ (.row 0 s n c e sz :: r :: R) := (ho.tail.perm (hs.perm.cons r)).perm (List.Perm.swap _ _ _)
    obtain ⟨hc, hr⟩ := hr
    have hlen : ((c.drop (l * sz)).take ((h - l) * sz)).length = (h - l) * sz := by
      have : h * sz ≤ n * sz := Nat.mul_le_mul_right _ hhn
      have : l * sz ≤ h * sz := Nat.mul_le_mul_right _ hlh
      rw [List.length_take, List.length_drop, Nat.sub_mul]; omega
    rcases hr with ⟨rfl, rfl⟩ | ⟨b, p, m, j, x', rfl, hj, hg⟩
    · obtain rfl : h = 0 := by omega
      obtain rfl : l = 0 := by omega
      have hcn : c = [] := List.length_eq_zero_iff.1 (by omega)
      subst hcn
      refine ⟨⟨.slice none 0 0, [], []⟩, .row 0 (.slice none 0 0) 0 [] e sz :: R, ?_, h1.perm (List.Perm.swap _ _ _), ?_⟩
      · unfold evOp
        simp only [hop, hx, hlo, hhi, Option.map_none]
        unfold evSlice
        simp only [hu, hz, bh, bl]
      · have := hk none 0 ⟨.slice none 0 0, [], []⟩
        simpa using this
    · have hnb : ¬ b < E.old := by
        have := (h1.lt b (by simp [idsL, Res.ids, rowBlk])).1
        omega
      have hsz : szOk E σ.heap.get ⟨b, p.length, none⟩ sz = true := by
        simp only [szOk, hnb, if_false, hg, hex, decide_true, Bool.or_true]
      refine ⟨⟨.slice (some ⟨b, p.length + l * sz, none⟩) (h - l) (n + m - l), [], [b]⟩, .row 0 (.slice (some ⟨b, p.length + l * sz, none⟩) (h - l) (n + m - l)) (h - l) ((c.drop (l * sz)).take ((h - l) * sz)) e sz :: R, ?_, ?_, hk _ _ _⟩
      · unfold evOp
        simp only [hop, hx, hlo, hhi, Option.map_none]
        unfold evSlice
        simp only [hu, hz, hsz, Nat.le_add_right, and_self, if_true, hmono _ (Nat.le_add_right n m), bl]
      · have hl1 : l * sz ≤ h * sz := Nat.mul_le_mul_right _ hlh
        have hl2 : h * sz ≤ n * sz := Nat.mul_le_mul_right _ hhn
        have h2 := Own.upd (A := [_]) (A' := [.row 0 (.slice (some ⟨b, p.length + l * sz, none⟩) (h - l) (n + m - l)) (h - l) ((c.drop (l * sz)).take ((h - l) * sz)) e sz]) (h' := σ.heap) h1 (by simp [idsL, Res.ids, rowBlk]) (by simp [idsL, Res.ids, rowBlk])
          (by
            simp only [List.mem_cons, List.not_mem_nil, or_false, forall_eq, Res.ok]
            refine ⟨hlen, .inr ⟨b, p ++ c.take (l * sz), n - h + m, (c.drop (h * sz)) ++ j, x', ?_, ?_, ?_⟩⟩
            · rw [List.length_append, List.length_take, hc, Nat.min_eq_left (by omega)]
              congr 1; omega
            · rw [List.length_append, List.length_drop, hc, hj, Nat.add_mul, Nat.sub_mul]
            · rw [hg]
              congr 2
              have e1 : h * sz = l * sz + (h - l) * sz := by rw [Nat.sub_mul]; omega
              rw [e1, ← List.drop_drop]
              simp only [List.append_assoc, ← List.append_assoc (List.take _ (List.drop _ c)), List.take_append_drop]
              rw [← List.append_assoc (List.take _ c), List.take_append_drop])
          (fun x hx => rfl)
        exact h2.perm (List.Perm.swap _ _ _)
/-- copy into a block from elsewhere. -/
theorem ro_copyB {x y : Operand} {ts : Array TypeId} {t0 t1 el : TypeId} {b off dn dc m sz : Nat} {ys : Value} {c new : List Value} {e : TypeId} {ex : Bool} (hw : Region.wanted o (yieldA ops fr) = true) (hop : o.op = .call { callee := .builtin .copy, args := #[x, y], argTypes := ts }) (hts : ts = #[t0, t1]) (hP : E.P = P) (hel : elemT P t0 = some el) (hsz : sizeT P el = some sz)
    (hx : Opd fr x = .slice (some ⟨b, off, none⟩) dn dc) (hy : Opd fr y = ys) (hs : Sel L (.blk b c e ex) R) (hsrc : Src E R sz m ys new) (hm : m ≤ dn) (hle : off + m * sz ≤ c.length)
    (hk : ∀ e', RO E call ops base (i + 1) rest (put fr o.dst (.int .i64 m)) (.blk b (wrList c off new) e ex :: R) fun rs => K (.mem (fun g => evOp E (Opd fr) (base + i) g o) e' :: rs)) : ROC E call ops base i o rest fr L K :=
  ro_mem (by unfold callOf; rw [hop]) hw fun σ r ho => by
    subst hP
    have h1 : Own E σ (.blk b c e ex :: r :: R) := (ho.tail.perm (hs.perm.cons r)).perm (List.Perm.swap _ _ _)
    have hg := h1.get .head
    obtain ⟨hylen, hystr, hnew⟩ := hsrc.rd σ h1.tail.tail
    have hmin : Nat.min m dn = m := Nat.min_eq_left hm
    have hev : ∀ f, evOp E (Opd fr) (base + i) σ.heap.get o = f → evCopy E σ.heap.get #[t0, t1] (.slice (some ⟨b, off, none⟩) dn dc) ys = f := by
      intro f hf
      rw [← hf]
      unfold evOp
      simp only [hop, hts, List.map_cons, List.map_nil, hx, hy, evBuiltin]
    by_cases h0 : m = 0
    · subst h0
      have hnn : new = [] := List.length_eq_zero_iff.1 (by have := hsrc.ln; omega)
      subst hnn
      have hwn : wrList c off [] = c := by unfold wrList; simp
      rw [hwn] at hk
      refine ⟨⟨.int .i64 0, [], blkOf ys⟩, _, ?_, h1.perm (List.Perm.swap _ _ _), hk _⟩
      rw [← hev _ rfl]
      unfold evCopy
      simp only [List.getElem?_toArray, List.getElem?_cons_zero, Option.bind_some, hel, hsz, hylen, hmin, hnew, if_true]
    · have hwr : wr E σ.heap.get ⟨b, off, none⟩ new = some (b, some (.cells (wrList c off new) e ex)) := by
        have hh : ¬ (((⟨b, off, none⟩ : Addr).spot.isSome || decide (b < E.old)) || !new.all oneCell) = true := by simp [hg.1]; simpa using hsrc.one
        unfold wr
        rw [if_neg hh]
        simp only [hg.2]
        rw [if_pos (by rw [hsrc.ln]; exact hle)]
      refine ⟨⟨.int .i64 m, [(b, some (.cells (wrList c off new) e ex))], b :: blkOf ys⟩, _, ?_, (h1.write (c' := wrList c off new)).perm (List.Perm.swap _ _ _), hk _⟩
      rw [← hev _ rfl]
      unfold evCopy
      simp only [List.getElem?_toArray, List.getElem?_cons_zero, Option.bind_some, hel, hsz, hylen, hmin, hnew, h0, if_false, hwr]
theorem ro_gU {j t : Nat} {b : Bool} (hg : o.guard = some (j, b)) (hd : (ops[j]?).bind (·.dst) = some t) (hv : fr[t]? = some undef) (h : RO E call ops base (i + 1) rest (put fr o.dst undef) L fun rs => K (.quiet :: rs)) : ROC E call ops base i o rest fr L K :=
  ro_off (by
    unfold Region.wanted
    rw [hg]
    simp only [yieldA, hd, Option.bind_some, hv]
    rfl) h
end
/-- A whole block as a row. -/
theorem o_whole {E : Env} {L R : List Res} {b n sz : Nat} {c : List Value} {e : TypeId} {x : Bool} {G : St → Prop} (hs : Sel L (.blk b c e x) R) (hc : c.length = n * sz) (hx : O E (.row 0 (.slice (some ⟨b, 0, none⟩) n n) n c e sz :: R) G) : O E L G := by
  have h1 : Sel L (.blk b (c ++ []) e x) R := by rw [List.append_nil]; exact hs
  exact o_fullrow (m := 0) h1 hc (by simp) hx
end Go.Ab

/- Texts as bytes: plain facts. -/
set_option linter.all false
set_option maxRecDepth 10000
open Go.RowKit
namespace Go.Ab
/-- A text with its length ahead. -/
def tx (s : ByteArray) : ByteArray := numB (s.size : Int) 1 ++ s
theorem tx_size (s : ByteArray) : (tx s).size = 1 + s.size := by simp [tx, ByteArray.size_append, numB_size]
theorem tx_first (s x : ByteArray) (h : s.size ≤ 255) : (((tx s ++ x)[0]!).toNat) = s.size := by
  have h1 := numB_at s.size 1 0 (by omega) (s ++ x)
  rw [tx, ByteArray.append_assoc]
  simp at h1
  omega
theorem tx_rest (s x : ByteArray) (z : Nat) (hz : z = 1 + s.size + x.size) : (tx s ++ x).extract (1 + s.size) z = x := by
  subst hz
  exact ByteArray.extract_append_eq_right (by rw [tx_size]) (by rw [tx_size])
theorem tx_text (s x : ByteArray) : (tx s ++ x).extract 1 (1 + s.size) = s := by
  have h1 : (tx s ++ x).extract 1 (tx s ++ x).size = s ++ x := by
    rw [tx, ByteArray.append_assoc]
    exact numB_rest _ 1 _ _ (by simp [ByteArray.size_append, numB_size])
  have h2 := ext_in (tx s ++ x) 1 0 s.size (by rw [ByteArray.size_append, tx_size]; omega)
  rw [h1] at h2
  rw [Nat.add_zero] at h2
  rw [← h2]
  apply ByteArray.ext
  simp [ByteArray.data_extract, ByteArray.data_append]
/-- Texts one behind the other. -/
def tl : List ByteArray → ByteArray
  | [] => ⟨#[]⟩
  | x :: l => tx x ++ tl l
theorem tl_append (l : List ByteArray) (x : ByteArray) : tl (l ++ [x]) = tl l ++ tx x := by
  induction l with
  | nil => simp only [List.nil_append, tl, append_empty', empty_append]
  | cons y l ih => simp only [List.cons_append, tl, ih, ByteArray.append_assoc]
theorem tl_size (l : List ByteArray) (h : ∀ x ∈ l, x.size ≤ 255) : (tl l).size ≤ 256 * l.length := by
  induction l with
  | nil => simp [tl, ByteArray.size]
  | cons x l ih =>
    have h1 := h x (by simp)
    have h2 := ih fun y hy => h y (by simp [hy])
    rw [tl, ByteArray.size_append, tx_size, List.length_cons]
    omega
theorem ext_zero (s : ByteArray) (a : Nat) : s.extract a a = ⟨#[]⟩ := ba_nil (by rw [ByteArray.size_extract]; omega)
theorem e0_size : (⟨#[]⟩ : ByteArray).size = 0 := rfl
/-- A record put in a row. -/
theorem flat_set {α : Type} {f : α → List Value} {k : Nat} (h : ∀ x, (f x).length = k) {l : List α} {i : Nat} {x : α} (hi : i < l.length) : wrList (flat f l) (i * k) (f x) = flat f (l.set i x) := by
  have e : l = l.take i ++ (l[i] :: l.drop (i + 1)) := by rw [List.getElem_cons_drop, List.take_append_drop]
  have hl : (flat f (l.take i)).length = i * k := by rw [flat_size h, List.length_take, Nat.min_eq_left (by omega)]
  have e2 : l.set i x = l.take i ++ (x :: l.drop (i + 1)) := by
    rw [List.set_eq_take_append_cons_drop, if_pos hi]
  rw [e2]
  conv => lhs; rw [e]
  rw [flat_app, flat_cons, flat_app, flat_cons]
  unfold wrList
  rw [List.take_left' hl, h x, List.drop_append, List.drop_eq_nil_of_le (by omega), hl, List.nil_append, show i * k + k - i * k = k by omega, List.drop_left' (h _)]
/-- A row of strings. -/
def strC (s : ByteArray) : List Value := [.string s]
theorem strC_len (s : ByteArray) : (strC s).length = 1 := rfl
theorem strC_one (s : ByteArray) : (strC s).all oneCell = true := rfl
theorem ba_toList {x y : ByteArray} (h : x = y) : (x == y) = true := by subst h; rw [ba_beq]; simp
end Go.Ab

/- Appending and copying within a block that is known to its end. -/
set_option linter.all false
open Go.RowKit
namespace Go.Ab
section
variable {E : Env} {call : CallF} {ops : List Oper} {base i : Nat} {o : Oper} {rest : List Oper} {fr fr' : List Value} {L L' R : List Res} {K : List Rec → List Value → St → Prop} {P : Program}
/-- append where there is room. -/
theorem ro_appB {x y : Operand} {ts : Array TypeId} {t0 t1 el : TypeId} {sz bytes b off n cap m : Nat} {ys : Value} {c new : List Value} {e : TypeId} {ex : Bool} (hw : Region.wanted o (yieldA ops fr) = true) (hop : o.op = .call { callee := .builtin .append, args := #[x, y], argTypes := ts }) (hts : ts = #[t0, t1]) (hP : E.P = P) (ht : AppT P t0 t1 el sz bytes)
    (hx : Opd fr x = .slice (some ⟨b, off, none⟩) n cap) (hy : Opd fr y = ys) (hs : Sel L (.blk b c e ex) R) (hsrc : Src E R sz m ys new) (hm : 0 < m) (hroom : n + m ≤ cap) (hle : off + cap * sz ≤ c.length)
    (hk : ∀ e', RO E call ops base (i + 1) rest (put fr o.dst (.slice (some ⟨b, off, none⟩) (n + m) cap)) (.blk b (wrList c (off + n * sz) new) e ex :: R) fun rs => K (.mem (fun g => evOp E (Opd fr) (base + i) g o) e' :: rs)) : ROC E call ops base i o rest fr L K :=
  ro_mem (by unfold callOf; rw [hop]) hw fun σ r ho => by
    subst hP
    have h1 : Own E σ (.blk b c e ex :: r :: R) := (ho.tail.perm (hs.perm.cons r)).perm (List.Perm.swap _ _ _)
    have hg := h1.get .head
    obtain ⟨hylen, hystr, hnew⟩ := hsrc.rd σ h1.tail.tail
    obtain ⟨d, hd1, hd2⟩ := ht.un
    obtain ⟨z, hz1, hz2⟩ := ht.ze
    obtain ⟨ti, hi⟩ : ∃ i, E.P.info? el = some i := by
      have := ht.szT
      unfold sizeT at this
      cases hi : E.P.info? el with
      | none => simp [hi] at this
      | some i => exact ⟨i, rfl⟩
    have hisz : ti.size = sz := by simpa [sizeT, hi] using ht.szT
    subst hisz
    have hmul : (n + m) * ti.size ≤ cap * ti.size := Nat.mul_le_mul_right _ hroom
    rw [Nat.add_mul] at hmul
    have hwr : wr E σ.heap.get ⟨b, off + n * ti.size, none⟩ new = some (b, some (.cells (wrList c (off + n * ti.size) new) e ex)) := by
      have hh : ¬ (((⟨b, off + n * ti.size, none⟩ : Addr).spot.isSome || decide (b < E.old)) || !new.all oneCell) = true := by simp [hg.1]; simpa using hsrc.one
      unfold wr
      rw [if_neg hh]
      simp only [hg.2]
      rw [if_pos (by rw [hsrc.ln]; omega)]
    have hc0 : ¬ (ti.size = 0 ∨ z.size ≠ ti.size ∨ strOk ys ti.size = false) := by
      have := ht.ne
      simp [this, hz2, hystr]
    refine ⟨⟨.slice (some ⟨b, off, none⟩) (n + m) cap, [(b, some (.cells (wrList c (off + n * ti.size) new) e ex))], b :: blkOf ys⟩, _, ?_, (h1.write (c' := wrList c (off + n * ti.size) new)).perm (List.Perm.swap _ _ _), hk _⟩
    unfold evOp
    simp only [hop, hts, List.map_cons, List.map_nil, hx, hy, evBuiltin]
    unfold evAppend
    simp only [List.getElem?_toArray, List.getElem?_cons_zero, List.getElem?_cons_succ, Option.bind_some, ht.elT, hd1, hd2, hi, hz1, hylen, hc0, hnew, Bool.not_true, Bool.false_eq_true, if_false, if_pos hroom, if_neg (show ¬ m = 0 by omega), Option.isSome_none, hwr]
/-- append where there is none, to a block that is known to its end. -/
theorem ro_appG {x y : Operand} {ts : Array TypeId} {t0 t1 el : TypeId} {sz bytes b off n cap m : Nat} {ys : Value} {c old new : List Value} {e : TypeId} (hw : Region.wanted o (yieldA ops fr) = true) (hop : o.op = .call { callee := .builtin .append, args := #[x, y], argTypes := ts }) (hts : ts = #[t0, t1]) (hP : E.P = P) (ht : AppT P t0 t1 el sz bytes)
    (hx : Opd fr x = .slice (some ⟨b, off, none⟩) n cap) (hy : Opd fr y = ys) (hs : Sel L (.blk b c e true) R) (hsrc : Src E R sz m ys new) (hroom : cap < n + m) (hn : 0 < n) (hle : off + n * sz ≤ c.length) (hold : (c.drop off).take (n * sz) = old) (hfit : (n + m) * bytes ≤ 140737488355328) (h63 : n + m ≤ 9223372036854775807)
    (hk : ∀ b' e', RO E call ops base (i + 1) rest (put fr o.dst (.slice (some ⟨b', 0, none⟩) (n + m) (n + m))) (.blk b' (old ++ new) el false :: .blk b c e true :: R) fun rs => K (.mem (fun g => evOp E (Opd fr) (base + i) g o) e' :: rs)) : ROC E call ops base i o rest fr L K :=
  ro_mem (by unfold callOf; rw [hop]) hw fun σ r ho => by
    subst hP hold
    have h0 : Own E σ (.blk b c e true :: .rsv (base + i) 1 :: r :: R) := (ho.perm ((hs.perm.cons r).cons _)).perm (((List.Perm.swap _ _ _).cons _).trans (List.Perm.swap _ _ _))
    have hg := h0.get .head
    obtain ⟨hylen, hystr, hnew⟩ := hsrc.rd σ h0.tail.tail.tail
    obtain ⟨d, hd1, hd2⟩ := ht.un
    obtain ⟨z, hz1, hz2⟩ := ht.ze
    obtain ⟨ti, hi⟩ : ∃ i, E.P.info? el = some i := by
      have := ht.szT
      unfold sizeT at this
      cases hi : E.P.info? el with
      | none => simp [hi] at this
      | some i => exact ⟨i, rfl⟩
    have hisz : ti.size = sz := by simpa [sizeT, hi] using ht.szT
    subst hisz
    have hby : ti.bytes = bytes := by have := ht.by_; simpa [bytesT, hi] using this
    subst hby
    have hrd : rdRow E σ.heap.get ti.size n (.slice (some ⟨b, off, none⟩) n cap) = some ((c.drop off).take (n * ti.size)) := by
      simp only [rdRow, (show n ≠ 0 by omega), if_false, Nat.le_refl, if_true, rd, Option.isSome_none, Bool.false_eq_true, hg.1, hg.2]
      rw [if_pos hle]
    have hop2 : opens E σ.heap.get ⟨b, off, none⟩ cap el ti.size = some false := by
      simp only [opens, hg.1, if_false, hg.2, if_true]
    have hc0 : ¬ (ti.size = 0 ∨ z.size ≠ ti.size ∨ strOk ys ti.size = false) := by
      have := ht.ne
      simp [this, hz2, hystr]
    refine ⟨⟨.slice (some ⟨base + i, 0, none⟩) (n + m) (n + m), [(base + i, some (.cells ((c.drop off).take (n * ti.size) ++ new) el false))], b :: blkOf ys⟩, .blk (base + i) ((c.drop off).take (n * ti.size) ++ new) el false :: .blk b c e true :: R, ?_, ?_, hk _ _⟩
    · unfold evOp
      simp only [hop, hts, List.map_cons, List.map_nil, hx, hy, evBuiltin]
      unfold evAppend
      simp only [List.getElem?_toArray, List.getElem?_cons_zero, List.getElem?_cons_succ, Option.bind_some, ht.elT, hd1, hd2, hi, hz1, hylen, hc0, hnew, Bool.not_true, Bool.false_eq_true, if_false, if_neg (show ¬ n + m ≤ cap by omega), if_pos (And.intro hfit h63), hrd, hop2]
    · have h2 : Own E σ (.rsv (base + i) 1 :: r :: .blk b c e true :: R) := h0.perm ((List.Perm.swap _ _ _).trans ((List.Perm.swap _ _ _).cons _))
      exact (h2.alloc (c := (c.drop off).take (n * ti.size) ++ new) (el := el) (ex := false)).perm (.refl _)
/-- append of zeros where there is no room. -/
theorem ro_appZ {x y : Operand} {ts : Array TypeId} {t0 t1 el : TypeId} {ki kn : IntKind} {q : Int} {sz bytes b off n cap m : Nat} {z : Array Value} {c old : List Value} {e : TypeId} (hw : Region.wanted o (yieldA ops fr) = true) (hop : o.op = .call { callee := .builtin .append, args := #[x, y], argTypes := ts }) (hts : ts = #[t0, t1]) (hP : E.P = P) (hel : elemT P t0 = some el) (hu : P.underlying t1 = some (.int kn)) (hsz : sizeT P el = some sz) (hby : bytesT P el = some bytes) (hz : zeroCells? P el = some z) (hzs : z.size = sz) (h0 : sz ≠ 0)
    (hx : Opd fr x = .slice (some ⟨b, off, none⟩) n cap) (hy : Opd fr y = .int ki q) (hq : q = (m : Int)) (hs : Sel L (.blk b c e true) R) (hm : 0 < m) (hroom : cap < n + m) (hle : off + n * sz ≤ c.length) (hold : (c.drop off).take (n * sz) = old) (hfit : (n + m) * bytes ≤ 140737488355328) (h63 : n + m ≤ 9223372036854775807)
    (hk : ∀ b' e', RO E call ops base (i + 1) rest (put fr o.dst (.slice (some ⟨b', 0, none⟩) (n + m) (n + m))) (.blk b' (old ++ zeroRow z (m * sz)) el false :: .blk b c e true :: R) fun rs => K (.mem (fun g => evOp E (Opd fr) (base + i) g o) e' :: rs)) : ROC E call ops base i o rest fr L K :=
  ro_mem (by unfold callOf; rw [hop]) hw fun σ r ho => by
    subst hP hold hq
    have h1 : Own E σ (.blk b c e true :: .rsv (base + i) 1 :: r :: R) := (ho.perm ((hs.perm.cons r).cons _)).perm (((List.Perm.swap _ _ _).cons _).trans (List.Perm.swap _ _ _))
    have hg := h1.get .head
    obtain ⟨ti, hi⟩ : ∃ i, E.P.info? el = some i := by
      unfold sizeT at hsz
      cases hi : E.P.info? el with
      | none => simp [hi] at hsz
      | some i => exact ⟨i, rfl⟩
    have hisz : ti.size = sz := by simpa [sizeT, hi] using hsz
    subst hisz
    have hby2 : ti.bytes = bytes := by simpa [bytesT, hi] using hby
    subst hby2
    have hrd : rdRow E σ.heap.get ti.size n (.slice (some ⟨b, off, none⟩) n cap) = some ((c.drop off).take (n * ti.size)) := by
      by_cases hn : n = 0
      · subst hn; simp [rdRow]
      simp only [rdRow, hn, if_false, Nat.le_refl, if_true, rd, Option.isSome_none, Bool.false_eq_true, hg.1, hg.2]
      rw [if_pos hle]
    have hop2 : opens E σ.heap.get ⟨b, off, none⟩ cap el ti.size = some false := by
      simp only [opens, hg.1, if_false, hg.2, if_true]
    refine ⟨⟨.slice (some ⟨base + i, 0, none⟩) (n + m) (n + m), [(base + i, some (.cells ((c.drop off).take (n * ti.size) ++ zeroRow z (m * ti.size)) el false))], [b]⟩, .blk (base + i) ((c.drop off).take (n * ti.size) ++ zeroRow z (m * ti.size)) el false :: .blk b c e true :: R, ?_, ?_, hk _ _⟩
    · unfold evOp
      simp only [hop, hts, List.map_cons, List.map_nil, hx, hy, evBuiltin]
      unfold evAppend
      simp only [List.getElem?_toArray, List.getElem?_cons_zero, List.getElem?_cons_succ, Option.bind_some, hel, hu, isSlStr, Bool.not_false, if_true]
      unfold evAppendZ
      simp only [hi, hz, Int.toNat_natCast, hrd, hop2]
      rw [if_neg (by
        simp only [not_or]
        exact ⟨h0, by simp [hzs], by omega, by omega, by omega, by omega⟩)]
    · have h2 : Own E σ (.rsv (base + i) 1 :: r :: .blk b c e true :: R) := h1.perm ((List.Perm.swap _ _ _).trans ((List.Perm.swap _ _ _).cons _))
      exact (h2.alloc (c := (c.drop off).take (n * ti.size) ++ zeroRow z (m * ti.size)) (el := el) (ex := false)).perm (.refl _)
/-- copy within one block. -/
theorem ro_copyS {x y : Operand} {ts : Array TypeId} {t0 t1 el : TypeId} {b off dn dc soff sn sc m sz : Nat} {c new : List Value} {e : TypeId} {ex : Bool} (hw : Region.wanted o (yieldA ops fr) = true) (hop : o.op = .call { callee := .builtin .copy, args := #[x, y], argTypes := ts }) (hts : ts = #[t0, t1]) (hP : E.P = P) (hel : elemT P t0 = some el) (hsz : sizeT P el = some sz)
    (hx : Opd fr x = .slice (some ⟨b, off, none⟩) dn dc) (hy : Opd fr y = .slice (some ⟨b, soff, none⟩) sn sc) (hs : Sel L (.blk b c e ex) R) (hm : min sn dn = m) (h0 : 0 < m) (hle : off + m * sz ≤ c.length) (hsl : soff + m * sz ≤ c.length) (hnew : (c.drop soff).take (m * sz) = new) (hone : new.all oneCell = true)
    (hk : ∀ e', RO E call ops base (i + 1) rest (put fr o.dst (.int .i64 m)) (.blk b (wrList c off new) e ex :: R) fun rs => K (.mem (fun g => evOp E (Opd fr) (base + i) g o) e' :: rs)) : ROC E call ops base i o rest fr L K :=
  ro_mem (by unfold callOf; rw [hop]) hw fun σ r ho => by
    subst hP
    have h1 : Own E σ (.blk b c e ex :: r :: R) := (ho.tail.perm (hs.perm.cons r)).perm (List.Perm.swap _ _ _)
    have hg := h1.get .head
    have hlen : new.length = m * sz := by rw [← hnew, List.length_take, List.length_drop]; omega
    have hmin : Nat.min sn dn = m := hm
    have hms : m ≤ sn := by rw [← hm]; exact Nat.min_le_left _ _
    have hrd : rdRow E σ.heap.get sz m (.slice (some ⟨b, soff, none⟩) sn sc) = some new := by
      simp only [rdRow, (show m ≠ 0 by omega), if_false, hms, if_true, rd, Option.isSome_none, Bool.false_eq_true, hg.1, hg.2]
      rw [if_pos hsl, hnew]
    have hwr : wr E σ.heap.get ⟨b, off, none⟩ new = some (b, some (.cells (wrList c off new) e ex)) := by
      have hh : ¬ (((⟨b, off, none⟩ : Addr).spot.isSome || decide (b < E.old)) || !new.all oneCell) = true := by simp [hg.1]; simpa using hone
      unfold wr
      rw [if_neg hh]
      simp only [hg.2]
      rw [if_pos (by rw [hlen]; exact hle)]
    refine ⟨⟨.int .i64 m, [(b, some (.cells (wrList c off new) e ex))], [b, b]⟩, _, ?_, (h1.write (c' := wrList c off new)).perm (List.Perm.swap _ _ _), hk _⟩
    unfold evOp
    simp only [hop, hts, List.map_cons, List.map_nil, hx, hy, evBuiltin]
    unfold evCopy
    simp only [List.getElem?_toArray, List.getElem?_cons_zero, Option.bind_some, hel, hsz, lenV, hmin, hrd, (show m ≠ 0 by omega), if_false, hwr, blkOf]
/-- cap of a block that is known to its end. -/
theorem ro_cap {x : Operand} {ts : Array TypeId} {t0 el : TypeId} {b off n cap sz : Nat} {c : List Value} {e : TypeId} (hw : Region.wanted o (yieldA ops fr) = true) (hop : o.op = .call { callee := .builtin .cap, args := #[x], argTypes := ts }) (hts : ts = #[t0]) (hP : E.P = P) (hel : elemT P t0 = some el) (hsz : sizeT P el = some sz)
    (hx : Opd fr x = .slice (some ⟨b, off, none⟩) n cap) (hs : Sel L (.blk b c e true) R)
    (hk : RO E call ops base (i + 1) rest (put fr o.dst (.int .i64 cap)) L fun rs => K (.mem (fun g => evOp E (Opd fr) (base + i) g o) ⟨.int .i64 cap, [], [b]⟩ :: rs)) : ROC E call ops base i o rest fr L K :=
  ro_mem (by unfold callOf; rw [hop]) hw fun σ r ho => by
    subst hP
    have hg := ho.tail.tail.get hs
    refine ⟨⟨.int .i64 cap, [], [b]⟩, L, ?_, ho.tail, hk⟩
    unfold evOp
    simp only [hop, hts, List.map_cons, List.map_nil, hx, evBuiltin]
    unfold evCap
    simp only [List.getElem?_toArray, List.getElem?_cons_zero, Option.bind_some, hel, hsz, opens, hg.1, if_false, hg.2, if_true]
end
end Go.Ab

/- Entries of the table that are shown of the model itself: slices.overlaps, slices.Insert. -/
set_option linter.all false
open Go.RowKit
namespace Go.Ab

theorem ARel.restrict {old : Nat} {μ μf : Mu} {a c1 : Addr} (hk : a.block < old ∨ ∃ p, μ a.block = some p) (h1 : ARel old μf a c1) (hle : Le μ μf) : ARel old μ a c1 := by
  obtain ⟨q1, q2, q3⟩ := h1
  refine ⟨q1, q2, ?_⟩
  rcases q3 with q | ⟨ho, p, hp, r⟩
  · exact .inl q
  · rcases hk with h | ⟨p0, h0⟩
    · omega
    · have := hle _ _ h0
      rw [hp] at this; cases this
      exact .inr ⟨ho, p, h0, r⟩
theorem SRel.known {old : Nat} {μ : Mu} {a c : Addr} {len cap ccap : Nat} (h : SRel old μ a c len cap ccap) : a.block < old ∨ ∃ p, μ a.block = some p := by
  rcases h with ⟨_, _, _, _, h⟩ | ⟨h, _⟩
  · exact h
  · exact h.known
theorem SRel.restrict {old : Nat} {μ μf : Mu} {a c1 : Addr} {len cap ccap : Nat} (hk : a.block < old ∨ ∃ p, μ a.block = some p) (h1 : SRel old μf a c1 len cap ccap) (hle : Le μ μf) : SRel old μ a c1 len cap ccap := by
  rcases h1 with ⟨q1, q2, q3, q4, _⟩ | ⟨ha, h⟩
  · exact .inl ⟨q1, q2, q3, q4, hk⟩
  · refine .inr ⟨ha.restrict hk hle, h.imp id ?_⟩
    rintro ⟨ho, hc, p, hp, r⟩
    rcases hk with h | ⟨p0, h0⟩
    · omega
    · have := hle _ _ h0
      rw [hp] at this; cases this
      exact ⟨ho, hc, p, h0, r⟩
theorem VRel.restrict {old : Nat} {μ μf : Mu} {v v0 : Value} (h0 : VRel old μ v v0) (hle : Le μ μf) : ∀ {v1 : Value}, VRel old μf v v1 → VRel old μ v v1 := by
  induction h0 with
  | flat v h => intro v1 h1; rw [h1.flat_eq h]; exact .flat v h
  | pointer a c h =>
    intro v1 h1
    obtain ⟨c1, rfl, h2⟩ := h1.inv_pointer
    exact .pointer _ _ (ARel.restrict h.known h2 hle)
  | slice a c len cap ccap h =>
    intro v1 h1
    obtain ⟨c1, k1, rfl, h2⟩ := h1.inv_slice
    exact .slice _ _ _ _ _ (SRel.restrict h.known h2 hle)
  | agg xs ys hs hrel ih =>
    intro v1 h1
    cases h1 with
    | flat _ hf => simp [flatS] at hf
    | agg _ zs hs2 h2 =>
      refine .agg xs zs hs2 fun i x z hx hz => ?_
      have hi : i < ys.size := by have := (Array.getElem?_eq_some_iff.1 hx).1; omega
      exact ih i x ys[i] hx (by simp [hi]) (h2 i x z hx hz)
  | tuple xs ys hs hrel ih =>
    intro v1 h1
    cases h1 with
    | flat _ hf => simp [flatS] at hf
    | tuple _ zs hs2 h2 =>
      refine .tuple xs zs hs2 fun i x z hx hz => ?_
      have hi : i < ys.size := by have := (Array.getElem?_eq_some_iff.1 hx).1; omega
      exact ih i x ys[i] hx (by simp [hi]) (h2 i x z hx hz)
  | func fn f1 f2 c1 c2 hs hrel hs' hrel' ih ih' =>
    intro v1 h1
    cases h1 with
    | flat _ hf => simp [flatS] at hf
    | func _ _ g2 _ d2 hs2 h2 hs2' h2' =>
      refine .func fn f1 g2 c1 d2 hs2 (fun i x z hx hz => ?_) hs2' fun i x z hx hz => ?_
      · have hi : i < f2.size := by have := (Array.getElem?_eq_some_iff.1 hx).1; omega
        exact ih i x f2[i] hx (by simp [hi]) (h2 i x z hx hz)
      · have hi : i < c2.size := by have := (Array.getElem?_eq_some_iff.1 hx).1; omega
        exact ih' i x c2[i] hx (by simp [hi]) (h2' i x z hx hz)
theorem BRel.restrict {E : Env} {μ μf : Mu} {p : Pl} {w wf : World} {b : Blk} (h0 : BRel E μ p w b) (hle : Le μ μf) (h1 : BRel E μf p wf b) : BRel E μ p wf b := by
  cases b with
  | cells l e x =>
    obtain ⟨_, _, _, C0, fz0, _, _, _, _, _, g0, _⟩ := h0
    obtain ⟨q1, q2, q3, C, fz, q4, q5, q6, q7, q8, q9, q10⟩ := h1
    refine ⟨q1, q2, q3, C, fz, q4, q5, q6, q7, q8, fun i v hv => ?_, q10⟩
    obtain ⟨v0, _, r0⟩ := g0 i v hv
    obtain ⟨v1, s1, r1⟩ := q9 i v hv
    exact ⟨v1, s1, r0.restrict hle r1⟩
/-- The state told anew: one block struck, one under a new number; what came in between is forgotten. -/
theorem Rel.reab {E : Env} {w0 w wf : World} {μ μf : Mu} {σ σf : St} (hr : Rel E w0 μ σ w) (hf : Rel E w0 μf σf wf) (hle : ∀ k, k < σ.next → μf k = μ k) (A B : Nat) {bB : Blk} (hB : σf.heap.get B = some bB) (hB2 : ∀ k bk, k ≠ A → σ.heap.get k = some bk → B ≠ k)
    (hoth : ∀ k bk, k ≠ A → σ.heap.get k = some bk → σf.heap.get k = some bk) {q pB : Pl} (hpB : μf B = some pB) (hq : q.c = pB.c) {bN : Blk} (hN : BRel E μ q wf bN) :
    Rel E w0 (fun k => if k = σ.next then some q else if k < σ.next then μ k else none) ⟨(σ.heap.set A none).set σ.next (some bN), σ.next + 1⟩ wf := by
  have hL : Le μ μf := fun a p hp => by rw [hle a (hr.dom a p hp).1]; exact hp
  have hL2 : Le μ (fun k => if k = σ.next then some q else if k < σ.next then μ k else none) := fun a p hp => by
    have := (hr.dom a p hp).1
    simp only [show a ≠ σ.next by omega, this, if_false, if_true]; exact hp
  have hget : ∀ k, (((σ.heap.set A none).set σ.next (some bN)).get k) = if k = σ.next then some bN else if k = A then none else σ.heap.get k := fun k => by rw [T.get_set, T.get_set]
  have hlt : ∀ k bk, σ.heap.get k = some bk → k < σ.next := fun k bk h => by
    obtain ⟨p, hp, _⟩ := hr.blk k bk h
    exact (hr.dom k p hp).1
  refine ⟨hf.below, hr.old_le, by have := hr.old_next; simp only; omega, hr.base, ?_, ?_, ?_, ?_⟩
  · intro a p hp
    simp only at hp ⊢
    split at hp
    · rename_i h; subst h; exact ⟨by omega, hr.old_next⟩
    · split at hp
      · have := hr.dom a p hp; exact ⟨by omega, this.2⟩
      · cases hp
  · intro k bk hk
    replace hk : (((σ.heap.set A none).set σ.next (some bN)).get k) = some bk := hk
    rw [hget] at hk
    split at hk
    · rename_i h
      cases hk
      exact ⟨q, by simp [h], hN.mono hL2⟩
    · rename_i h
      split at hk
      · cases hk
      · rename_i hA
        obtain ⟨p, hp, hb⟩ := hr.blk k bk hk
        have hkl := (hr.dom k p hp).1
        obtain ⟨p', hp', hb'⟩ := hf.blk k bk (hoth k bk hA hk)
        rw [hle k hkl, hp] at hp'; cases hp'
        exact ⟨p, by simp [h, hkl, hp], (hb.restrict hL hb').mono hL2⟩
  · intro k p hp
    replace hp : (if k = σ.next then some q else if k < σ.next then μ k else none) = some p := hp
    split at hp
    · cases hp; rw [hq]; exact hf.new B pB hpB
    · split at hp
      · rename_i hkl
        exact hf.new k p (by rw [hle k hkl]; exact hp)
      · cases hp
  · intro k k' bk bk' p p' hk hk' hp hp' hc
    replace hk : (((σ.heap.set A none).set σ.next (some bN)).get k) = some bk := hk
    replace hk' : (((σ.heap.set A none).set σ.next (some bN)).get k') = some bk' := hk'
    replace hp : (if k = σ.next then some q else if k < σ.next then μ k else none) = some p := hp
    replace hp' : (if k' = σ.next then some q else if k' < σ.next then μ k' else none) = some p' := hp'
    rw [hget] at hk hk'
    by_cases h1 : k = σ.next <;> by_cases h2 : k' = σ.next
    · omega
    · simp [h1] at hp; simp [h2] at hk' hp'
      obtain ⟨hkl, hp'⟩ := hp'
      have := hf.inj B k' _ _ pB p' hB (hoth k' bk' hk'.1 hk'.2) hpB (by rw [hle k' hkl]; exact hp') (by rw [← hq, hp]; exact hc)
      exact absurd this (hB2 k' bk' hk'.1 hk'.2)
    · simp [h1] at hk hp; simp [h2] at hp'
      obtain ⟨hkl, hp⟩ := hp
      have := hf.inj k B _ _ p pB (hoth k bk hk.1 hk.2) hB (by rw [hle k hkl]; exact hp) hpB (by rw [hc, ← hp', hq])
      exact absurd this.symm (hB2 k bk hk.1 hk.2)
    · simp [h1] at hk hp; simp [h2] at hk' hp'
      exact hr.inj k k' bk bk' p p' hk.2 hk'.2 hp.2 hp'.2 hc

def isU8 (P : Program) (e : TypeId) : Bool := match P.underlying e with | some (.int .u8) => true | _ => false
theorem isU8_f {P : Program} {e : TypeId} (h : isU8 P e = false) : P.underlying e ≠ some (.int .u8) := by
  intro h2; unfold isU8 at h; rw [h2] at h; cases h
/-- slices.overlaps at two blocks of one's own. -/
def sOv (P : Program) (args : List Value) (σ : St) : Option (Value × St) :=
  match args with
  | [.slice (some a) la _, .slice (some b) lb _] =>
    if a.block = b.block ∨ la = 0 ∨ lb = 0 then none else
    match σ.heap.get a.block, σ.heap.get b.block with
    | some (.cells _ e _), some (.cells cb _ _) => if cb.length = 0 ∨ isU8 P e = true then none else some (.bool false, σ)
    | _, _ => none
  | _ => none
theorem sOv_mono (P : Program) : FnMono (sOv P) := by
  intro args σ v σ' n x hn hlt h
  have hget : ∀ {k : Nat} {b : Blk}, σ.heap.get k = some b → (σ.heap.set n x).get k = some b := fun hk => set_ext hn _ _ hk
  unfold sOv at h ⊢
  split at h
  case h_2 => cases h
  split at h
  · cases h
  rename_i hc
  simp only [if_neg hc]
  split at h
  case h_2 => cases h
  rename_i h1 h2
  simp only [hget h1, hget h2]
  split at h
  · cases h
  rename_i hc
  cases h
  exact ⟨hn, Nat.le_refl _, by rw [if_neg hc]⟩
theorem ov_ok {E : Env} {f : FuncId} {fn : Func} {tS tR el : TypeId} {size : Nat} (hf : E.P.funcs[f]? = some fn) (hname : (fn.name == "runtime.NumGoroutine") = false) (hb : fn.body.isNone = true) (hn : Extern.findNext fn = none) (he : Extern.find fn = some (Extern.SlicesOverlaps.overlaps #[tS, tS] #[tR]))
    (ht : E.P.underlying tS = some (.slice el)) (hz : sizeT E.P el = some size) (hs0 : size ≠ 0) : FnOK E f (sOv E.P) := by
  refine ⟨?_, sOv_mono _⟩
  intro w0 args σ v σ' h
  unfold sOv at h
  split at h
  case h_2 => cases h
  rename_i a la ca b lb cb
  split at h
  · cases h
  rename_i hne
  simp only [not_or] at hne
  obtain ⟨hne, hla, hlb⟩ := hne
  split at h
  case h_2 => cases h
  rename_i l1 e1 x1 l2 e2 x2 h1 h2
  split at h
  · cases h
  rename_i hc
  cases h
  simp only [not_or, Bool.not_eq_true] at hc
  refine .inr ⟨rfl, ⟨fn, hf, by simpa using hb⟩, fun μ w args' hr hl => ?_⟩
  obtain ⟨x, y, hxy, hx, hy⟩ := hl.two
  have hargs : args' = #[x, y] := arr2 hxy
  obtain ⟨c1, k1, rfl, s1⟩ := hx.inv_slice
  obtain ⟨c2, k2, rfl, s2⟩ := hy.inv_slice
  refine ⟨.bool false, ?_, .flat _ rfl⟩
  rw [hargs, run_callFunc_extern hf hname hb hn he]
  have hz' : ∀ w, (sizeOf el).run E.P w = .ok size w := fun w => by
    unfold sizeT at hz
    cases hi : E.P.info? el with
    | none => simp [hi] at hz
    | some i => simp [hi] at hz; simp [sizeOf, typeInfo, hi, hz]
  have key : (Extern.SlicesOverlaps.overlaps #[tS, tS] #[tR] #[.slice (some c1) la k1, .slice (some c2) lb k2]).run E.P w = .ok (.bool false) w := by
    obtain ⟨p1, hp1, _, _, _, C1, fz1, g1, _, _, _, _, _, g7⟩ := hr.blk _ _ h1
    obtain ⟨p2, hp2, q1, _, _, C2, fz2, g2, _, g3, _⟩ := hr.blk _ _ h2
    have hC2 : C2.size ≠ 0 := by have := hc.1; omega
    have a1 := (hr.dom _ _ hp1).2
    have a2 := (hr.dom _ _ hp2).2
    rcases s1 with ⟨z, _⟩ | ⟨⟨_, _, r1⟩, _⟩
    · omega
    rcases s2 with ⟨z, _⟩ | ⟨⟨_, _, r2⟩, _⟩
    · omega
    rcases r1 with ⟨z, _⟩ | ⟨_, p1', hp1', r1, _⟩
    · omega
    rcases r2 with ⟨z, _⟩ | ⟨_, p2', hp2', r2, _⟩
    · omega
    rw [hp1] at hp1'; cases hp1'
    rw [hp2] at hp2'; cases hp2'
    have hcc : c1.block ≠ c2.block := by
      rw [r1, r2]
      intro e
      exact hne (hr.inj _ _ _ _ _ _ h1 h2 hp1 hp2 e)
    have hfz := g7.2 (isU8_f hc.2)
    exact Lib.run_overlaps_apart w tS tR el ht size hz' c1 c2 la k1 lb k2 hcc e1 e2 C1.size C2.size (by simp [World.shape?, r1, g1]) (by simp [World.shape?, r2, g2]) hC2
      (by simp [World.frozen?, r1, g1]; exact fun h => Nat.le_trans hfz h) (by simp [World.frozen?, r1, g1]; exact fun h => Nat.le_trans hfz h)
  rw [key]; rfl
end Go.Ab

/- slices.Insert of one element: an entry of the table. -/
set_option linter.all false
open Go.RowKit
namespace Go.Ab

/-- A block told to its end. -/
theorem Rel.view {E : Env} {w0 w : World} {μ : Mu} {σ : St} (hr : Rel E w0 μ σ w) {a : Nat} {c : List Value} {e : TypeId} {x : Bool} (ha : σ.heap.get a = some (.cells c e x)) {p : Pl} (hp : μ a = some p) :
    ∃ ext : List Value, (∀ v ∈ ext, flatS v = true) ∧ p.st + (c ++ ext).length = p.tot ∧
      Rel E w0 (fun k => if k = σ.next then some ⟨p.c, p.st, (c ++ ext).length, true, p.sz, p.tot⟩ else if k < σ.next then μ k else none) ⟨(σ.heap.set a none).set σ.next (some (.cells (c ++ ext) e true)), σ.next + 1⟩ w := by
  obtain ⟨p', hp', h1, h2, h3, C, fz, h4, h5, h6, h7, h8, h9, h10⟩ := hr.blk _ _ ha
  rw [hp] at hp'; cases hp'
  have hfl : ∀ v ∈ C.toList.drop (p.st + p.n), flatS v = true := by
    intro v hv
    obtain ⟨i, hi⟩ := List.getElem?_of_mem hv
    rw [List.getElem?_drop] at hi
    cases x with
    | false => exact h10.1 (p.st + p.n + i) v rfl (by omega) (by simpa using hi)
    | true =>
      have := (List.getElem?_eq_some_iff.1 hi).1
      have h7' := h7 rfl
      simp at this; omega
  have hlen : p.st + (c ++ C.toList.drop (p.st + p.n)).length = p.tot := by
    have hcs : C.toList.length = C.size := Array.length_toList
    simp only [List.length_append, List.length_drop]; omega
  refine ⟨C.toList.drop (p.st + p.n), hfl, hlen, ?_⟩
  refine hr.reab hr (fun _ _ => rfl) a a ha (fun k bk hk _ h => hk h.symm) (fun k bk _ h => h) (q := ⟨p.c, p.st, (c ++ C.toList.drop (p.st + p.n)).length, true, p.sz, p.tot⟩) hp rfl ?_
  refine ⟨rfl, rfl, (fun h => by cases h), C, fz, h4, h5, by simp only; omega, fun _ => by simp only; omega, h8, fun i v hv => ?_, (fun j v h => by cases h), h10.2⟩
  simp only
  by_cases hi : i < c.length
  · rw [List.getElem?_append_left hi] at hv
    exact h9 i v hv
  · rw [List.getElem?_append_right (by omega), List.getElem?_drop] at hv
    have he : C[p.st + i]? = some v := by
      rw [← hv, Array.getElem?_toList]; congr 1; omega
    exact ⟨v, he, .flat _ (hfl v (by rw [List.mem_iff_getElem?]; exact ⟨i - c.length, by rw [List.getElem?_drop]; exact hv⟩))⟩

/-- Cells with an element put in, where there is room. -/
def insC (sz : Nat) (c new : List Value) (off n i : Nat) : List Value :=
  c.take (off + i * sz) ++ (new ++ ((c.drop (off + i * sz)).take ((n - i) * sz) ++ c.drop (off + (n + 1) * sz)))
/-- .. and where there is none. -/
def insG (sz : Nat) (c new : List Value) (off n i : Nat) : List Value :=
  (c.drop off).take (i * sz) ++ (new ++ (c.drop (off + i * sz)).take ((n - i) * sz))
theorem insC_len {sz : Nat} {c new : List Value} {off n i : Nat} (hn : new.length = sz) (hi : i ≤ n) (hl : off + (n + 1) * sz ≤ c.length) : (insC sz c new off n i).length = c.length := by
  have e1 : n * sz = i * sz + (n - i) * sz := by rw [← Nat.add_mul]; congr 1; omega
  have e2 : (n + 1) * sz = n * sz + sz := Nat.succ_mul _ _
  simp only [insC, List.length_append, List.length_take, List.length_drop, hn]
  omega
theorem insC_app {sz : Nat} {c new ext : List Value} {off n i : Nat} (hi : i ≤ n) (hl : off + (n + 1) * sz ≤ c.length) : insC sz (c ++ ext) new off n i = insC sz c new off n i ++ ext := by
  have e1 : n * sz = i * sz + (n - i) * sz := by rw [← Nat.add_mul]; congr 1; omega
  have e2 : (n + 1) * sz = n * sz + sz := Nat.succ_mul _ _
  unfold insC
  rw [List.take_append_of_le_length (by omega), List.drop_append_of_le_length (by omega), List.drop_append_of_le_length (by omega), List.take_append_of_le_length (by rw [List.length_drop]; omega)]
  simp only [List.append_assoc]
theorem insC_mem {sz : Nat} {c new : List Value} {off n i : Nat} {v : Value} (h : v ∈ insC sz c new off n i) : v ∈ c ∨ v ∈ new := by
  simp only [insC, List.mem_append] at h
  rcases h with h | h | h | h
  · exact .inl (List.mem_of_mem_take h)
  · exact .inr h
  · exact .inl (List.mem_of_mem_drop (List.mem_of_mem_take h))
  · exact .inl (List.mem_of_mem_drop h)
theorem insG_mem {sz : Nat} {c new : List Value} {off n i : Nat} {v : Value} (h : v ∈ insG sz c new off n i) : v ∈ c ∨ v ∈ new := by
  simp only [insG, List.mem_append] at h
  rcases h with h | h | h
  · exact .inl (List.mem_of_mem_drop (List.mem_of_mem_take h))
  · exact .inr h
  · exact .inl (List.mem_of_mem_drop (List.mem_of_mem_take h))

theorem insG_len {sz : Nat} {c new : List Value} {off n i : Nat} (hn : new.length = sz) (hi : i ≤ n) (hl : off + n * sz ≤ c.length) : (insG sz c new off n i).length = (n + 1) * sz := by
  have e1 : n * sz = i * sz + (n - i) * sz := by rw [← Nat.add_mul]; congr 1; omega
  have e2 : (n + 1) * sz = n * sz + sz := Nat.succ_mul _ _
  simp only [insG, List.length_append, List.length_take, List.length_drop, hn]
  omega
theorem insG_app {sz : Nat} {c new ext : List Value} {off n i : Nat} (hi : i ≤ n) (hl : off + n * sz ≤ c.length) : insG sz (c ++ ext) new off n i = insG sz c new off n i := by
  have e1 : n * sz = i * sz + (n - i) * sz := by rw [← Nat.add_mul]; congr 1; omega
  unfold insG
  rw [List.drop_append_of_le_length (by omega), List.take_append_of_le_length (by rw [List.length_drop]; omega), List.drop_append_of_le_length (by omega), List.take_append_of_le_length (by rw [List.length_drop]; omega)]
theorem insC_split {sz : Nat} {c new : List Value} {off n i : Nat} : insC sz c new off n i = c.take off ++ (insG sz c new off n i ++ c.drop (off + (n + 1) * sz)) := by
  unfold insC insG
  rw [List.take_add]
  simp only [List.append_assoc]
theorem BRel.part {E : Env} {μ μf : Mu} {pl : Pl} {wf : World} {D pre mid post : List Value} {e : TypeId} {xD x' : Bool} {sz : Nat} (h : BRel E μf pl wf (.cells D e xD)) (hD : D = pre ++ (mid ++ post)) (hk : ∀ z ∈ mid, ∃ z0, VRel E.old μ z z0) (hle : Le μ μf) (hfl : x' = false → ∀ z ∈ post, flatS z = true)
    (hx : x' = true → post = [] ∧ xD = true) (hsz : x' = false → sizeT E.P e = some sz) : BRel E μ ⟨pl.c, pl.st + pre.length, mid.length, x', sz, pl.tot⟩ wf (.cells mid e x') := by
  subst hD
  obtain ⟨h1, h2, h3, C, fz, h4, h5, h6, h7, h8, h9, h10⟩ := h
  simp only [List.length_append] at h1
  refine ⟨rfl, rfl, hsz, C, fz, h4, h5, by simp only; omega, fun hx' => ?_, h8, fun i v hv => ?_, fun j v hx' hj hv => ?_, h10.2⟩
  · obtain ⟨rfl, hxD⟩ := hx hx'
    have := h7 hxD
    simp only [List.length_nil] at h1 ⊢; omega
  · have hi := (List.getElem?_eq_some_iff.1 hv).1
    obtain ⟨v', q1, q2⟩ := h9 (pre.length + i) v (by rw [List.getElem?_append_right (by omega), Nat.add_sub_cancel_left, List.getElem?_append_left hi]; exact hv)
    obtain ⟨z0, hz⟩ := hk v (List.mem_of_getElem? hv)
    exact ⟨v', by rw [← q1]; congr 1; simp only; omega, hz.restrict hle q2⟩
  · simp only at hj
    by_cases hj2 : j < pl.st + pl.n
    · have hlt : j - pl.st - pre.length - mid.length < post.length := by omega
      obtain ⟨v', q1, q2⟩ := h9 (j - pl.st) post[j - pl.st - pre.length - mid.length] (by
        rw [List.getElem?_append_right (by omega), List.getElem?_append_right (by omega), List.getElem?_eq_getElem hlt])
      rw [show pl.st + (j - pl.st) = j by omega, hv] at q1
      cases q1
      have hf := hfl hx' _ (List.getElem_mem hlt)
      rw [q2.flat_eq hf]; exact hf
    · cases xD with
      | false => exact h10.1 j v rfl (by omega) hv
      | true =>
        have := h7 rfl
        have := (Array.getElem?_eq_some_iff.1 hv).1
        omega

/-- slices.Insert of one element of one's own. -/
def sIns (P : Program) (el : TypeId) (sz : Nat) (args : List Value) (σ : St) : Option (Value × St) :=
  match args with
  | [.slice (some a) n cap, .int .i64 i, .slice (some v) m vc] =>
    match σ.heap.get v.block, σ.heap.get a.block with
    | some (.cells cv ev true), some (.cells c e x) =>
      if v.spot.isSome = true ∨ cv.length < v.off + sz ∨ isU8 P ev = true ∨ m ≠ 1 ∨ vc = 0 ∨ i < 0 ∨ (n : Int) < i ∨ 1000000 < n ∨ cv.all oneCell = false ∨ e ≠ el ∨ a.block = v.block ∨ c.length < a.off + cap * sz ∨ (x = false ∧ c.length ≠ a.off + cap * sz) ∨ cap < n ∨ cap = 0 ∨ ((c.drop a.off).take (n * sz)).all oneCell = false then none else
      if n + 1 ≤ cap then
        some (.slice (some ⟨σ.next, a.off, none⟩) (n + 1) cap, ⟨(σ.heap.set a.block none).set σ.next (some (.cells (insC sz c ((cv.drop v.off).take sz) a.off n i.toNat) el x)), σ.next + 1⟩)
      else
        some (.slice (some ⟨σ.next, 0, none⟩) (n + 1) (n + 1), ⟨(σ.heap.set a.block none).set σ.next (some (.cells (insG sz c ((cv.drop v.off).take sz) a.off n i.toNat) el false)), σ.next + 1⟩)
    | _, _ => none
  | [.slice none 0 0, .int .i64 0, .slice (some v) m vc] =>
    match σ.heap.get v.block with
    | some (.cells cv ev true) =>
      if v.spot.isSome = true ∨ cv.length < v.off + sz ∨ m ≠ 1 ∨ vc = 0 ∨ cv.all oneCell = false then none else
        some (.slice (some ⟨σ.next, 0, none⟩) 1 1, ⟨(σ.heap.set σ.next none).set σ.next (some (.cells ((cv.drop v.off).take sz) el false)), σ.next + 1⟩)
    | _ => none
  | _ => none

theorem sIns_mono (P : Program) (el : TypeId) (sz : Nat) : FnMono (sIns P el sz) := by
  intro args σ v σ' n x hn hlt h
  have hget : ∀ {k : Nat} {b : Blk}, σ.heap.get k = some b → (σ.heap.set n x).get k = some b := fun hk => set_ext hn _ _ hk
  have hne : ∀ {k : Nat} {b : Blk}, σ.heap.get k = some b → n ≠ k := fun hk e => by subst e; rw [hn] at hk; cases hk
  have fin : ∀ {k : Nat} {y z : Option Blk}, n ≠ k → ((σ.heap.set k y).set σ.next z).get n = none ∧ ((σ.heap.set n x).set k y).set σ.next z = ((σ.heap.set k y).set σ.next z).set n x := by
    intro k y z hk
    refine ⟨by rw [T.get_set_ne _ _ _ _ (by omega), T.get_set_ne _ _ _ _ hk]; exact hn, ?_⟩
    rw [T.set_comm _ n k x y hk, T.set_comm _ n σ.next x z (by omega)]
  unfold sIns at h ⊢
  split at h
  · rename_i a m cap i vv m' vc
    split at h
    case h_2 => cases h
    rename_i cv ev c e xx hcv hca
    simp only [hget hcv, hget hca]
    split at h
    · cases h
    · rename_i hc
      rw [if_neg hc]
      split at h
      · rename_i hle
        rw [if_pos hle]
        cases h
        exact ⟨(fin (hne hca)).1, by simp only; omega, by rw [(fin (hne hca)).2]⟩
      · rename_i hle
        rw [if_neg hle]
        cases h
        exact ⟨(fin (hne hca)).1, by simp only; omega, by rw [(fin (hne hca)).2]⟩
  · rename_i vv m' vc
    split at h
    case h_2 => cases h
    rename_i cv ev hcv
    simp only [hget hcv]
    split at h
    · cases h
    · rename_i hc
      rw [if_neg hc]
      cases h
      have hk : n ≠ σ.next := by omega
      exact ⟨(fin hk).1, by simp only; omega, by rw [(fin hk).2]⟩
  · cases h
end Go.Ab

/- slices.Insert: the entry is right, if the code's walks are. -/
set_option linter.all false
open Go.RowKit
namespace Go.Ab

/-- What a walk of Insert's code must show, at blocks known to their end. -/
def InsWalk (P : Program) (pairs : FuncId → Nat → List (Nat × Nat)) (t : Tbl) (k d : Nat) (f : FuncId) (el : TypeId) (sz : Nat) : Prop :=
  ∀ (E : Env), E.P = P → E.pairs = pairs → ∀ (R : List Res) (Q : Value → St → Prop) (nx vb : Nat) (X cv : List Value) (ev : TypeId) (off n ck i voff vc : Nat),
    ((X.drop off).take (n * sz)).all oneCell = true → cv.all oneCell = true → i ≤ n → n ≤ ck → 0 < ck → off + ck * sz ≤ X.length → voff + sz ≤ cv.length → 0 < vc → isU8 P ev = false → n ≤ 1000000 →
    (n + 1 ≤ ck → O E (.blk nx (insC sz X ((cv.drop voff).take sz) off n i) el true :: .blk vb cv ev true :: R) (Q (.slice (some ⟨nx, off, none⟩) (n + 1) ck))) →
    (ck = n → ∀ b, O E (.blk b (insG sz X ((cv.drop voff).take sz) off n i) el false :: .blk nx X el true :: .blk vb cv ev true :: R) (Q (.slice (some ⟨b, 0, none⟩) (n + 1) (n + 1)))) →
    O E (.blk nx X el true :: .blk vb cv ev true :: R) fun σ => WCall (evFunT E t k d) f [.slice (some ⟨nx, off, none⟩) n ck, .int .i64 i, .slice (some ⟨vb, voff, none⟩) 1 vc] σ Q

theorem LRel.three {old : Nat} {μ : Mu} {a b c : Value} {l' : List Value} (h : LRel old μ [a, b, c] l') : ∃ x y z, l' = [x, y, z] ∧ VRel old μ a x ∧ VRel old μ b y ∧ VRel old μ c z := by
  match l', h with
  | [x, y, z], h => exact ⟨x, y, z, rfl, h.2 0 _ _ rfl rfl, h.2 1 _ _ rfl rfl, h.2 2 _ _ rfl rfl⟩
  | [], h => simp [LRel] at h
  | [_], h => simp [LRel] at h
  | [_, _], h => simp [LRel] at h
  | _ :: _ :: _ :: _ :: _, h => simp [LRel] at h
theorem LRel.mk3 {old : Nat} {μ : Mu} {a b c x y z : Value} (h1 : VRel old μ a x) (h2 : VRel old μ b y) (h3 : VRel old μ c z) : LRel old μ [a, b, c] [x, y, z] :=
  ⟨rfl, fun i u v hu hv => by
    match i, hu, hv with
    | 0, hu, hv => cases hu; cases hv; exact h1
    | 1, hu, hv => cases hu; cases hv; exact h2
    | 2, hu, hv => cases hu; cases hv; exact h3
    | i + 3, hu, hv => simp at hu⟩
theorem slice_blk {a b : Addr} {n c n' c' : Nat} (h : Value.slice (some a) n c = .slice (some b) n' c') : a.block = b.block := by cases h; rfl
theorem list3 {a : Array Value} {x y z : Value} (h : a.toList = [x, y, z]) : a = #[x, y, z] := by apply Array.ext'; simp [h]

theorem Rel.to {E E' : Env} (h1 : E'.P = E.P) (h2 : E'.old = E.old) (h3 : E'.base = E.base) {w0 w : World} {μ : Mu} {σ : St} (h : Rel E w0 μ σ w) : Rel E' w0 μ σ w := by
  refine ⟨h.below, by rw [h2]; exact h.old_le, by rw [h2]; exact h.old_next, by rw [h2, h3]; exact h.base, by rw [h2]; exact h.dom, fun a b hb => ?_, h.new, h.inj⟩
  obtain ⟨p, hp, hb⟩ := h.blk a b hb
  refine ⟨p, hp, ?_⟩
  cases b with
  | cells l e x => unfold BRel at hb ⊢; rw [h1, h2]; exact hb

theorem own2 {E : Env} {w0 w : World} {μ : Mu} {σ : St} (hr : Rel E w0 μ σ w) {a b : Nat} {ca cb : List Value} {ea eb : TypeId} {xa xb : Bool} (ha : σ.heap.get a = some (.cells ca ea xa)) (hb : σ.heap.get b = some (.cells cb eb xb)) (hab : a ≠ b) :
    Own E σ [.blk a ca ea xa, .blk b cb eb xb] := by
  obtain ⟨pa, hpa, _⟩ := hr.blk _ _ ha
  obtain ⟨pb, hpb, _⟩ := hr.blk _ _ hb
  have da := hr.dom _ _ hpa
  have db := hr.dom _ _ hpb
  refine ⟨hr.old_next, by simp [idsL, Res.ids, hab], ?_, ?_⟩
  · intro k hk
    simp [idsL, Res.ids] at hk
    rcases hk with rfl | rfl
    · exact ⟨da.2, da.1⟩
    · exact ⟨db.2, db.1⟩
  · intro r hr
    simp at hr
    rcases hr with rfl | rfl
    · exact ha
    · exact hb
theorem own1 {E : Env} {w0 w : World} {μ : Mu} {σ : St} (hr : Rel E w0 μ σ w) {a : Nat} {ca : List Value} {ea : TypeId} {xa : Bool} (ha : σ.heap.get a = some (.cells ca ea xa)) : Own E σ [.blk a ca ea xa] := by
  obtain ⟨pa, hpa, _⟩ := hr.blk _ _ ha
  have da := hr.dom _ _ hpa
  refine ⟨hr.old_next, by simp [idsL, Res.ids], ?_, ?_⟩
  · intro k hk
    simp [idsL, Res.ids] at hk
    subst hk
    exact ⟨da.2, da.1⟩
  · intro r hr
    simp at hr
    subst hr
    exact ha
theorem own3 {E : Env} {w0 w : World} {μ : Mu} {σ : St} (hr : Rel E w0 μ σ w) {a b c : Nat} {ca cb cc : List Value} {ea eb ec : TypeId} {xa xb xc : Bool} (ha : σ.heap.get a = some (.cells ca ea xa)) (hb : σ.heap.get b = some (.cells cb eb xb)) (hc : σ.heap.get c = some (.cells cc ec xc)) (hab : a ≠ b) (hac : a ≠ c) (hbc : b ≠ c) :
    Own E σ [.blk a ca ea xa, .blk b cb eb xb, .blk c cc ec xc] := by
  obtain ⟨pa, hpa, _⟩ := hr.blk _ _ ha
  obtain ⟨pb, hpb, _⟩ := hr.blk _ _ hb
  obtain ⟨pc, hpc, _⟩ := hr.blk _ _ hc
  have da := hr.dom _ _ hpa
  have db := hr.dom _ _ hpb
  have dc := hr.dom _ _ hpc
  refine ⟨hr.old_next, by simp [idsL, Res.ids, hab, hac, hbc], ?_, ?_⟩
  · intro k hk
    simp [idsL, Res.ids] at hk
    rcases hk with rfl | rfl | rfl
    · exact ⟨da.2, da.1⟩
    · exact ⟨db.2, db.1⟩
    · exact ⟨dc.2, dc.1⟩
  · intro r hr
    simp at hr
    rcases hr with rfl | rfl | rfl
    · exact ha
    · exact hb
    · exact hc

theorem ins_ok {P : Program} {pairs : FuncId → Nat → List (Nat × Nat)} (hm : P.follows .mixedOrders = true) (hp : progOkB P pairs = true) {t : Tbl} (ht : TblOK P t) {f : FuncId} {el : TypeId} {sz k d : Nat} (hsz : sizeT P el = some sz) (h0 : 0 < sz) (hcode : hasCode P f = true)
    (W : InsWalk P pairs t k d f el sz)
    (W0 : ∀ (E : Env), E.P = P → E.pairs = pairs → ∀ (R : List Res) (Q : Value → St → Prop) (vb : Nat) (cv : List Value) (ev : TypeId) (voff vc : Nat), cv.all oneCell = true → voff + sz ≤ cv.length → 0 < vc →
      (∀ b, O E (.blk b ((cv.drop voff).take sz) el false :: .blk vb cv ev true :: R) (Q (.slice (some ⟨b, 0, none⟩) 1 1))) →
      O E (.blk vb cv ev true :: R) fun σ => WCall (evFunT E t k d) f [.slice none 0 0, .int .i64 0, .slice (some ⟨vb, voff, none⟩) 1 vc] σ Q) :
    TblOK P ((f, sIns P el sz) :: t) := by
  intro E hE x hx
  simp only [List.mem_cons] at hx
  rcases hx with rfl | hx
  case inr => exact ht E hE x hx
  refine ⟨?_, sIns_mono _ _ _⟩
  intro w0 args σ v σ' h
  obtain ⟨fn, hfn, hbd⟩ : ∃ fn, P.funcs[f]? = some fn ∧ fn.body.isSome = true := by
    unfold hasCode at hcode
    split at hcode
    · exact ⟨_, by assumption, hcode⟩
    · cases hcode
  obtain ⟨c0, hc0⟩ := Option.isSome_iff_exists.1 hbd
  let E' : Env := ⟨E.P, E.old, E.base, E.sum, pairs⟩
  have hE' : E'.P = P := hE
  have hpo : ProgOk E' := progOk_of (E := E') (by rw [hE']; exact hm) (by rw [hE']; exact hp)
  have hname := (hpo.code f fn c0 (by rw [hE']; exact hfn) hc0).2
  have hhas : ¬ ∃ fn, E'.P.funcs[f]? = some fn ∧ fn.body = none := by
    rintro ⟨fn', q1, q2⟩
    have : fn = fn' := Option.some.inj (hfn.symm.trans (by rw [← hE']; exact q1))
    subst this; rw [q2] at hbd; cases hbd
  have hok := evFunT_ok (E := E') hpo (ht E' hE') k d
  replace h : sIns P el sz args σ = some (v, σ') := h
  unfold sIns at h
  split at h
  · -- a slice that is not nil
    rename_i a n cap i vv m vc
    split at h
    case h_2 => cases h
    rename_i cv ev c e x hcv hca
    split at h
    · cases h
    rename_i hcnd
    simp only [not_or, Bool.not_eq_true, Bool.not_eq_false] at hcnd
    obtain ⟨q1, q2, q3, q4, q5, q6, q7, q8, q9, q10, q11, q12, q13, q14, q15, q16⟩ := hcnd
    obtain rfl : m = 1 := by omega
    obtain rfl : e = el := by
      by_cases h9 : e = el
      · exact h9
      · exact absurd h9 q10
    obtain ⟨iN, rfl⟩ : ∃ iN : Nat, i = (iN : Int) := ⟨i.toNat, by omega⟩
    rw [Int.toNat_natCast] at h
    refine .inl ⟨⟨fn, by rw [hE]; exact hfn, hbd, hname⟩, ?_, fun μ w args' hr hl => ?_⟩
    · split at h <;> (cases h; simp only; omega)
    obtain ⟨s', y, v', hargs, hs, hy, hv⟩ := hl.three
    obtain rfl := list3 hargs
    have hye := hy.flat_eq rfl
    subst hye
    obtain ⟨c1, ck, rfl, s1⟩ := hs.inv_slice
    obtain ⟨p, hpa, b1, b2, b3, C, fz, b4, b5, b6, b7, b8, b9, b10⟩ := hr.blk _ _ hca
    have hda := hr.dom _ _ hpa
    have hs1 := s1
    rcases s1 with ⟨_, z, _⟩ | ⟨⟨r1, r2, r3⟩, hcap⟩
    · exact absurd z q15
    rcases r3 with ⟨z, _⟩ | ⟨_, p', hp', r3, r4⟩
    · exact absurd z (Nat.not_lt.2 hda.2)
    rw [hpa] at hp'; cases hp'
    have hcc : cap ≤ ck ∧ p.st + a.off + ck * sz ≤ p.tot ∧ (ck ≠ cap → x = false) := by
      rcases hcap with rfl | ⟨_, g1, p', hp', g2, g3, g4⟩
      · refine ⟨Nat.le_refl _, by omega, fun h => absurd rfl h⟩
      · rw [hpa] at hp'; cases hp'
        have hx : x = false := by rw [← b2]; exact g2
        have : p.sz = sz := by
          have := b3 hx
          rw [hE, hsz] at this
          exact (Option.some.inj this).symm
        rw [this] at g4
        exact ⟨g1, g4, fun _ => hx⟩
    obtain ⟨hck1, hck2, hck3⟩ := hcc
    clear hcap
    have hr' : Rel E' w0 μ σ w := Rel.to (E := E) (E' := E') rfl rfl rfl hr
    obtain ⟨ext, hext, hlen, hrv⟩ := hr'.view hca hpa
    have hvb : σ.heap.get vv.block = some (.cells cv ev true) := hcv
    have hvlt : vv.block < σ.next := by
      obtain ⟨pv, hpv, _⟩ := hr.blk _ _ hvb
      exact (hr.dom _ _ hpv).1
    have hnv : σ.next ≠ vv.block := by omega
    have gnx : ((σ.heap.set a.block none).set σ.next (some (.cells (c ++ ext) e true))).get σ.next = some (.cells (c ++ ext) e true) := T.get_set_self _ _ _
    have goth : ∀ j, j ≠ σ.next → j ≠ a.block → ((σ.heap.set a.block none).set σ.next (some (.cells (c ++ ext) e true))).get j = σ.heap.get j := fun j h1 h2 => by rw [T.get_set_ne _ _ _ _ h1, T.get_set_ne _ _ _ _ h2]
    have gv := (goth vv.block (Ne.symm hnv) (Ne.symm q11)).trans hvb
    have hcapm : n * sz ≤ cap * sz := Nat.mul_le_mul_right _ (by omega)
    have hXone : (((c ++ ext).drop a.off).take (n * sz)).all oneCell = true := by
      rw [List.drop_append_of_le_length (by omega), List.take_append_of_le_length (by rw [List.length_drop]; omega)]
      exact q16
    have hXlen : a.off + ck * sz ≤ (c ++ ext).length := by omega
    have hw1 := W E' hE' rfl
    have heval := hw1 [] (fun u s => (n + 1 ≤ ck ∧ u = .slice (some ⟨σ.next, a.off, none⟩) (n + 1) ck ∧ Own E' s [.blk σ.next (insC sz (c ++ ext) ((cv.drop vv.off).take sz) a.off n iN) e true, .blk vv.block cv ev true]) ∨ (ck = n ∧ ∃ b, u = .slice (some ⟨b, 0, none⟩) (n + 1) (n + 1) ∧ Own E' s [.blk b (insG sz (c ++ ext) ((cv.drop vv.off).take sz) a.off n iN) e false, .blk σ.next (c ++ ext) e true, .blk vv.block cv ev true]))
      σ.next vv.block (c ++ ext) cv ev a.off n ck iN vv.off vc hXone q9 (by omega) (by omega) (by omega) hXlen (by omega) (by omega) q3 (by omega)
      (fun h s hs => .inl ⟨h, rfl, hs⟩) (fun h b s hs => .inr ⟨h, b, rfl, hs⟩) _ (own2 hrv gnx gv hnv)
    obtain ⟨u, σ2, hev, hres⟩ := heval
    have hfr : ∀ j bj, j ≠ a.block → σ.heap.get j = some bj → σ2.heap.get j = some bj ∧ ∀ bb, u = .slice (some ⟨bb, 0, none⟩) (n + 1) (n + 1) → bb ≠ j := by
      intro j bj hja hj
      by_cases hjv : j = vv.block
      · subst hjv
        rw [hvb] at hj; cases hj
        rcases hres with ⟨_, _, ho⟩ | ⟨_, b, _, ho⟩
        · refine ⟨(ho.get (.tail .head)).2, fun bb hb => ?_⟩
          rename_i hu
          rw [hu] at hb; have := slice_blk hb; simp only at this; rw [← this]; exact hnv
        · refine ⟨(ho.get (.tail (.tail .head))).2, fun bb hb => ?_⟩
          rename_i hu
          rw [hu] at hb; have hbb := slice_blk hb; simp only at hbb; rw [← hbb]
          have := ho.nodup
          simp [idsL, Res.ids] at this
          exact fun e => this.1.2 e
      have hjlt : j < σ.next := by
        obtain ⟨pj, hpj, _⟩ := hr.blk _ _ hj
        exact (hr.dom _ _ hpj).1
      cases bj with
      | cells cj ej xj =>
        have gj := (goth j (by omega) hja).trans hj
        obtain ⟨u', σ3, hev3, h3⟩ := hw1 [.blk j cj ej xj] (fun u s => s.heap.get j = some (.cells cj ej xj) ∧ ∀ bb, u = .slice (some ⟨bb, 0, none⟩) (n + 1) (n + 1) → bb ≠ j) σ.next vv.block (c ++ ext) cv ev a.off n ck iN vv.off vc hXone q9 (by omega) (by omega) (by omega) hXlen (by omega) (by omega) q3 (by omega)
          (fun h s hs => ⟨(hs.get (.tail (.tail .head))).2, fun bb hb => by have := slice_blk hb; simp only at this; omega⟩) (fun h b s hs => ⟨(hs.get (.tail (.tail (.tail .head)))).2, fun bb hb => by
            have hbb := slice_blk hb; simp only at hbb; rw [← hbb]
            have := hs.nodup
            simp [idsL, Res.ids] at this
            exact fun e => this.1.2.2 e⟩) _ (own3 hrv gnx gv gj hnv (by omega) (fun h => hjv h.symm))
        rw [hev] at hev3
        cases hev3
        exact h3
    have hvm : ∀ z ∈ c, ∃ z0, VRel E.old μ z z0 := fun z hz => by
      obtain ⟨j, hj⟩ := List.getElem?_of_mem hz
      obtain ⟨z0, _, h2⟩ := b9 j z hj
      exact ⟨z0, h2⟩
    have hvm2 : ∀ z ∈ (cv.drop vv.off).take sz, ∃ z0, VRel E.old μ z z0 := fun z hz => by
      obtain ⟨pv, _, _, _, _, Cv, fv, _, _, _, _, _, g9, _⟩ := hr.blk _ _ hvb
      obtain ⟨j, hj⟩ := List.getElem?_of_mem (List.mem_of_mem_drop (List.mem_of_mem_take hz))
      obtain ⟨z0, _, h2⟩ := g9 j z hj
      exact ⟨z0, h2⟩
    have hlv : LRel E'.old (fun k => if k = σ.next then some ⟨p.c, p.st, (c ++ ext).length, true, p.sz, p.tot⟩ else if k < σ.next then μ k else none) [.slice (some ⟨σ.next, a.off, none⟩) n ck, .int .i64 (iN : Int), .slice (some ⟨vv.block, vv.off, none⟩) 1 vc] (#[.slice (some c1) n ck, .int .i64 (iN : Int), v'] : Array Value).toList := by
      have hle : Le μ (fun k => if k = σ.next then some ⟨p.c, p.st, (c ++ ext).length, true, p.sz, p.tot⟩ else if k < σ.next then μ k else none) := fun j pj hj => by
        have := (hr.dom j pj hj).1
        simp only [show j ≠ σ.next by omega, this, if_false, if_true]; exact hj
      refine .mk3 (.slice _ _ _ _ _ (.inr ⟨⟨rfl, r2, .inr ⟨hr.old_next, _, if_pos rfl, r3, r4⟩⟩, .inl rfl⟩)) (.flat _ rfl) ?_
      have e1 : (⟨vv.block, vv.off, none⟩ : Addr) = vv := by
        cases vv with
        | mk b o s => simp at q1; simp [q1]
      rw [e1]
      exact hv.mono hle
    rcases hok.ok w0 f _ _ u σ2 hev with ⟨_, _, hsound⟩ | hbad
    case inr => exact absurd hbad.2.1 hhas
    have hC := hsound _ w #[.slice (some c1) n ck, .int .i64 (iN : Int), v'] hrv hlv
    change Calls E'.P f _ w _
    refine hC.mono ?_
    rintro e0 w' ⟨uf, μ', rfl, hur, hr2, hag⟩
    have hr2E : Rel E w0 μ' σ2 w' := Rel.to (E := E') (E' := E) rfl rfl rfl hr2
    have hagE : ∀ j, j < σ.next → μ' j = μ j := fun j hj => by
      rw [hag j (by simp only; omega)]
      simp only [show j ≠ σ.next by omega, hj, if_false, if_true]
    have hleF : Le μ μ' := fun j pj hj => by rw [hagE j (hr.dom j pj hj).1]; exact hj
    have hnl : ((cv.drop vv.off).take sz).length = sz := by rw [List.length_take, List.length_drop]; omega
    have hszE : sizeT E.P e = some sz := by rw [hE]; exact hsz
    have hmG : ∀ z ∈ insG sz c ((cv.drop vv.off).take sz) a.off n iN, ∃ z0, VRel E.old μ z z0 := fun z hz => (insG_mem hz).elim (hvm z) (hvm2 z)
    have hmC : ∀ z ∈ insC sz c ((cv.drop vv.off).take sz) a.off n iN, ∃ z0, VRel E.old μ z z0 := fun z hz => (insC_mem hz).elim (hvm z) (hvm2 z)
    have hcapn : cap * sz = n * sz + (cap - n) * sz := by rw [← Nat.add_mul]; congr 1; omega
    have hn1 : (n + 1) * sz = n * sz + sz := Nat.succ_mul _ _
    have hnxt : ∀ k bk, k ≠ a.block → σ.heap.get k = some bk → σ.next ≠ k := fun k bk _ hk => by
      obtain ⟨pk, hpk, _⟩ := hr.blk _ _ hk
      have := (hr.dom _ _ hpk).1; omega
    rcases hres with ⟨hroom, rfl, ho⟩ | ⟨hfull, b, rfl, ho⟩
    · have hgB := (ho.get .head).2
      obtain ⟨p3, hp3, hb3⟩ := hr2E.blk _ _ hgB
      have hp3' := hag σ.next (by simp only; omega)
      rw [hp3] at hp3'
      simp only [if_true, Option.some.injEq] at hp3'
      subst hp3'
      obtain ⟨c3, k3, rfl, s3⟩ := hur.inv_slice
      rcases s3 with ⟨z, _⟩ | ⟨⟨_, t2, t3⟩, hk3⟩
      · omega
      rcases t3 with ⟨z, _⟩ | ⟨_, p4, hp4, t3, t4⟩
      · exact absurd z (Nat.not_lt.2 hr.old_next)
      rw [hp3] at hp4; cases hp4
      obtain rfl : ck = k3 := by
        rcases hk3 with h | ⟨_, _, p4, hp4, h, _⟩
        · exact h.symm
        · rw [hp3] at hp4; cases hp4; cases h
      clear hk3
      simp only at t3 t4
      by_cases hnc : n + 1 ≤ cap
      · rw [if_pos hnc] at h
        cases h
        have hmul : (n + 1) * sz ≤ cap * sz := Nat.mul_le_mul_right _ hnc
        have hbn := hb3.part (x' := x) (sz := sz) (pre := []) (mid := insC sz c ((cv.drop vv.off).take sz) a.off n iN) (post := ext) (by rw [insC_app (by omega) (by omega)]; rfl) hmC hleF (fun _ => hext) (fun hx => ⟨by
          have := b7 hx
          have : ext.length = 0 := by rw [List.length_append] at hlen; omega
          exact List.length_eq_zero_iff.1 this, rfl⟩) (fun _ => hszE)
        have hlenC := insC_len (c := c) hnl (by omega : iN ≤ n) (off := a.off) (by omega)
        refine ⟨_, _, rfl, ?_, hr.reab hr2E hagE a.block σ.next hgB hnxt (fun k bk h1 h2 => (hfr k bk h1 h2).1) (q := ⟨p.c, p.st + ([] : List Value).length, (insC sz c ((cv.drop vv.off).take sz) a.off n iN).length, x, sz, p.tot⟩) hp3 rfl hbn, fun j hj => by simp only [show j ≠ σ.next by omega, hj, if_false, if_true]⟩
        refine .slice _ _ _ _ _ (.inr ⟨⟨rfl, t2, .inr ⟨hr.old_next, _, if_pos rfl, t3, by simp only [List.length_nil]; omega⟩⟩, ?_⟩)
        by_cases hkc : ck = cap
        · exact .inl hkc
        · have hxf := hck3 hkc
          have hcl : c.length = a.off + cap * sz := by
            by_cases h9 : c.length = a.off + cap * sz
            · exact h9
            · exact absurd ⟨hxf, h9⟩ q13
          exact .inr ⟨hr.old_next, hck1, _, if_pos rfl, hxf, by simp only; omega, by simp only [List.length_nil]; omega⟩
      · rw [if_neg hnc] at h
        cases h
        obtain rfl : cap = n := by omega
        have hxf := hck3 (by omega)
        have hcl : c.length = a.off + cap * sz := by
          by_cases h9 : c.length = a.off + cap * sz
          · exact h9
          · exact absurd ⟨hxf, h9⟩ q13
        have hbn := hb3.part (x' := false) (sz := sz) (pre := (c ++ ext).take a.off) (mid := insG sz c ((cv.drop vv.off).take sz) a.off cap iN) (post := (c ++ ext).drop (a.off + (cap + 1) * sz)) (by rw [insC_split, insG_app (by omega) (by omega)]) hmG hleF (fun _ z hz => by
            rw [List.drop_append, List.drop_eq_nil_of_le (by omega), List.nil_append] at hz
            exact hext z (List.mem_of_mem_drop hz)) (fun h => by cases h) (fun _ => hszE)
        have hlenG := insG_len (c := c) hnl (by omega : iN ≤ cap) (off := a.off) (by omega)
        have hpre : ((c ++ ext).take a.off).length = a.off := by rw [List.length_take, List.length_append]; omega
        refine ⟨_, _, rfl, ?_, hr.reab hr2E hagE a.block σ.next hgB hnxt (fun k bk h1 h2 => (hfr k bk h1 h2).1) (q := ⟨p.c, p.st + ((c ++ ext).take a.off).length, (insG sz c ((cv.drop vv.off).take sz) a.off cap iN).length, false, sz, p.tot⟩) hp3 rfl hbn, fun j hj => by simp only [show j ≠ σ.next by omega, hj, if_false, if_true]⟩
        exact .slice _ _ _ _ _ (.inr ⟨⟨rfl, t2, .inr ⟨hr.old_next, _, if_pos rfl, t3, by simp only [hpre]; omega⟩⟩, .inr ⟨hr.old_next, hroom, _, if_pos rfl, rfl, by simp only; omega, by simp only [hpre]; omega⟩⟩)
    · have hgB := (ho.get .head).2
      obtain ⟨p3, hp3, hb3⟩ := hr2E.blk _ _ hgB
      have hncap : ¬ n + 1 ≤ cap := by omega
      rw [if_neg hncap] at h
      cases h
      obtain rfl : cap = n := by omega
      obtain ⟨c3, k3, rfl, s3⟩ := hur.inv_slice
      have hd3 := hr2E.dom _ _ hp3
      rcases s3 with ⟨z, _⟩ | ⟨⟨_, t2, t3⟩, hk3⟩
      · omega
      rcases t3 with ⟨z, _⟩ | ⟨_, p4, hp4, t3, t4⟩
      · exact absurd z (Nat.not_lt.2 hd3.2)
      rw [hp3] at hp4; cases hp4
      simp only at t4
      have hlenG := insG_len (c := c) hnl (by omega : iN ≤ cap) (off := a.off) (by omega)
      have hbn := hb3.part (x' := false) (sz := sz) (pre := []) (mid := insG sz c ((cv.drop vv.off).take sz) a.off cap iN) (post := []) (by rw [insG_app (by omega) (by omega), List.append_nil, List.nil_append]) hmG hleF (fun _ z hz => by cases hz) (fun h => by cases h) (fun _ => hszE)
      have hk3' : cap + 1 ≤ k3 ∧ (k3 ≠ cap + 1 → p3.st + k3 * sz ≤ p3.tot) := by
        rcases hk3 with h | ⟨_, h, p4, hp4, g1, g2, g3⟩
        · exact ⟨by omega, fun h2 => absurd h h2⟩
        · rw [hp3] at hp4; cases hp4
          obtain ⟨_, u2, u3, _⟩ := hb3
          have := u3 (by rw [← u2])
          rw [hszE] at this
          have : sz = p3.sz := Option.some.inj this
          rw [← this] at g3
          exact ⟨h, fun _ => by simp only at g3; omega⟩
      clear hk3
      refine ⟨_, _, rfl, ?_, hr.reab hr2E hagE a.block b hgB (fun k bk h1 h2 => (hfr k bk h1 h2).2 b rfl) (fun k bk h1 h2 => (hfr k bk h1 h2).1) (q := ⟨p3.c, p3.st + ([] : List Value).length, (insG sz c ((cv.drop vv.off).take sz) a.off cap iN).length, false, sz, p3.tot⟩) hp3 rfl hbn, fun j hj => by simp only [show j ≠ σ.next by omega, hj, if_false, if_true]⟩
      refine .slice _ _ _ _ _ (.inr ⟨⟨rfl, t2, .inr ⟨hr.old_next, _, if_pos rfl, t3, by simp only [List.length_nil]; omega⟩⟩, ?_⟩)
      by_cases hk4 : k3 = cap + 1
      · exact .inl hk4
      · exact .inr ⟨hr.old_next, hk3'.1, _, if_pos rfl, rfl, by simp only; omega, by have := hk3'.2 hk4; simp only [List.length_nil]; omega⟩
  · -- the nil slice
    rename_i vv m vc
    split at h
    case h_2 => cases h
    rename_i cv ev hcv
    split at h
    · cases h
    rename_i hcnd
    simp only [not_or, Bool.not_eq_true, Bool.not_eq_false] at hcnd
    obtain ⟨q1, q2, q3, q4, q9⟩ := hcnd
    obtain rfl : m = 1 := by omega
    cases h
    refine .inl ⟨⟨fn, by rw [hE]; exact hfn, hbd, hname⟩, by simp only; omega, fun μ w args' hr hl => ?_⟩
    obtain ⟨s', y, v', hargs, hs, hy, hv⟩ := hl.three
    obtain rfl := list3 hargs
    have hye := hy.flat_eq rfl
    subst hye
    have hse := hs.flat_eq rfl
    subst hse
    have hr' : Rel E' w0 μ σ w := Rel.to (E := E) (E' := E') rfl rfl rfl hr
    have hvb : σ.heap.get vv.block = some (.cells cv ev true) := hcv
    have hw1 := W0 E' hE' rfl
    have heval := hw1 [] (fun u s => ∃ b, u = .slice (some ⟨b, 0, none⟩) 1 1 ∧ Own E' s [.blk b ((cv.drop vv.off).take sz) el false, .blk vv.block cv ev true])
      vv.block cv ev vv.off vc q9 (by omega) (by omega) (fun b s hs => ⟨b, rfl, hs⟩) _ (own1 hr' hvb)
    obtain ⟨u, σ2, hev, b, rfl, ho⟩ := heval
    have hfr : ∀ j bj, σ.heap.get j = some bj → σ2.heap.get j = some bj ∧ b ≠ j := by
      intro j bj hj
      by_cases hjv : j = vv.block
      · subst hjv
        rw [hvb] at hj; cases hj
        refine ⟨(ho.get (.tail .head)).2, ?_⟩
        have := ho.nodup
        simp [idsL, Res.ids] at this
        exact this
      cases bj with
      | cells cj ej xj =>
        obtain ⟨u', σ3, hev3, h3⟩ := hw1 [.blk j cj ej xj] (fun u s => s.heap.get j = some (.cells cj ej xj) ∧ ∀ bb, u = .slice (some ⟨bb, 0, none⟩) 1 1 → bb ≠ j) vv.block cv ev vv.off vc q9 (by omega) (by omega)
          (fun b s hs => ⟨(hs.get (.tail (.tail .head))).2, fun bb hb => by
            have hbb := slice_blk hb; simp only at hbb; rw [← hbb]
            have := hs.nodup
            simp [idsL, Res.ids] at this
            exact fun e => this.1.2 e⟩) _ (own2 hr' hvb hj (fun h => hjv h.symm))
        rw [hev] at hev3
        cases hev3
        exact ⟨h3.1, h3.2 b rfl⟩
    have hvm2 : ∀ z ∈ (cv.drop vv.off).take sz, ∃ z0, VRel E.old μ z z0 := fun z hz => by
      obtain ⟨pv, _, _, _, _, Cv, fv, _, _, _, _, _, g9, _⟩ := hr.blk _ _ hvb
      obtain ⟨j, hj⟩ := List.getElem?_of_mem (List.mem_of_mem_drop (List.mem_of_mem_take hz))
      obtain ⟨z0, _, h2⟩ := g9 j z hj
      exact ⟨z0, h2⟩
    have hlv : LRel E'.old μ [.slice none 0 0, .int .i64 0, .slice (some ⟨vv.block, vv.off, none⟩) 1 vc] (#[.slice none 0 0, .int .i64 0, v'] : Array Value).toList := by
      refine .mk3 (.flat _ rfl) (.flat _ rfl) ?_
      have e1 : (⟨vv.block, vv.off, none⟩ : Addr) = vv := by
        cases vv with
        | mk b o s => simp at q1; simp [q1]
      rw [e1]
      exact hv
    rcases hok.ok w0 f _ _ _ σ2 hev with ⟨_, _, hsound⟩ | hbad
    case inr => exact absurd hbad.2.1 hhas
    have hC := hsound _ w #[.slice none 0 0, .int .i64 0, v'] hr' hlv
    change Calls E'.P f _ w _
    refine hC.mono ?_
    rintro e0 w' ⟨uf, μ', rfl, hur, hr2, hag⟩
    have hr2E : Rel E w0 μ' σ2 w' := Rel.to (E := E') (E' := E) rfl rfl rfl hr2
    have hagE : ∀ j, j < σ.next → μ' j = μ j := hag
    have hleF : Le μ μ' := fun j pj hj => by rw [hagE j (hr.dom j pj hj).1]; exact hj
    have hnl : ((cv.drop vv.off).take sz).length = sz := by rw [List.length_take, List.length_drop]; omega
    have hszE : sizeT E.P el = some sz := by rw [hE]; exact hsz
    have hgB := (ho.get .head).2
    obtain ⟨p3, hp3, hb3⟩ := hr2E.blk _ _ hgB
    obtain ⟨c3, k3, rfl, s3⟩ := hur.inv_slice
    have hd3 := hr2E.dom _ _ hp3
    rcases s3 with ⟨z, _⟩ | ⟨⟨_, t2, t3⟩, hk3⟩
    · omega
    rcases t3 with ⟨z, _⟩ | ⟨_, p4, hp4, t3, t4⟩
    · exact absurd z (Nat.not_lt.2 hd3.2)
    rw [hp3] at hp4; cases hp4
    simp only at t4
    have hbn := hb3.part (x' := false) (sz := sz) (pre := []) (mid := (cv.drop vv.off).take sz) (post := []) (by simp) hvm2 hleF (fun _ z hz => by cases hz) (fun h => by cases h) (fun _ => hszE)
    have hk3' : 1 ≤ k3 ∧ (k3 ≠ 1 → p3.st + k3 * sz ≤ p3.tot) := by
      rcases hk3 with h | ⟨_, h, p4, hp4, g1, g2, g3⟩
      · exact ⟨by omega, fun h2 => absurd h h2⟩
      · rw [hp3] at hp4; cases hp4
        obtain ⟨_, u2, u3, _⟩ := hb3
        have := u3 (by rw [← u2])
        rw [hszE] at this
        have : sz = p3.sz := Option.some.inj this
        rw [← this] at g3
        exact ⟨h, fun _ => by simp only at g3; omega⟩
    clear hk3
    refine ⟨_, _, rfl, ?_, hr.reab hr2E hagE σ.next b hgB (fun k bk h1 h2 => (hfr k bk h2).2) (fun k bk h1 h2 => (hfr k bk h2).1) (q := ⟨p3.c, p3.st + ([] : List Value).length, ((cv.drop vv.off).take sz).length, false, sz, p3.tot⟩) hp3 rfl hbn, fun j hj => by simp only [show j ≠ σ.next by omega, hj, if_false, if_true]⟩
    refine .slice _ _ _ _ _ (.inr ⟨⟨rfl, t2, .inr ⟨hr.old_next, _, if_pos rfl, t3, by simp only [List.length_nil]; omega⟩⟩, ?_⟩)
    by_cases hk4 : k3 = 1
    · exact .inl hk4
    · exact .inr ⟨hr.old_next, hk3'.1, _, if_pos rfl, rfl, by simp only; omega, by have := hk3'.2 hk4; simp only [List.length_nil]; omega⟩
  · cases h
end Go.Ab

/- slices.Insert at a row. -/
set_option linter.all false
open Go.RowKit
namespace Go.Ab

/-- A row with room to it, or the nil slice. -/
def capOk : Value → Prop
  | .slice none 0 0 => True
  | .slice (some _) _ c => c ≠ 0
  | _ => False

theorem insG_row {sz : Nat} {p c j new : List Value} {n i : Nat} (hc : c.length = n * sz) (hi : i ≤ n) : insG sz (p ++ (c ++ j)) new p.length n i = c.take (i * sz) ++ (new ++ c.drop (i * sz)) := by
  have e1 : n * sz = i * sz + (n - i) * sz := by rw [← Nat.add_mul]; congr 1; omega
  unfold insG
  rw [List.drop_left, List.drop_append, List.drop_eq_nil_of_le (by omega), List.nil_append, Nat.add_sub_cancel_left, List.take_append_of_le_length (by omega), List.drop_append_of_le_length (by omega), List.take_append_of_le_length (by rw [List.length_drop]; omega), List.take_of_length_le (l := c.drop (i * sz)) (by rw [List.length_drop]; omega)]
theorem insC_row {sz : Nat} {p c j new : List Value} {n i : Nat} (hc : c.length = n * sz) (hi : i ≤ n) : insC sz (p ++ (c ++ j)) new p.length n i = p ++ ((c.take (i * sz) ++ (new ++ c.drop (i * sz))) ++ j.drop sz) := by
  rw [insC_split, insG_row hc hi, List.take_left]
  congr 2
  rw [List.drop_append, List.drop_eq_nil_of_le (by omega), List.nil_append, Nat.add_sub_cancel_left, Nat.succ_mul, List.drop_append, List.drop_eq_nil_of_le (by omega), List.nil_append]
  congr 1; omega

theorem own_ins {E : Env} {σ : St} {R : List Res} {s : Value} {n i sz vb voff vc : Nat} {c new cv : List Value} {el ev : TypeId} (ho : Own E σ (.row 0 s n c el sz :: .blk vb cv ev true :: R)) (hi : i ≤ n) (hc : capOk s) (hu8 : isU8 E.P ev = false) (hn : n ≤ 1000000) (hv : voff + sz ≤ cv.length) (hvc : 0 < vc)
    (hcv : cv.all oneCell = true) (hco : c.all oneCell = true) (hnew : (cv.drop voff).take sz = new) :
    ∃ s' σ', sIns E.P el sz [s, .int .i64 (i : Int), .slice (some ⟨vb, voff, none⟩) 1 vc] σ = some (s', σ') ∧ capOk s' ∧ Own E σ' (.row 0 s' (n + 1) (c.take (i * sz) ++ (new ++ c.drop (i * sz))) el sz :: .blk vb cv ev true :: R) := by
  subst hnew
  have hvb := (ho.get (.tail .head)).2
  obtain ⟨hlen, hrow⟩ := ho.row .head
  have hb1 := (ho.begin (m := 1)).perm (List.Perm.refl _)
  have hnl : ((cv.drop voff).take sz).length = sz := by rw [List.length_take, List.length_drop]; omega
  have hnd := hb1.nodup
  have e1 : n * sz = i * sz + (n - i) * sz := by rw [← Nat.add_mul]; congr 1; omega
  have e2 : (n + 1) * sz = n * sz + sz := Nat.succ_mul _ _
  rcases hrow with ⟨rfl, rfl⟩ | ⟨b, p, m, j, x, rfl, hj, hg⟩
  · obtain rfl : i = 0 := by omega
    have hc0 : c = [] := List.length_eq_zero_iff.1 (by omega)
    subst hc0
    refine ⟨.slice (some ⟨σ.next, 0, none⟩) 1 1, ⟨(σ.heap.set σ.next none).set σ.next (some (.cells ((cv.drop voff).take sz) el false)), σ.next + 1⟩, ?_, ?_, ?_⟩
    · show sIns E.P el sz [.slice none 0 0, .int .i64 0, .slice (some ⟨vb, voff, none⟩) 1 vc] σ = _
      unfold sIns
      simp only [hvb]
      rw [if_neg (by simp [hcv]; omega)]
    · simp [capOk]
    · refine Own.upd (A := [.rsv σ.next 1, .row 0 (.slice none 0 0) 0 [] el sz]) (A' := [.row 0 (.slice (some ⟨σ.next, 0, none⟩) 1 1) (0 + 1) (([] : List Value).take (0 * sz) ++ ((cv.drop voff).take sz ++ ([] : List Value).drop (0 * sz))) el sz]) (σ := ⟨σ.heap, σ.next + 1⟩) hb1 ?_ ?_ ?_ ?_
      · simp [idsL, Res.ids, rowBlk]
      · intro k hk
        simp [idsL, Res.ids, rowBlk] at hk ⊢
        exact hk
      · intro r hr
        simp only [List.mem_singleton] at hr
        subst hr
        refine ⟨by simp only [Nat.zero_mul, List.take_nil, List.drop_nil, List.nil_append, List.append_nil, hnl]; omega, .inr ⟨σ.next, [], 0, [], false, rfl, by simp, ?_⟩⟩
        rw [T.get_set_self]
        simp
      · intro k hk
        simp [idsL, Res.ids, rowBlk] at hk
        simp only
        rw [T.get_set_ne _ _ _ _ hk, T.get_set_ne _ _ _ _ hk]
  · have hbv : b ≠ vb := by
      have := ho.nodup
      simp [idsL, Res.ids, rowBlk] at this
      exact this.1.1
    have hbn : b < σ.next := (ho.lt b (by simp [idsL, Res.ids, rowBlk])).2
    have hcap : n + m ≠ 0 := hc
    have hnm : (n + m) * sz = n * sz + m * sz := Nat.add_mul _ _ _
    have hcond : ¬ ((⟨vb, voff, none⟩ : Addr).spot.isSome = true ∨ cv.length < voff + sz ∨ isU8 E.P ev = true ∨ 1 ≠ 1 ∨ vc = 0 ∨ (i : Int) < 0 ∨ (n : Int) < (i : Int) ∨ 1000000 < n ∨ cv.all oneCell = false ∨ el ≠ el ∨ b = vb ∨ (p ++ (c ++ j)).length < p.length + (n + m) * sz ∨ (x = false ∧ (p ++ (c ++ j)).length ≠ p.length + (n + m) * sz) ∨ n + m < n ∨ n + m = 0 ∨ (((p ++ (c ++ j)).drop p.length).take (n * sz)).all oneCell = false) := by
      rw [List.drop_left, List.take_append_of_le_length (by omega), List.take_of_length_le (by omega), hco, hcv, hu8]
      simp only [List.length_append, Option.isSome_none, Bool.false_eq_true, Bool.true_eq_false, false_or, or_false, ne_eq, not_true_eq_false]
      omega
    have hupd : ∀ (s' : Value) (c' : List Value) (x' : Bool), rowBlk s' = some σ.next → RowOk E ((σ.heap.set b none).set σ.next (some (.cells c' el x'))).get 0 s' (n + 1) (c.take (i * sz) ++ ((cv.drop voff).take sz ++ c.drop (i * sz))) el sz →
        Own E ⟨(σ.heap.set b none).set σ.next (some (.cells c' el x')), σ.next + 1⟩ (.row 0 s' (n + 1) (c.take (i * sz) ++ ((cv.drop voff).take sz ++ c.drop (i * sz))) el sz :: .blk vb cv ev true :: R) := by
      intro s' c' x' h1 h2
      refine Own.upd (A := [.rsv σ.next 1, .row 0 (.slice (some ⟨b, p.length, none⟩) n (n + m)) n c el sz]) (A' := [.row 0 s' (n + 1) (c.take (i * sz) ++ ((cv.drop voff).take sz ++ c.drop (i * sz))) el sz]) (σ := ⟨σ.heap, σ.next + 1⟩) hb1 ?_ ?_ ?_ ?_
      · simp [idsL, Res.ids, h1]
      · intro k hk
        have hk2 : k = σ.next := by
          simp only [idsL, List.flatMap_cons, List.flatMap_nil, Res.ids, h1, if_true, Option.toList_some, List.append_nil, List.mem_singleton] at hk
          exact hk
        subst hk2
        simp [idsL, Res.ids]
      · intro r hr
        simp only [List.mem_singleton] at hr
        subst hr
        exact h2
      · intro k hk
        simp [idsL, Res.ids, rowBlk] at hk
        simp only
        rw [T.get_set_ne _ _ _ _ hk.1, T.get_set_ne _ _ _ _ hk.2]
    have hcl : (c.take (i * sz) ++ ((cv.drop voff).take sz ++ c.drop (i * sz))).length = (n + 1) * sz := by
      simp only [List.length_append, hnl, List.length_take, List.length_drop]; omega
    by_cases hroom : n + 1 ≤ n + m
    · have hm1 : m * sz = sz + (m - 1) * sz := by
        rw [show m = (m - 1) + 1 by omega, Nat.succ_mul, Nat.add_sub_cancel]; omega
      refine ⟨.slice (some ⟨σ.next, p.length, none⟩) (n + 1) (n + m), ⟨(σ.heap.set b none).set σ.next (some (.cells (p ++ ((c.take (i * sz) ++ ((cv.drop voff).take sz ++ c.drop (i * sz))) ++ j.drop sz)) el x)), σ.next + 1⟩, ?_, ?_, hupd _ _ _ ?_ ⟨hcl, .inr ⟨σ.next, p, m - 1, j.drop sz, x, by rw [show n + 1 + (m - 1) = n + m by omega], by rw [List.length_drop]; omega, T.get_set_self _ _ _⟩⟩⟩
      · unfold sIns
        simp only [hvb, hg]
        rw [if_neg hcond, if_pos hroom, Int.toNat_natCast, insC_row hlen hi]
      · show n + m ≠ 0
        omega
      · rfl
    · have hm0 : m = 0 := by omega
      refine ⟨.slice (some ⟨σ.next, 0, none⟩) (n + 1) (n + 1), ⟨(σ.heap.set b none).set σ.next (some (.cells (c.take (i * sz) ++ ((cv.drop voff).take sz ++ c.drop (i * sz))) el false)), σ.next + 1⟩, ?_, ?_, hupd _ _ _ ?_ ⟨hcl, .inr ⟨σ.next, [], 0, [], false, rfl, by simp, by rw [T.get_set_self]; simp⟩⟩⟩
      · unfold sIns
        simp only [hvb, hg]
        rw [if_neg hcond, if_neg hroom, Int.toNat_natCast, insG_row hlen hi]
      · show n + 1 ≠ 0
        omega
      · rfl

/-- A call of Insert, by its entry. -/
theorem of_ins {E : Env} {P : Program} {k d : Nat} {t : Tbl} {f : FuncId} {L R : List Res} {Q : Value → St → Prop} {s w iv : Value} {n i sz vb voff vc : Nat} {c new cv : List Value} {el ev : TypeId} (hP : E.P = P)
    (hcall : ∀ args σ, WCall (evFunT E t k d) f args σ Q = bindV (sIns P el sz args σ) fun x => Q x.1 x.2)
    (hw : w = .slice (some ⟨vb, voff, none⟩) 1 vc) (hiv : iv = .int .i64 (i : Int)) (hs : ∃ R', Sel L (.row 0 s n c el sz) R' ∧ Sel R' (.blk vb cv ev true) R) (hi : i ≤ n) (hc : capOk s) (hu8 : isU8 P ev = false) (hn : n ≤ 1000000) (hv : voff + sz ≤ cv.length) (hvc : 0 < vc)
    (hcv : cv.all oneCell = true) (hco : c.all oneCell = true) (hnew : (cv.drop voff).take sz = new)
    (hx : ∀ s', capOk s' → O E (.row 0 s' (n + 1) (c.take (i * sz) ++ (new ++ c.drop (i * sz))) el sz :: .blk vb cv ev true :: R) (Q s')) : OFun f E t k d [s, iv, w] L Q := by
  subst hP hw hiv
  obtain ⟨R', h1, h2⟩ := hs
  intro σ ho
  show WCall _ _ _ _ _
  rw [hcall]
  have h3 : Own E σ (.row 0 s n c el sz :: .blk vb cv ev true :: R) := (ho.sel h1).perm (h2.perm.cons _)
  obtain ⟨s', σ', g1, g2, g3⟩ := own_ins h3 hi hc hu8 hn hv hvc hcv hco hnew
  exact ⟨(s', σ'), g1, hx s' g2 σ' g3⟩
/-- A call of overlaps, by its entry. -/
theorem of_ov {E : Env} {P : Program} {k d : Nat} {t : Tbl} {f : FuncId} {L R : List Res} {Q : Value → St → Prop} {a b oa ob la lb ka kb : Nat} {ca cb : List Value} {ea eb : TypeId} {xa xb : Bool} (hP : E.P = P)
    (hcall : ∀ args σ, WCall (evFunT E t k d) f args σ Q = bindV (sOv P args σ) fun x => Q x.1 x.2)
    (hs : ∃ R', Sel L (.blk a ca ea xa) R' ∧ Sel R' (.blk b cb eb xb) R) (hla : la ≠ 0) (hlb : lb ≠ 0) (hcb : cb.length ≠ 0) (hu8 : isU8 P ea = false)
    (hx : O E L (Q (.bool false))) : OFun f E t k d [.slice (some ⟨a, oa, none⟩) la ka, .slice (some ⟨b, ob, none⟩) lb kb] L Q := by
  subst hP
  obtain ⟨R', h1, h2⟩ := hs
  intro σ ho
  show WCall _ _ _ _ _
  rw [hcall]
  have h3 : Own E σ (.blk a ca ea xa :: .blk b cb eb xb :: R) := (ho.sel h1).perm (h2.perm.cons _)
  have hab : a ≠ b := by
    have := h3.nodup
    simp [idsL, Res.ids] at this
    exact this.1.1
  have g1 := (h3.get .head).2
  have g2 := (h3.get (.tail .head)).2
  refine ⟨(.bool false, σ), ?_, hx σ ho⟩
  unfold sOv
  simp only
  rw [if_neg (by simp [hab, hla, hlb])]
  simp only [g1, g2]
  rw [if_neg (by simp [hcb, hu8])]
theorem zeroRow_ln {z : Array Value} {n : Nat} : (zeroRow z n).length = n := by unfold zeroRow; split <;> simp
theorem wrList_ln {c vs : List Value} {q : Nat} : (wrList c q vs).length = min q c.length + (vs.length + (c.length - (q + vs.length))) := by simp [wrList]
theorem wrList_mid {A B C vs : List Value} {q : Nat} (hA : A.length = q) (hB : B.length = vs.length) : wrList (A ++ (B ++ C)) q vs = A ++ (vs ++ C) := by
  subst hA
  unfold wrList
  rw [List.take_left, List.drop_append, List.drop_eq_nil_of_le (by omega), List.nil_append, Nat.add_sub_cancel_left, ← hB, List.drop_left]
theorem insC_end {sz : Nat} {X new : List Value} {off n : Nat} (hn : new.length = sz) : wrList X (off + n * sz) new = insC sz X new off n n := by
  unfold insC wrList
  rw [Nat.sub_self, Nat.zero_mul, List.take_zero, List.nil_append, hn, Nat.succ_mul, Nat.add_assoc]
theorem insG_end {sz : Nat} {X new : List Value} {off n : Nat} : (X.drop off).take (n * sz) ++ new = insG sz X new off n n := by
  unfold insG
  rw [Nat.sub_self, Nat.zero_mul, List.take_zero, List.append_nil]
theorem insG_eq {sz : Nat} {X new Z : List Value} {off n i : Nat} (hi : i < n) (hn : new.length = sz) (hX : off + n * sz ≤ X.length) (hZ : Z.length = (n + 1 - i) * sz) :
    wrList (wrList ((X.drop off).take (i * sz) ++ Z) (i * sz) new) ((i + 1) * sz) ((X.drop (off + i * sz)).take ((n - i) * sz)) = insG sz X new off n i := by
  have e1 : n * sz = i * sz + (n - i) * sz := by rw [← Nat.add_mul]; congr 1; omega
  have e2 : (i + 1) * sz = i * sz + sz := Nat.succ_mul _ _
  have e3 : (n + 1 - i) * sz = sz + (n - i) * sz := by rw [show n + 1 - i = (n - i) + 1 by omega, Nat.succ_mul]; omega
  have hA : ((X.drop off).take (i * sz)).length = i * sz := by rw [List.length_take, List.length_drop]; omega
  have h1 : Z = Z.take sz ++ (Z.drop sz ++ []) := by rw [List.append_nil, List.take_append_drop]
  rw [h1, wrList_mid hA (by rw [List.length_take]; omega), ← List.append_assoc, wrList_mid (by rw [List.length_append]; omega) (by rw [List.length_drop, List.length_take, List.length_drop]; omega)]
  unfold insG
  rw [List.append_nil, List.append_assoc]
theorem insC_eq {sz : Nat} {X new : List Value} {off n i : Nat} (hi : i < n) (hn : new.length = sz) (hX : off + (n + 1) * sz ≤ X.length) :
    wrList (wrList X (off + (i + 1) * sz) ((X.drop (off + i * sz)).take ((n + 1 - (i + 1)) * sz))) (off + i * sz) new = insC sz X new off n i := by
  have e1 : n * sz = i * sz + (n - i) * sz := by rw [← Nat.add_mul]; congr 1; omega
  have e2 : (i + 1) * sz = i * sz + sz := Nat.succ_mul _ _
  have e4 : (n + 1) * sz = n * sz + sz := Nat.succ_mul _ _
  have h0 : n + 1 - (i + 1) = n - i := by omega
  rw [h0]
  have hM : ((X.drop (off + i * sz)).take ((n - i) * sz)).length = (n - i) * sz := by rw [List.length_take, List.length_drop]; omega
  have h1 : wrList X (off + (i + 1) * sz) ((X.drop (off + i * sz)).take ((n - i) * sz)) = X.take (off + i * sz) ++ ((X.drop (off + i * sz)).take sz ++ (((X.drop (off + i * sz)).take ((n - i) * sz)) ++ X.drop (off + (n + 1) * sz))) := by
    unfold wrList
    rw [hM, show off + (i + 1) * sz = off + i * sz + sz by omega, List.take_add, List.append_assoc]
    congr 4; omega
  rw [h1, wrList_mid (by rw [List.length_take]; omega) (by rw [List.length_take, List.length_drop]; omega)]
  rfl
section
variable {E : Env} {call : CallF} {ops : List Oper} {base i : Nat} {o : Oper} {rest : List Oper} {fr fr' : List Value} {L L' R : List Res} {K : List Rec → List Value → St → Prop} {P : Program}
/-- A slice of the nil slice. -/
theorem ro_slN {t e' : TypeId} {x : Operand} {lo hi : Option Operand} {n h l : Nat} {vl vh : Option Value} (hw : Region.wanted o (yieldA ops fr) = true) (hop : o.op = .slice t x lo hi none) (hP : E.P = P) (hu : P.underlying t = some (.slice e')) (hz : sizeT P e' = some n)
    (hx : Opd fr x = .slice none 0 0) (hlo : lo.map (Opd fr) = vl) (hhi : hi.map (Opd fr) = vh) (bh : bound? vh 0 0 = some h) (bl : bound? vl 0 0 = some l)
    (hk : RO E call ops base (i + 1) rest (put fr o.dst (.slice none 0 0)) L fun rs => K (.mem (fun g => evOp E (Opd fr) (base + i) g o) ⟨.slice none 0 0, [], []⟩ :: rs)) : ROC E call ops base i o rest fr L K :=
  ro_mem (by unfold callOf; rw [hop]) hw fun σ r ho => by
    subst hP
    refine ⟨⟨.slice none 0 0, [], []⟩, L, ?_, ho.tail, hk⟩
    unfold evOp
    simp only [hop, hx, hlo, hhi, Option.map_none]
    unfold evSlice
    simp only [hu, hz, bh, bl]
/-- append to the nil slice. -/
theorem ro_appN {x y : Operand} {ts : Array TypeId} {t0 t1 el : TypeId} {sz bytes m : Nat} {ys : Value} {new : List Value} (hw : Region.wanted o (yieldA ops fr) = true) (hop : o.op = .call { callee := .builtin .append, args := #[x, y], argTypes := ts }) (hts : ts = #[t0, t1]) (hP : E.P = P) (ht : AppT P t0 t1 el sz bytes)
    (hx : Opd fr x = .slice none 0 0) (hy : Opd fr y = ys) (hsrc : Src E L sz m ys new) (hm : 0 < m) (hfit : m * bytes ≤ 140737488355328) (h63 : m ≤ 9223372036854775807)
    (hk : ∀ b' e', RO E call ops base (i + 1) rest (put fr o.dst (.slice (some ⟨b', 0, none⟩) m m)) (.blk b' new el false :: L) fun rs => K (.mem (fun g => evOp E (Opd fr) (base + i) g o) e' :: rs)) : ROC E call ops base i o rest fr L K :=
  ro_mem (by unfold callOf; rw [hop]) hw fun σ r ho => by
    subst hP
    have h0 : Own E σ (.rsv (base + i) 1 :: r :: L) := ho
    obtain ⟨hylen, hystr, hnew⟩ := hsrc.rd σ h0.tail.tail
    obtain ⟨d, hd1, hd2⟩ := ht.un
    obtain ⟨z, hz1, hz2⟩ := ht.ze
    obtain ⟨ti, hi⟩ : ∃ i, E.P.info? el = some i := by
      have := ht.szT
      unfold sizeT at this
      cases hi : E.P.info? el with
      | none => simp [hi] at this
      | some i => exact ⟨i, rfl⟩
    have hisz : ti.size = sz := by simpa [sizeT, hi] using ht.szT
    subst hisz
    have hby : ti.bytes = bytes := by have := ht.by_; simpa [bytesT, hi] using this
    subst hby
    have hc0 : ¬ (ti.size = 0 ∨ z.size ≠ ti.size ∨ strOk ys ti.size = false) := by
      have := ht.ne
      simp [this, hz2, hystr]
    refine ⟨⟨.slice (some ⟨base + i, 0, none⟩) m m, [(base + i, some (.cells new el false))], blkOf ys⟩, _, ?_, ho.alloc, hk _ _⟩
    unfold evOp
    simp only [hop, hts, List.map_cons, List.map_nil, hx, hy, evBuiltin]
    unfold evAppend
    simp only [List.getElem?_toArray, List.getElem?_cons_zero, List.getElem?_cons_succ, Option.bind_some, ht.elT, hd1, hd2, hi, hz1, hylen, hc0, hnew, Bool.not_true, Bool.false_eq_true, if_false, Nat.zero_add, if_neg (show ¬ m ≤ 0 by omega), if_pos (And.intro hfit h63), and_self, if_true]
end
theorem all_part {X : List Value} {o l a k : Nat} {f : Value → Bool} (h : ((X.drop o).take l).all f = true) (h1 : o ≤ a) (h2 : a + k ≤ o + l) : ((X.drop a).take k).all f = true := by
  rw [List.all_eq_true] at h ⊢
  intro v hv
  obtain ⟨j, hj⟩ := List.mem_iff_getElem?.1 hv
  rw [List.getElem?_take] at hj
  split at hj
  · rw [List.getElem?_drop] at hj
    refine h v (List.mem_iff_getElem?.2 ⟨a - o + j, ?_⟩)
    rw [List.getElem?_take, if_pos (by omega), List.getElem?_drop, ← hj]
    congr 1; omega
  · cases hj
end Go.Ab

/- Deleting within a row: in-place append, clear; rows opened to their blocks. -/
set_option linter.all false
open Go.RowKit
namespace Go.Ab
theorem del_eq {sz n i jj : Nat} {p c j Z : List Value} (hc : c.length = n * sz) (hi : i ≤ jj) (hj : jj ≤ n) (hZ : Z.length = (n - (i + (n - jj))) * sz) :
    wrList (wrList (p ++ (c ++ j)) (p.length + i * sz) (((p ++ (c ++ j)).drop (p.length + jj * sz)).take ((n - jj) * sz))) (p.length + (i + (n - jj)) * sz) Z = p ++ ((c.take (i * sz) ++ c.drop (jj * sz)) ++ (Z ++ j)) := by
  have e1 : n * sz = jj * sz + (n - jj) * sz := by rw [← Nat.add_mul]; congr 1; omega
  have e2 : n * sz = i * sz + (n - i) * sz := by rw [← Nat.add_mul]; congr 1; omega
  have e3 : (n - i) * sz = (n - jj) * sz + (n - (i + (n - jj))) * sz := by rw [← Nat.add_mul]; congr 1; omega
  have e4 : (i + (n - jj)) * sz = i * sz + (n - jj) * sz := Nat.add_mul _ _ _
  have hM : ((p ++ (c ++ j)).drop (p.length + jj * sz)).take ((n - jj) * sz) = c.drop (jj * sz) := by
    rw [List.drop_append, List.drop_eq_nil_of_le (by omega), List.nil_append, Nat.add_sub_cancel_left, List.drop_append_of_le_length (by omega), List.take_append_of_le_length (by rw [List.length_drop]; omega), List.take_of_length_le (by rw [List.length_drop]; omega)]
  rw [hM]
  have hs : p ++ (c ++ j) = (p ++ c.take (i * sz)) ++ (((c.drop (i * sz)).take ((n - jj) * sz)) ++ ((c.drop (i * sz + (n - jj) * sz)) ++ j)) := by
    rw [List.append_assoc]; congr 1
    rw [← List.append_assoc, ← List.append_assoc]; congr 1
    rw [← List.take_add, List.take_append_drop]
  rw [hs, wrList_mid (by rw [List.length_append, List.length_take]; omega) (by rw [List.length_take, List.length_drop, List.length_drop]; omega), ← List.append_assoc, wrList_mid (by rw [List.length_append, List.length_append, List.length_take, List.length_drop]; omega) (by rw [List.length_drop]; omega)]
  simp only [List.append_assoc]
theorem del_end {sz n i : Nat} {p c j Z : List Value} (hc : c.length = n * sz) (hi : i ≤ n) (hZ : Z.length = (n - i) * sz) :
    wrList (p ++ (c ++ j)) (p.length + i * sz) Z = p ++ (c.take (i * sz) ++ (Z ++ j)) := by
  have e2 : n * sz = i * sz + (n - i) * sz := by rw [← Nat.add_mul]; congr 1; omega
  have hs : p ++ (c ++ j) = (p ++ c.take (i * sz)) ++ (c.drop (i * sz) ++ j) := by
    rw [List.append_assoc]; congr 1
    rw [← List.append_assoc, List.take_append_drop]
  rw [hs, wrList_mid (by rw [List.length_append, List.length_take]; omega) (by rw [List.length_drop]; omega), List.append_assoc]
theorem zeroRow_one {z : Array Value} {n : Nat} (h : z.toList.all oneCell = true) : (zeroRow z n).all oneCell = true := by
  rw [List.all_eq_true] at h ⊢
  intro v hv
  unfold zeroRow at hv
  split at hv
  · rename_i h1
    have := (List.mem_replicate.1 hv).2
    subst this
    refine h _ ?_
    rw [Array.getD_eq_getD_getElem?]
    simp [h1]
  · rw [List.mem_map] at hv
    obtain ⟨i, hi, rfl⟩ := hv
    rw [List.mem_range] at hi
    by_cases hz : z.size = 0
    · have : z = #[] := Array.eq_empty_of_size_eq_zero hz
      subst this
      rfl
    · have hlt : i % z.size < z.size := Nat.mod_lt _ (by omega)
      refine h _ ?_
      rw [getElem!_pos z (i % z.size) hlt]
      simp
section
variable {E : Env} {call : CallF} {ops : List Oper} {base i : Nat} {o : Oper} {rest : List Oper} {fr fr' : List Value} {L L' R : List Res} {K : List Rec → List Value → St → Prop} {P : Program}
/-- A slice of the nil slice, with three indexes. -/
theorem ro_slN3 {t e' : TypeId} {x : Operand} {lo : Option Operand} {hi mx : Operand} {n h l m : Nat} {vl : Option Value} {vh vm : Value} (hw : Region.wanted o (yieldA ops fr) = true) (hop : o.op = .slice t x lo (some hi) (some mx)) (hP : E.P = P) (hu : P.underlying t = some (.slice e')) (hz : sizeT P e' = some n)
    (hx : Opd fr x = .slice none 0 0) (hlo : lo.map (Opd fr) = vl) (hhi : Opd fr hi = vh) (hmx : Opd fr mx = vm) (bm : bound? (some vm) 0 0 = some m) (bh : bound? (some vh) 0 0 = some h) (bl : bound? vl 0 0 = some l)
    (hk : RO E call ops base (i + 1) rest (put fr o.dst (.slice none 0 0)) L fun rs => K (.mem (fun g => evOp E (Opd fr) (base + i) g o) ⟨.slice none 0 0, [], []⟩ :: rs)) : ROC E call ops base i o rest fr L K :=
  ro_mem (by unfold callOf; rw [hop]) hw fun σ r ho => by
    subst hP
    refine ⟨⟨.slice none 0 0, [], []⟩, L, ?_, ho.tail, hk⟩
    unfold evOp
    simp only [hop, hx, hlo, hhi, hmx, Option.map_some]
    unfold evSlice
    simp only [hu, hz, bm, bh, bl]
/-- append of a part of the same block, where there is room. -/
theorem ro_appS {x y : Operand} {ts : Array TypeId} {t0 t1 el : TypeId} {sz bytes b off soff n cap m sc : Nat} {c new : List Value} {e : TypeId} {ex : Bool} (hw : Region.wanted o (yieldA ops fr) = true) (hop : o.op = .call { callee := .builtin .append, args := #[x, y], argTypes := ts }) (hts : ts = #[t0, t1]) (hP : E.P = P) (ht : AppT P t0 t1 el sz bytes)
    (hx : Opd fr x = .slice (some ⟨b, off, none⟩) n cap) (hy : Opd fr y = .slice (some ⟨b, soff, none⟩) m sc) (hs : Sel L (.blk b c e ex) R) (hm : 0 < m) (hroom : n + m ≤ cap) (hle : off + cap * sz ≤ c.length) (hsl : soff + m * sz ≤ c.length) (hnew : (c.drop soff).take (m * sz) = new) (hone : new.all oneCell = true)
    (hk : ∀ e', RO E call ops base (i + 1) rest (put fr o.dst (.slice (some ⟨b, off, none⟩) (n + m) cap)) (.blk b (wrList c (off + n * sz) new) e ex :: R) fun rs => K (.mem (fun g => evOp E (Opd fr) (base + i) g o) e' :: rs)) : ROC E call ops base i o rest fr L K :=
  ro_mem (by unfold callOf; rw [hop]) hw fun σ r ho => by
    subst hP
    have h1 : Own E σ (.blk b c e ex :: r :: R) := (ho.tail.perm (hs.perm.cons r)).perm (List.Perm.swap _ _ _)
    have hg := h1.get .head
    obtain ⟨d, hd1, hd2⟩ := ht.un
    obtain ⟨z, hz1, hz2⟩ := ht.ze
    obtain ⟨ti, hi⟩ : ∃ i, E.P.info? el = some i := by
      have := ht.szT
      unfold sizeT at this
      cases hi : E.P.info? el with
      | none => simp [hi] at this
      | some i => exact ⟨i, rfl⟩
    have hisz : ti.size = sz := by simpa [sizeT, hi] using ht.szT
    subst hisz
    have hmul : (n + m) * ti.size ≤ cap * ti.size := Nat.mul_le_mul_right _ hroom
    rw [Nat.add_mul] at hmul
    have hln : new.length = m * ti.size := by rw [← hnew, List.length_take, List.length_drop]; omega
    have hrd : rdRow E σ.heap.get ti.size m (.slice (some ⟨b, soff, none⟩) m sc) = some new := by
      simp only [rdRow, (show m ≠ 0 by omega), if_false, Nat.le_refl, if_true, rd, Option.isSome_none, Bool.false_eq_true, hg.1, hg.2]
      rw [if_pos hsl, hnew]
    have hwr : wr E σ.heap.get ⟨b, off + n * ti.size, none⟩ new = some (b, some (.cells (wrList c (off + n * ti.size) new) e ex)) := by
      have hh : ¬ (((⟨b, off + n * ti.size, none⟩ : Addr).spot.isSome || decide (b < E.old)) || !new.all oneCell) = true := by simp [hg.1]; simpa using hone
      unfold wr
      rw [if_neg hh]
      simp only [hg.2]
      rw [if_pos (by rw [hln]; omega)]
    have hc0 : ¬ (ti.size = 0 ∨ z.size ≠ ti.size ∨ strOk (.slice (some ⟨b, soff, none⟩) m sc) ti.size = false) := by
      have := ht.ne
      simp [this, hz2, strOk]
    refine ⟨⟨.slice (some ⟨b, off, none⟩) (n + m) cap, [(b, some (.cells (wrList c (off + n * ti.size) new) e ex))], b :: blkOf (.slice (some ⟨b, soff, none⟩) m sc)⟩, _, ?_, (h1.write (c' := wrList c (off + n * ti.size) new)).perm (List.Perm.swap _ _ _), hk _⟩
    unfold evOp
    simp only [hop, hts, List.map_cons, List.map_nil, hx, hy, evBuiltin]
    unfold evAppend
    simp only [List.getElem?_toArray, List.getElem?_cons_zero, List.getElem?_cons_succ, Option.bind_some, ht.elT, hd1, hd2, hi, hz1, lenV, hc0, hrd, Bool.not_true, Bool.false_eq_true, if_false, if_pos hroom, if_neg (show ¬ m = 0 by omega), Option.isSome_none, hwr]
/-- append of nothing. -/
theorem ro_app0 {x y : Operand} {ts : Array TypeId} {t0 t1 el : TypeId} {sz bytes n cap m sc : Nat} {a : Option Addr} {ba : Option Addr} (hw : Region.wanted o (yieldA ops fr) = true) (hop : o.op = .call { callee := .builtin .append, args := #[x, y], argTypes := ts }) (hts : ts = #[t0, t1]) (hP : E.P = P) (ht : AppT P t0 t1 el sz bytes)
    (hx : Opd fr x = .slice ba n cap) (hy : Opd fr y = .slice a m sc) (hm : m = 0) (hroom : n ≤ cap)
    (hk : ∀ e', RO E call ops base (i + 1) rest (put fr o.dst (.slice ba n cap)) L fun rs => K (.mem (fun g => evOp E (Opd fr) (base + i) g o) e' :: rs)) : ROC E call ops base i o rest fr L K :=
  ro_mem (by unfold callOf; rw [hop]) hw fun σ r ho => by
    subst hP hm
    obtain ⟨d, hd1, hd2⟩ := ht.un
    obtain ⟨z, hz1, hz2⟩ := ht.ze
    obtain ⟨ti, hi⟩ : ∃ i, E.P.info? el = some i := by
      have := ht.szT
      unfold sizeT at this
      cases hi : E.P.info? el with
      | none => simp [hi] at this
      | some i => exact ⟨i, rfl⟩
    have hisz : ti.size = sz := by simpa [sizeT, hi] using ht.szT
    subst hisz
    have hrd : rdRow E σ.heap.get ti.size 0 (.slice a 0 sc) = some [] := by cases a <;> simp [rdRow]
    have hlv : lenV (.slice a 0 sc) = some 0 := by cases a <;> rfl
    have hc0 : ¬ (ti.size = 0 ∨ z.size ≠ ti.size ∨ strOk (.slice a 0 sc) ti.size = false) := by
      have := ht.ne
      simp [this, hz2, strOk]
    refine ⟨⟨.slice ba n cap, [], blkOf (.slice a 0 sc)⟩, L, ?_, ho.tail, hk _⟩
    unfold evOp
    simp only [hop, hts, List.map_cons, List.map_nil, hx, hy, evBuiltin]
    unfold evAppend
    simp only [List.getElem?_toArray, List.getElem?_cons_zero, List.getElem?_cons_succ, Option.bind_some, ht.elT, hd1, hd2, hi, hz1, hlv, hc0, hrd, Bool.not_true, Bool.false_eq_true, if_false, Nat.add_zero, if_pos hroom, if_true]
/-- clear. -/
theorem ro_clear {x : Operand} {ts : Array TypeId} {t0 el : TypeId} {b off n cap sz : Nat} {z : Array Value} {c : List Value} {e : TypeId} {ex : Bool} (hw : Region.wanted o (yieldA ops fr) = true) (hop : o.op = .call { callee := .builtin .clear, args := #[x], argTypes := ts }) (hts : ts = #[t0]) (hP : E.P = P) (hel : elemT P t0 = some el) (hsz : sizeT P el = some sz) (hz : zeroCells? P el = some z) (hzs : z.size = sz) (h0 : sz ≠ 0)
    (hx : Opd fr x = .slice (some ⟨b, off, none⟩) n cap) (hs : Sel L (.blk b c e ex) R) (hn : 0 < n) (hle : off + n * sz ≤ c.length) (hone : (zeroRow z (n * sz)).all oneCell = true)
    (hk : ∀ e', RO E call ops base (i + 1) rest (put fr o.dst (.tuple #[])) (.blk b (wrList c off (zeroRow z (n * sz))) e ex :: R) fun rs => K (.mem (fun g => evOp E (Opd fr) (base + i) g o) e' :: rs)) : ROC E call ops base i o rest fr L K :=
  ro_mem (by unfold callOf; rw [hop]) hw fun σ r ho => by
    subst hP hzs
    have h1 : Own E σ (.blk b c e ex :: r :: R) := (ho.tail.perm (hs.perm.cons r)).perm (List.Perm.swap _ _ _)
    have hg := h1.get .head
    have hwr : wr E σ.heap.get ⟨b, off, none⟩ (zeroRow z (n * z.size)) = some (b, some (.cells (wrList c off (zeroRow z (n * z.size))) e ex)) := by
      have hh : ¬ (((⟨b, off, none⟩ : Addr).spot.isSome || decide (b < E.old)) || !(zeroRow z (n * z.size)).all oneCell) = true := by simp [hg.1]; simpa using hone
      unfold wr
      rw [if_neg hh]
      simp only [hg.2]
      rw [if_pos (by rw [zeroRow_ln]; exact hle)]
    refine ⟨⟨.tuple #[], [(b, some (.cells (wrList c off (zeroRow z (n * z.size))) e ex))], [b]⟩, _, ?_, (h1.write (c' := wrList c off (zeroRow z (n * z.size)))).perm (List.Perm.swap _ _ _), hk _⟩
    unfold evOp
    simp only [hop, hts, List.map_cons, List.map_nil, hx, evBuiltin]
    unfold evClear
    simp only [List.getElem?_toArray, List.getElem?_cons_zero, Option.bind_some, hel, hsz, hz, (show n ≠ 0 by omega), if_false, ne_eq, h0, not_false_eq_true, and_self, if_true, hwr]
end
theorem o_sel {E : Env} {L R : List Res} {r : Res} {G : St → Prop} (hs : Sel L r R) (h : O E (r :: R) G) : O E L G := fun σ ho => h σ (ho.sel hs)
theorem o_nilR {E : Env} {R : List Res} {n sz : Nat} {s : Value} {c : List Value} {e : TypeId} {G : St → Prop} (hn : n = 0) (hx : O E (.row 0 (.slice none 0 0) n c e sz :: .row 0 s n c e sz :: R) G) : O E (.row 0 s n c e sz :: R) G := by
  subst hn
  intro σ ho
  have hl := (ho.row .head).1
  have hc : c = [] := List.length_eq_zero_iff.1 (by rw [hl, Nat.zero_mul])
  subst hc
  exact o_nilrow hx σ ho
/-- A row opened to its block. -/
theorem o_open {E : Env} {L R : List Res} {s : Value} {n : Nat} {c : List Value} {e : TypeId} {sz : Nat} {G : St → Prop} (hs : Sel L (.row 0 s n c e sz) R)
    (h0 : s = .slice none 0 0 → n = 0 → c = [] → O E L G)
    (h1 : ∀ b p m j x, s = .slice (some ⟨b, p.length, none⟩) n (n + m) → j.length = m * sz → c.length = n * sz → O E (.blk b (p ++ (c ++ j)) e x :: R) G) : O E L G := by
  intro σ ho
  obtain ⟨hl, h⟩ := ho.row hs
  rcases h with ⟨hs0, hn⟩ | ⟨b, p, m, j, x, hsl, hj, hg⟩
  · exact h0 hs0 hn (List.length_eq_zero_iff.1 (by rw [hl, hn, Nat.zero_mul])) σ ho
  · refine h1 b p m j x hsl hj hl σ ?_
    have ho2 := ho.sel hs
    subst hsl
    refine Own.upd (A := [.row 0 (.slice (some ⟨b, p.length, none⟩) n (n + m)) n c e sz]) (A' := [.blk b (p ++ (c ++ j)) e x]) (h' := σ.heap) ho2 (by simp [idsL, Res.ids]) (fun k hk => by simpa [idsL, Res.ids, rowBlk] using hk) (fun r hr => ?_) (fun _ _ => rfl)
    simp only [List.mem_singleton] at hr
    subst hr
    exact hg
/-- .. and closed. -/
theorem o_close {E : Env} {L R : List Res} {b : Nat} {p c j : List Value} {n m : Nat} {e : TypeId} {x : Bool} {sz : Nat} {X : List Value} {G : St → Prop} (hs : Sel L (.blk b X e x) R) (hX : X = p ++ (c ++ j)) (hc : c.length = n * sz) (hj : j.length = m * sz)
    (h1 : O E (.row 0 (.slice (some ⟨b, p.length, none⟩) n (n + m)) n c e sz :: R) G) : O E L G := by
  subst hX
  intro σ ho
  have ho2 := ho.sel hs
  have hg := (ho2.get .head).2
  refine h1 σ ?_
  refine Own.upd (A := [.blk b (p ++ (c ++ j)) e x]) (A' := [.row 0 (.slice (some ⟨b, p.length, none⟩) n (n + m)) n c e sz]) (h' := σ.heap) ho2 (by simp [idsL, Res.ids, rowBlk]) (fun k hk => by simpa [idsL, Res.ids, rowBlk] using hk) (fun r hr => ?_) (fun _ _ => rfl)
  simp only [List.mem_singleton] at hr
  subst hr
  exact ⟨hc, .inr ⟨b, p, m, j, x, rfl, hj, hg⟩⟩
end Go.Ab

/- Scopes that run to a label of theirs and jump back to it; places in rows. -/
set_option linter.all false
namespace Go.Ab
section
variable {E : Env} {call : CallF} {k : Nat} {fid : FuncId} {fr fr' : List Value} {L L' R : List Res}
/-- What holds where a loop begins. -/
def Begun (E : Env) (J : List Value → List Res → Prop) : Ex → List Value → St → Prop
  | .normal, fr, σ => ∃ L', J fr L' ∧ Own E σ L'
  | _, _, _ => False
theorem o_begun {J : List Value → List Res → Prop} (hj : J fr L') (he : Ent L L') : O E L (Begun E J .normal fr) := fun σ ho => ⟨L', hj, he.own ho⟩
/-- A scope 'a; label; b' whose b jumps back to the label: J i holds at the label when it is passed the (i+1)st time. -/
theorem o_hopL {a b : Code} {Q : Ex → List Value → St → Prop} (l : Nat) (hl : hasLabel a l = false) (J : Nat → List Value → List Res → Prop) (n : Nat) (hm : n + 1 < k)
    (h0 : O E L fun σ => W E call k fid a none fr σ (Begun E (J 0)))
    (step : ∀ i fr L, i ≤ n → J i fr L → O E L fun σ => W E call k fid b none fr σ (jumps (.seq a (.seq (.label l) b)) (fun l' fr σ => l' = l ∧ i < n ∧ ∃ L', J (i + 1) fr L' ∧ Own E σ L') Q)) :
    O E L fun σ => W E call k fid (.scope (.seq a (.seq (.label l) b))) none fr σ Q := by
  have hl2 : hasLabel (.seq a (.seq (.label l) b)) l = true := by simp [hasLabel]
  refine o_hop l hl2 (fun i fr L => i + 1 ≤ n ∧ J (i + 1) fr L) n hm ?_ ?_
  · intro σ ho
    refine w_seq ((h0 σ ho).mono ?_)
    intro e fr σ he
    cases e with
    | normal =>
      obtain ⟨L1, hj, ho1⟩ := he
      show W E call k fid (.seq (.label l) b) none fr σ _
      refine w_seq (w_label ?_)
      show W E call k fid b none fr σ _
      refine (step 0 fr L1 (Nat.zero_le _) hj σ ho1).mono ?_
      intro e fr σ he
      cases e with
      | goto l' =>
        simp only [jumps] at he ⊢
        split at he
        · rename_i hy
          rw [if_pos hy]
          obtain ⟨h1, h2, L2, h3, h4⟩ := he
          exact ⟨h1, L2, ⟨h2, h3⟩, h4⟩
        · rename_i hn; rw [if_neg hn]; exact he
      | _ => exact he
    | _ => exact he.elim
  · rintro i fr L hi ⟨hi2, hj⟩
    intro σ ho
    refine w_seq_past hl ?_
    refine w_seq_at (by simp [hasLabel]) (w_label_at ?_)
    show W E call k fid b none fr σ _
    refine (step (i + 1) fr L hi2 hj σ ho).mono ?_
    intro e fr σ he
    cases e with
    | goto l' =>
      simp only [jumps] at he ⊢
      split at he
      · rename_i hy
        rw [if_pos hy]
        obtain ⟨h1, h2, L2, h3, h4⟩ := he
        exact ⟨h1, by omega, L2, ⟨by omega, h3⟩, h4⟩
      · rename_i hn; rw [if_neg hn]; exact he
    | _ => exact he
end

/-! Places in rows. -/
section
variable {α : Type} {l : List α} {x y : α} {p : α → Bool}
/-- The place of the first one of which p holds; the length, if there is none. -/
def fi (p : α → Bool) (l : List α) : Nat := l.findIdx p
theorem fi_le : fi p l ≤ l.length := List.findIdx_le_length
theorem fi_not {j : Nat} (hj : j < fi p l) (hy : l[j]? = some y) : p y = false := by
  obtain ⟨h1, h2⟩ := List.getElem?_eq_some_iff.1 hy
  have := List.not_of_lt_findIdx hj
  rw [h2] at this
  simpa using this
theorem fi_yes (hy : l[fi p l]? = some y) : p y = true := by
  obtain ⟨h1, h2⟩ := List.getElem?_eq_some_iff.1 hy
  rw [← h2]
  exact List.findIdx_getElem (w := h1)
theorem fi_eq {k : Nat} (hk : k ≤ l.length) (hlt : ∀ j y, j < k → l[j]? = some y → p y = false) (hge : ∀ y, l[k]? = some y → p y = true) : fi p l = k := by
  have h1 := fi_le (p := p) (l := l)
  rcases Nat.lt_trichotomy (fi p l) k with h | h | h
  · obtain ⟨y, hy⟩ : ∃ y, l[fi p l]? = some y := ⟨_, List.getElem?_eq_getElem (by omega)⟩
    have := hlt _ y h hy
    rw [fi_yes hy] at this; cases this
  · exact h
  · obtain ⟨y, hy⟩ : ∃ y, l[k]? = some y := ⟨_, List.getElem?_eq_getElem (by omega)⟩
    have := fi_not h hy
    rw [hge y hy] at this; cases this
/-- One put in at a place; one taken out. -/
def putAt (l : List α) (k : Nat) (x : α) : List α := l.take k ++ ([x] ++ l.drop k)
def cutAt (l : List α) (i j : Nat) : List α := l.take i ++ l.drop j
theorem putAt_len {k : Nat} (h : k ≤ l.length) : (putAt l k x).length = l.length + 1 := by simp [putAt]; omega
theorem cutAt_len {i j : Nat} (h : i ≤ j) (h2 : j ≤ l.length) : (cutAt l i j).length = i + (l.length - j) := by simp [cutAt]; omega
theorem putAt_mem {k : Nat} : y ∈ putAt l k x ↔ y = x ∨ y ∈ l := by
  unfold putAt
  rw [List.mem_append, List.mem_append, List.mem_singleton]
  conv => rhs; rw [← List.take_append_drop k l, List.mem_append]
  constructor
  · rintro (h | h | h)
    · exact .inr (.inl h)
    · exact .inl h
    · exact .inr (.inr h)
  · rintro (h | h | h)
    · exact .inr (.inl h)
    · exact .inl h
    · exact .inr (.inr h)
theorem cutAt_mem {i j : Nat} (h : y ∈ cutAt l i j) : y ∈ l := by
  unfold cutAt at h
  rcases List.mem_append.1 h with h | h
  · exact List.mem_of_mem_take h
  · exact List.mem_of_mem_drop h
section
variable {f : α → List Value} {k : Nat}
theorem flat_putAt (h : ∀ x, (f x).length = k) {i : Nat} : flat f (putAt l i x) = (flat f l).take (i * k) ++ (f x ++ (flat f l).drop (i * k)) := by
  unfold putAt
  rw [flat_app, flat_app, flat_drop h]
  congr 1
  · rw [flat_take h]
  · simp [flat]
theorem flat_cutAt (h : ∀ x, (f x).length = k) {i j : Nat} : flat f (cutAt l i j) = (flat f l).take (i * k) ++ (flat f l).drop (j * k) := by
  unfold cutAt
  rw [flat_app, flat_drop h, flat_take h]
end
theorem cut_split {A B : List α} : cutAt (A ++ y :: B) A.length (A.length + 1) = A ++ B := by
  unfold cutAt
  rw [List.take_left, show A.length + 1 = A.length + 1 from rfl, ← List.drop_drop, List.drop_left]; rfl
theorem put_split {A B : List α} : putAt (A ++ B) A.length x = A ++ x :: B := by
  unfold putAt
  rw [List.take_left, List.drop_left]; rfl
theorem split_lt {A B : List α} {P : α → Prop} (h : ∀ z ∈ A, P z) : ∀ j y, j < A.length → (A ++ B)[j]? = some y → P y := by
  intro j y hj hy
  rw [List.getElem?_append_left hj] at hy
  exact h y (List.mem_of_getElem? hy)
theorem split_ge {A B : List α} {P : α → Prop} (h : ∀ z ∈ B, P z) : ∀ y, (A ++ B)[A.length]? = some y → P y := by
  intro y hy
  rw [List.getElem?_append_right (Nat.le_refl _)] at hy
  exact h y (List.mem_of_getElem? hy)
theorem split_at {A B : List α} : (A ++ y :: B)[A.length]? = some y := by simp
/-- Rising rows. -/
def Rise (r : α → α → Prop) (l : List α) : Prop := l.Pairwise r
theorem Rise.cut {r : α → α → Prop} (h : Rise r l) {i j : Nat} (hij : i ≤ j) : Rise r (cutAt l i j) := by
  unfold Rise cutAt
  have h1 : l.Pairwise r := h
  rw [← List.take_append_drop i l, List.pairwise_append] at h1
  have h2 : (l.drop j).Sublist (l.drop i) := by
    rw [show j = i + (j - i) by omega, ← List.drop_drop]
    exact List.drop_sublist _ _
  rw [List.pairwise_append]
  exact ⟨h1.1, h1.2.1.sublist h2, fun a ha b hb => h1.2.2 a ha b (h2.subset hb)⟩
theorem Rise.put {r : α → α → Prop} (h : Rise r l) {k : Nat} (h1 : ∀ y ∈ l.take k, r y x) (h2 : ∀ y ∈ l.drop k, r x y) : Rise r (putAt l k x) := by
  unfold Rise putAt
  have h0 : l.Pairwise r := h
  rw [← List.take_append_drop k l, List.pairwise_append] at h0
  rw [List.pairwise_append, List.pairwise_append]
  refine ⟨h0.1, ⟨by simp, h0.2.1, fun a ha b hb => ?_⟩, fun a ha b hb => ?_⟩
  · rw [List.mem_singleton] at ha; subst ha; exact h2 b hb
  · rcases List.mem_append.1 hb with hb | hb
    · rw [List.mem_singleton] at hb; subst hb; exact h1 a ha
    · exact h0.2.2 a ha b hb
theorem Rise.get {r : α → α → Prop} (h : Rise r l) {i j : Nat} (hij : i < j) (hx : l[i]? = some x) (hy : l[j]? = some y) : r x y := by
  obtain ⟨a1, a2⟩ := List.getElem?_eq_some_iff.1 hx
  obtain ⟨b1, b2⟩ := List.getElem?_eq_some_iff.1 hy
  rw [← a2, ← b2]
  exact List.pairwise_iff_getElem.1 h i j a1 b1 hij
end
/-- A row of truths. -/
def boolC (b : Bool) : List Value := [.bool b]
theorem boolC_len (b : Bool) : (boolC b).length = 1 := rfl
theorem boolC_one (b : Bool) : (boolC b).all oneCell = true := rfl
theorem flat_repl {α : Type} {f : α → List Value} {v : Value} {x : α} (h : f x = [v]) (n : Nat) : flat f (List.replicate n x) = List.replicate n v := by
  induction n with
  | zero => rfl
  | succ n ih => rw [List.replicate_succ, flat_cons, ih, h]; rfl
end Go.Ab

/- Scopes whose label stands behind more than one piece of code. -/
set_option linter.all false
namespace Go.Ab
section
variable {E : Env} {call : CallF} {k : Nat} {fid : FuncId} {fr fr' : List Value} {L L' R : List Res}
/-- A scope that jumps back to one label; 'b' is what stands behind the label. What holds at the label the (i+1)st time is J i; 'h0': the way to the label, and how it goes on from there. -/
theorem o_hopG {c b : Code} {Q : Ex → List Value → St → Prop} (l : Nat) (hl : hasLabel c l = true) (J : Nat → List Value → List Res → Prop) (n : Nat) (hm : n + 1 < k)
    (hat : ∀ fr σ (Q : Ex → List Value → St → Prop), W E call k fid b none fr σ Q → W E call k fid c (some l) fr σ Q)
    (step : ∀ i fr L, i ≤ n → J i fr L → O E L fun σ => W E call k fid b none fr σ (jumps c (fun l' fr σ => l' = l ∧ i < n ∧ ∃ L', J (i + 1) fr L' ∧ Own E σ L') Q))
    (h0 : (∀ fr L, J 0 fr L → O E L fun σ => W E call k fid b none fr σ (jumps c (fun l' fr σ => l' = l ∧ ∃ L', (0 + 1 ≤ n ∧ J (0 + 1) fr L') ∧ Own E σ L') Q)) →
      O E L fun σ => W E call k fid c none fr σ (jumps c (fun l' fr σ => l' = l ∧ ∃ L', (0 + 1 ≤ n ∧ J (0 + 1) fr L') ∧ Own E σ L') Q)) :
    O E L fun σ => W E call k fid (.scope c) none fr σ Q := by
  refine o_hop l hl (fun i fr L => i + 1 ≤ n ∧ J (i + 1) fr L) n hm (h0 ?_) ?_
  · intro fr L hj σ ho
    refine (step 0 fr L (Nat.zero_le _) hj σ ho).mono ?_
    intro e fr σ he
    cases e with
    | goto l' =>
      simp only [jumps] at he ⊢
      split at he
      · rename_i hy
        rw [if_pos hy]
        obtain ⟨h1, h2, L2, h3, h4⟩ := he
        exact ⟨h1, L2, ⟨h2, h3⟩, h4⟩
      · rename_i hn; rw [if_neg hn]; exact he
    | _ => exact he
  · rintro i fr L hi ⟨hi2, hj⟩
    intro σ ho
    refine hat _ _ _ ((step (i + 1) fr L hi2 hj σ ho).mono ?_)
    intro e fr σ he
    cases e with
    | goto l' =>
      simp only [jumps] at he ⊢
      split at he
      · rename_i hy
        rw [if_pos hy]
        obtain ⟨h1, h2, L2, h3, h4⟩ := he
        exact ⟨h1, by omega, L2, ⟨by omega, h3⟩, h4⟩
      · rename_i hn; rw [if_neg hn]; exact he
    | _ => exact he
theorem hat_past {x y b : Code} {l : Nat} (hl : hasLabel x l = false) (h : ∀ fr σ (Q : Ex → List Value → St → Prop), W E call k fid b none fr σ Q → W E call k fid y (some l) fr σ Q) :
    ∀ fr σ (Q : Ex → List Value → St → Prop), W E call k fid b none fr σ Q → W E call k fid (.seq x y) (some l) fr σ Q := fun fr σ Q hw => w_seq_past hl (h fr σ Q hw)
theorem hat_here {b : Code} {l : Nat} : ∀ fr σ (Q : Ex → List Value → St → Prop), W E call k fid b none fr σ Q → W E call k fid (.seq (.label l) b) (some l) fr σ Q :=
  fun fr σ Q hw => w_seq_at (by simp [hasLabel]) (w_label_at hw)
/-- At the label. -/
theorem o_at {b : Code} {l : Nat} {Q Q' : Ex → List Value → St → Prop} (he : Ent L L') (h : O E L' fun σ => W E call k fid b none fr σ Q) : O E L fun σ => W E call k fid (.label l) none fr σ (onward (fun fr σ => W E call k fid b none fr σ Q) Q') :=
  fun σ ho => w_label (h σ (he.own ho))
/-- A row that isn't empty begins somewhere. -/
theorem o_shapeP {kd : Nat} {s : Value} {n : Nat} {c : List Value} {e : TypeId} {sz : Nat} {G : St → Prop} (hs : Sel L (.row kd s n c e sz) R) (hn : 0 < n) (hx : ∀ b o m, rowAt s = some (b, o) → s = .slice (some ⟨b, o, none⟩) n m → O E L G) : O E L G := fun σ ho => by
  obtain ⟨a, m, h1, h2⟩ := (ho.row hs).shape
  obtain ⟨b, o, rfl⟩ := h2 hn
  exact hx b o m (by rw [h1]; rfl) h1 σ ho
theorem o_capP {s : Value} {n : Nat} {c : List Value} {e : TypeId} {sz : Nat} {G : St → Prop} (hs : Sel L (.row 0 s n c e sz) R) (hn : 0 < n) (hx : capOk s → O E L G) : O E L G := fun σ ho => by
  obtain ⟨_, ⟨h1, h2⟩ | ⟨b, p, m, j, x, rfl, _⟩⟩ := ho.row hs
  · omega
  · exact hx (show n + m ≠ 0 by omega) σ ho
end
end Go.Ab

/- Floating point numbers of whole ones: pairs of such, their parts, equality with themselves. -/
set_option linter.all false
namespace Go.Ab
section
variable {E : Env} {fr : List Value} {nid : Nat} {g : Nat → Option Blk} {o : Oper} {P : Program}
theorem ev_cplx {x y : Operand} {ts : Array TypeId} {k : FloatKind} {a b : Nat} (ho : o.op = .call { callee := .builtin .complex, args := #[x, y], argTypes := ts }) (hx : Opd fr x = .float k a) (hy : Opd fr y = .float k b) : evOp E (Opd fr) nid g o = some ⟨.complex k a b, [], []⟩ := by
  unfold evOp
  simp only [ho, evBuiltin, List.map_cons, List.map_nil, hx, hy]
  have h : pureV E.P (Builtin.complex_ ts o.type [Value.float k a, Value.float k b].toArray) = some (.complex k a b) := by
    cases k <;> rfl
  rw [if_pos (show ([Value.float k a, Value.float k b].all scalar) = true from rfl)]
  rw [show #[Value.float k a, Value.float k b] = [Value.float k a, Value.float k b].toArray from rfl, h]; rfl
theorem ev_real {x : Operand} {ts : Array TypeId} {k : FloatKind} {a b : Nat} (ho : o.op = .call { callee := .builtin .real, args := #[x], argTypes := ts }) (hx : Opd fr x = .complex k a b) : evOp E (Opd fr) nid g o = some ⟨.float k a, [], []⟩ := by
  unfold evOp
  simp only [ho, evBuiltin, List.map_cons, List.map_nil, hx]
  have h : pureV E.P (Builtin.real_ ts o.type [Value.complex k a b].toArray) = some (.float k a) := by
    cases k <;> rfl
  rw [if_pos (show ([Value.complex k a b].all scalar) = true from rfl)]
  rw [show #[Value.complex k a b] = [Value.complex k a b].toArray from rfl, h]; rfl
theorem ev_imag {x : Operand} {ts : Array TypeId} {k : FloatKind} {a b : Nat} (ho : o.op = .call { callee := .builtin .imag, args := #[x], argTypes := ts }) (hx : Opd fr x = .complex k a b) : evOp E (Opd fr) nid g o = some ⟨.float k b, [], []⟩ := by
  unfold evOp
  simp only [ho, evBuiltin, List.map_cons, List.map_nil, hx]
  have h : pureV E.P (Builtin.imag_ ts o.type [Value.complex k a b].toArray) = some (.float k b) := by
    cases k <;> rfl
  rw [if_pos (show ([Value.complex k a b].all scalar) = true from rfl)]
  rw [show #[Value.complex k a b] = [Value.complex k a b].toArray from rfl, h]; rfl
theorem pr_underlying {P : Program} {t : TypeId} {d : TypeDesc} {α : Type} {f : TypeDesc → Sem α} (h : P.underlying t = some d) : pureRun P (underlying t >>= f) = pureRun P (f d) := by
  rw [pureRun_bind, pureRun_underlying, h]; rfl
theorem ev_convF {s d : TypeId} {x : Operand} {ki : IntKind} {k : FloatKind} {n : Int} (ho : o.op = .convert s d x) (hP : E.P = P) (hs : P.underlying s = some (.int ki)) (hd : P.underlying d = some (.float k)) (hx : Opd fr x = .int ki n) : evOp E (Opd fr) nid g o = some ⟨.float k (k.nearest n), [], []⟩ := by
  subst hP; unfold evOp
  simp only [ho, hx]
  unfold evConvert
  simp only [hs, hd]
  have h : pureV E.P (convert s d (.int ki n)) = some (.float k (k.nearest n)) := by
    have h2 : pureRun E.P (convert s d (.int ki n)) = some (.float k (k.nearest n)) := by
      unfold convert
      rw [pr_underlying hs, pr_underlying hd]
      rfl
    unfold pureV
    rw [h2]; rfl
  rw [if_pos (show scalar (Value.int ki n) = true from rfl), h]; rfl
theorem ev_eqF {t ty : TypeId} {x y : Operand} {k : FloatKind} {a : Nat} (ho : o.op = .binOp .eql t x y ty) (hP : E.P = P) (h1 : isPtr P t = false) (h2 : isSl P t = false) (hx : Opd fr x = .float k a) (hy : Opd fr y = .float k a) (hq : k.format.order a a = some .eq) : evOp E (Opd fr) nid g o = some ⟨.bool true, [], []⟩ := by
  subst hP; unfold evOp
  simp only [ho, hx, hy]
  have h : evBin E.P .eql t x y (.float k a) (.float k a) = some (.bool true) := by
    rw [evBin_scalar h1 h2 rfl rfl]
    simp [pureV, eqGuard, binOp, Op.floatCmp, hq]
    rfl
  rw [h]; rfl
end
/-! Whole numbers are no NaN. -/
theorem read_word {neg : Bool} {r : Nat} (h : r ≤ Ieee.double.infRung) : (∃ s m i, Ieee.double.read (Ieee.double.word neg r) = .number s m i) ∨ ∃ s, Ieee.double.read (Ieee.double.word neg r) = .infinity s := by
  have e1 : Ieee.double.signWeight = 9223372036854775808 := by decide
  have e2 : Ieee.double.infRung = 9218868437227405312 := by decide
  rw [e2] at h
  have e3 : Ieee.double.word neg r % Ieee.double.signWeight = r := by
    unfold Ieee.Format.word
    rw [e1]
    cases neg <;> simp <;> omega
  unfold Ieee.Format.read
  simp only [e3]
  split
  · exact .inl ⟨_, _, _, rfl⟩
  · split
    · exact .inl ⟨_, _, _, rfl⟩
    · rw [if_pos (by rw [e2] at *; omega)]
      exact .inr ⟨_, rfl⟩
theorem near_word (neg : Bool) (mag : Nat) (place : Int) : ∃ r, r ≤ Ieee.double.infRung ∧ Ieee.double.nearest neg mag place = Ieee.double.word neg r := by
  unfold Ieee.Format.nearest
  split
  · exact ⟨0, Nat.zero_le _, rfl⟩
  · exact ⟨_, Nat.min_le_right _ _, rfl⟩
theorem near_eq (n : Int) : FloatKind.f64.format.order (FloatKind.f64.nearest n) (FloatKind.f64.nearest n) = some .eq := by
  have e : FloatKind.f64.nearest n = Ieee.double.nearest (decide (n < 0)) n.natAbs 0 := rfl
  have e2 : FloatKind.f64.format = Ieee.double := rfl
  rw [e, e2]
  obtain ⟨r, hr, hw⟩ := near_word (decide (n < 0)) n.natAbs 0
  rw [hw]
  unfold Ieee.Format.order
  rcases read_word (neg := decide (n < 0)) hr with ⟨s, m, i, h⟩ | ⟨s, h⟩
  · rw [h]; simp [Ieee.Datum.order]
  · rw [h]; simp [Ieee.Datum.order]
end Go.Ab

/- Laws whose arguments are structs with slices. -/
set_option linter.all false
open Go.RowKit
namespace Go.Ab
theorem law_OA {P : Program} {pairs : FuncId → Nat → List (Nat × Nat)} (hm : P.follows .mixedOrders = true) (hp : progOkB P pairs = true) {t : Tbl} (ht : TblOK P t) {w : World} {f : FuncId} {args : Array Value} {v : Value} {k d : Nat}
    (hargs : ∀ x ∈ args.toList, oldV w.heap.size x = true ∨ scalar x = true ∨ ∃ cs : Array Value, x = .agg cs ∧ ∀ c ∈ cs.toList, oldV w.heap.size c = true) (hv : flatS v = true)
    (h : O (envAt P pairs w) [] fun σ => WCall (evFunT (envAt P pairs w) t k d) f args.toList σ fun u _ => u = v) (hcode : hasCode P f = true := by kernel_rfl) :
    Calls P f args w fun e w' => e = .returned v ∧ Below w.heap.size w w' := by
  obtain ⟨u, σ', hev, rfl⟩ := h ⟨.leaf, w.heap.size⟩ (.nil (Nat.le_refl _))
  have hok := evFunT_ok (E := envAt P pairs w) (progOk_of hm hp) (ht (envAt P pairs w) rfl) k d |>.ok w f args.toList _ u σ' hev
  replace hok := hok.resolve_right (fun h => by
    obtain ⟨fn, h1, h2⟩ := h.2.1
    unfold hasCode at hcode
    have h3 : P.funcs[f]? = some fn := h1
    rw [h3] at hcode
    simp [h2] at hcode)
  have hl : LRel w.heap.size (fun _ => none) args.toList args.toList := ⟨rfl, fun i x y hx hy => by
    rw [hx] at hy; cases hy
    rcases hargs x (List.mem_of_getElem? hx) with h | h | ⟨cs, rfl, h⟩
    · exact .of_old h
    · exact .of_scalar h
    · refine .agg cs cs rfl fun j a b ha hb => ?_
      rw [ha] at hb; cases hb
      exact .of_old (h a (by
        have := List.mem_of_getElem? (l := cs.toList) (i := j) (a := a) (by simpa using ha)
        exact this))⟩
  refine (hok.2.2 (fun _ => none) w args (rel_at P pairs w) hl).mono ?_
  rintro e w' ⟨v', μ', rfl, hvr, hr, _⟩
  exact ⟨by rw [hvr.flat_eq hv], hr.below⟩
end Go.Ab
