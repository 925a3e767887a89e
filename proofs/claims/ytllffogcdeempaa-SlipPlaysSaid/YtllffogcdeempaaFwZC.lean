/- Rows of records: cells one record behind the other. -/
import Derived.Test.YtllffogcdeempaaFwZB
set_option linter.all false
namespace Go.Ab
def flat {α : Type} (f : α → List Value) (l : List α) : List Value := l.flatMap f
section
variable {α : Type} {f : α → List Value} {k : Nat} {l : List α} {x : α}
theorem flat_nil : flat f [] = [] := rfl
theorem flat_snoc : flat f (l ++ [x]) = flat f l ++ f x := by simp [flat]
theorem flat_app {m : List α} : flat f (l ++ m) = flat f l ++ flat f m := by simp [flat]
theorem flat_cons : flat f (x :: l) = f x ++ flat f l := by simp [flat]
theorem flat_size (h : ∀ x, (f x).length = k) : (flat f l).length = l.length * k := by
  induction l with
  | nil => simp [flat]
  | cons a l ih => simp only [flat, List.flatMap_cons, List.length_append, List.length_cons] at *; rw [ih, h, Nat.succ_mul, Nat.add_comm]
theorem flat_all (h : ∀ x, (f x).all oneCell = true) : (flat f l).all oneCell = true := by
  simp only [flat, List.all_eq_true, List.mem_flatMap] at *
  rintro v ⟨x, _, hv⟩
  exact h x v hv
theorem flat_drop (h : ∀ x, (f x).length = k) : ∀ (l : List α) (i : Nat), (flat f l).drop (i * k) = flat f (l.drop i)
  | [], i => by simp [flat]
  | a :: l, 0 => by simp
  | a :: l, i + 1 => by
    rw [List.drop_succ_cons, ← flat_drop h l i, flat_cons, Nat.succ_mul, Nat.add_comm, ← List.drop_drop, List.drop_left' (h a)]
theorem flat_take (h : ∀ x, (f x).length = k) : ∀ (l : List α) (i : Nat), (flat f l).take (i * k) = flat f (l.take i)
  | [], i => by simp [flat]
  | a :: l, 0 => by simp [flat]
  | a :: l, i + 1 => by
    rw [List.take_succ_cons, flat_cons, flat_cons, Nat.succ_mul, Nat.add_comm, ← h a, List.take_length_add_append, h a, flat_take h l i]
theorem flat_part (h : ∀ x, (f x).length = k) {i : Nat} (hi : l[i]? = some x) : ((flat f l).drop (i * k)).take k = f x := by
  rw [flat_drop h]
  obtain ⟨h1, h2⟩ := List.getElem?_eq_some_iff.1 hi
  rw [List.drop_eq_getElem_cons h1, h2, flat_cons, List.take_left' (h x)]
theorem flat_cell (h : ∀ x, (f x).length = k) {i q : Nat} (hi : l[i]? = some x) (hq : q < k) : (flat f l)[i * k + q]? = (f x)[q]? := by
  rw [← List.getElem?_drop, flat_drop h]
  obtain ⟨h1, h2⟩ := List.getElem?_eq_some_iff.1 hi
  rw [List.drop_eq_getElem_cons h1, h2, flat_cons, List.getElem?_append_left (by rw [h]; exact hq)]
theorem len_snoc : (l ++ [x]).length = l.length + 1 := by simp
theorem flat_range {g : Nat → α} {n : Nat} : (List.range n).flatMap (fun j => f (g j)) = flat f ((List.range n).map g) := by simp [flat, List.flatMap_map]
theorem range_get {g : Nat → α} {n i : Nat} (h : i < n) : ((List.range n).map g)[i]? = some (g i) := by simp [h]
theorem range_len {g : Nat → α} {n : Nat} : ((List.range n).map g).length = n := by simp
theorem take_next {i : Nat} (hi : l[i]? = some x) : l.take (i + 1) = l.take i ++ [x] := by
  rw [List.take_succ, hi]; rfl
end
/-- A row of numbers. -/
def intC (n : Int) : List Value := [.int .i64 n]
theorem intC_len (n : Int) : (intC n).length = 1 := rfl
theorem intC_one (n : Int) : (intC n).all oneCell = true := rfl
/-- A row of bytes. -/
def byteC (n : Int) : List Value := [.int .u8 n]
theorem byteC_len (n : Int) : (byteC n).length = 1 := rfl
/-- A row of pairs of numbers. -/
def pairC (p : Int × Int) : List Value := [.int .i64 p.1, .int .i64 p.2]
theorem pairC_len (p : Int × Int) : (pairC p).length = 2 := rfl
theorem pairC_one (p : Int × Int) : (pairC p).all oneCell = true := rfl
/-- An entry. -/
structure Entry where
  id : Int
  body : Int
  size : Int
  exch : ByteArray
  key : ByteArray
  prio : Int
  ttl : Int
  till : Int
  again : Bool
  hops : Int
def entC (e : Entry) : List Value := [.int .i64 e.id, .int .i64 e.body, .int .i64 e.size, .string e.exch, .string e.key, .int .i64 e.prio, .int .i64 e.ttl, .int .i64 e.till, .bool e.again, .int .i64 e.hops]
theorem entC_len (e : Entry) : (entC e).length = 10 := rfl
theorem entC_one (e : Entry) : (entC e).all oneCell = true := rfl
end Go.Ab
