/- Texts as bytes: plain facts. -/
import Derived.Test.YtllffogcdeempaaFwZE
set_option linter.all false
set_option maxRecDepth 10000
open Go.RowKit
namespace Go.Ab
/-- A text with its length ahead. -/
def tx (s : ByteArray) : ByteArray := numB (s.size : Int) 1 ++ s
theorem tx_size (s : ByteArray) : (tx s).size = 1 + s.size := by simp [tx, ByteArray.size_append, numB_size]
theorem tx_first (s x : ByteArray) (h : s.size ≤ 255) : (((tx s ++ x)[0]!).toNat) = s.size := by
  have h1 := numB_at s.size 1 0 (by omega) (s ++ x)
  rw [tx, ByteArray.append_assoc]
  simp at h1
  omega
theorem tx_rest (s x : ByteArray) (z : Nat) (hz : z = 1 + s.size + x.size) : (tx s ++ x).extract (1 + s.size) z = x := by
  subst hz
  exact ByteArray.extract_append_eq_right (by rw [tx_size]) (by rw [tx_size])
theorem tx_text (s x : ByteArray) : (tx s ++ x).extract 1 (1 + s.size) = s := by
  have h1 : (tx s ++ x).extract 1 (tx s ++ x).size = s ++ x := by
    rw [tx, ByteArray.append_assoc]
    exact numB_rest _ 1 _ _ (by simp [ByteArray.size_append, numB_size])
  have h2 := ext_in (tx s ++ x) 1 0 s.size (by rw [ByteArray.size_append, tx_size]; omega)
  rw [h1] at h2
  rw [Nat.add_zero] at h2
  rw [← h2]
  apply ByteArray.ext
  simp [ByteArray.data_extract, ByteArray.data_append]
/-- Texts one behind the other. -/
def tl : List ByteArray → ByteArray
  | [] => ⟨#[]⟩
  | x :: l => tx x ++ tl l
theorem tl_append (l : List ByteArray) (x : ByteArray) : tl (l ++ [x]) = tl l ++ tx x := by
  induction l with
  | nil => simp only [List.nil_append, tl, append_empty', empty_append]
  | cons y l ih => simp only [List.cons_append, tl, ih, ByteArray.append_assoc]
theorem tl_size (l : List ByteArray) (h : ∀ x ∈ l, x.size ≤ 255) : (tl l).size ≤ 256 * l.length := by
  induction l with
  | nil => simp [tl, ByteArray.size]
  | cons x l ih =>
    have h1 := h x (by simp)
    have h2 := ih fun y hy => h y (by simp [hy])
    rw [tl, ByteArray.size_append, tx_size, List.length_cons]
    omega
theorem ext_zero (s : ByteArray) (a : Nat) : s.extract a a = ⟨#[]⟩ := ba_nil (by rw [ByteArray.size_extract]; omega)
theorem e0_size : (⟨#[]⟩ : ByteArray).size = 0 := rfl
/-- A record put in a row. -/
theorem flat_set {α : Type} {f : α → List Value} {k : Nat} (h : ∀ x, (f x).length = k) {l : List α} {i : Nat} {x : α} (hi : i < l.length) : wrList (flat f l) (i * k) (f x) = flat f (l.set i x) := by
  have e : l = l.take i ++ (l[i] :: l.drop (i + 1)) := by rw [List.getElem_cons_drop, List.take_append_drop]
  have hl : (flat f (l.take i)).length = i * k := by rw [flat_size h, List.length_take, Nat.min_eq_left (by omega)]
  have e2 : l.set i x = l.take i ++ (x :: l.drop (i + 1)) := by
    rw [List.set_eq_take_append_cons_drop, if_pos hi]
  rw [e2]
  conv => lhs; rw [e]
  rw [flat_app, flat_cons, flat_app, flat_cons]
  unfold wrList
  rw [List.take_left' hl, h x, List.drop_append, List.drop_eq_nil_of_le (by omega), hl, List.nil_append, show i * k + k - i * k = k by omega, List.drop_left' (h _)]
/-- A row of strings. -/
def strC (s : ByteArray) : List Value := [.string s]
theorem strC_len (s : ByteArray) : (strC s).length = 1 := rfl
theorem strC_one (s : ByteArray) : (strC s).all oneCell = true := rfl
theorem ba_toList {x y : ByteArray} (h : x = y) : (x == y) = true := by subst h; rw [ba_beq]; simp
end Go.Ab
