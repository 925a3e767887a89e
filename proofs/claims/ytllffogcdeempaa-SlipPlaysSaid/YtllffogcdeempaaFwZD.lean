/- Numbers and texts as bytes: plain facts. -/
import Derived.Test.YtllffogcdeempaaFwZC
set_option linter.all false
set_option maxRecDepth 10000
open Go.RowKit
namespace Go.Ab
theorem wrap64_id {n : Int} (h0 : -9223372036854775808 ≤ n) (h1 : n ≤ 9223372036854775807) : IntKind.i64.wrap n = n := by
  by_cases hh : n % 2 ^ 64 ≥ 2 ^ 63 <;> simp [IntKind.wrap, IntKind.bits, IntKind.signed, hh] <;> omega
/-- The number that the first so many bytes tell. -/
def takeN (s : ByteArray) : Nat → Int
  | 0 => 0
  | i + 1 => takeN s i * 256 + ((s[i]!).toNat : Int)
theorem takeN_bd (s : ByteArray) : ∀ i, 0 ≤ takeN s i ∧ takeN s i < 256 ^ i
  | 0 => by simp [takeN]
  | i + 1 => by
    have h := takeN_bd s i
    have hb := (s[i]!).toNat_lt
    simp only [takeN]
    refine ⟨by omega, ?_⟩
    rw [Int.pow_succ]
    omega
theorem or_step (a b : Int) (h0 : 0 ≤ a) (h1 : a < 281474976710656) (b0 : 0 ≤ b) (b1 : b < 256) :
    IntKind.i64.wrap ((BitVec.ofInt IntKind.i64.bits (a * 256) ||| BitVec.ofInt IntKind.i64.bits b).toNat) = a * 256 + b := by
  obtain ⟨n, rfl⟩ : ∃ n : Nat, a = (n : Int) := ⟨a.toNat, by omega⟩
  obtain ⟨m, rfl⟩ : ∃ m : Nat, b = (m : Int) := ⟨b.toNat, by omega⟩
  have e2 : (BitVec.ofInt IntKind.i64.bits ((n : Int) * 256) ||| BitVec.ofInt IntKind.i64.bits (m : Int)).toNat = 256 * n + m := by
    rw [BitVec.toNat_or]
    have x1 : (BitVec.ofInt IntKind.i64.bits ((n : Int) * 256)).toNat = 2 ^ 8 * n := by
      simp only [BitVec.toNat_ofInt, IntKind.bits]
      omega
    have x2 : (BitVec.ofInt IntKind.i64.bits (m : Int)).toNat = m := by
      simp only [BitVec.toNat_ofInt, IntKind.bits]
      omega
    rw [x1, x2, ← Nat.two_pow_add_eq_or_of_lt (by omega)]
  rw [e2, wrap64_id (by omega) (by omega)]
  omega
theorem or_step0 (b : Int) (b0 : 0 ≤ b) (b1 : b < 256) :
    IntKind.i64.wrap ((BitVec.ofInt IntKind.i64.bits 0 ||| BitVec.ofInt IntKind.i64.bits b).toNat) = b := by
  have := or_step 0 b (by omega) (by omega) b0 b1
  simpa using this
/-- The lowest bytes of a number. -/
def dv (n : Int) : Nat → Int
  | 0 => n
  | j + 1 => n.fdiv (256 ^ (j + 1))
def nb (n : Int) : UInt8 := UInt8.ofNat (IntKind.u8.wrap n).toNat
def numL (n : Int) : Nat → List UInt8
  | 0 => []
  | k + 1 => nb (dv n k) :: numL n k
def numB (n : Int) (k : Nat) : ByteArray := ⟨(numL n k).toArray⟩
theorem numL_length (n : Int) : ∀ k, (numL n k).length = k
  | 0 => rfl
  | k + 1 => by simp [numL, numL_length n k]
theorem numB_size (n : Int) (k : Nat) : (numB n k).size = k := by simp [numB, ByteArray.size, numL_length]
theorem fdd (n a b : Int) (ha : 0 ≤ a) (hb : 0 ≤ b) : (n.fdiv a).fdiv b = n.fdiv (a * b) := by
  rw [Int.fdiv_eq_ediv_of_nonneg _ ha, Int.fdiv_eq_ediv_of_nonneg _ hb, Int.fdiv_eq_ediv_of_nonneg _ (Int.mul_nonneg ha hb)]
  first | exact Int.ediv_ediv_of_nonneg ha | exact Int.ediv_ediv ha
theorem fd1 (n : Int) : n.fdiv 1 = n := by simp
theorem ba_app (a b : Array UInt8) : (⟨a⟩ : ByteArray) ++ ⟨b⟩ = ⟨a ++ b⟩ := by simp [ByteArray.ext_iff]
theorem numB_1 (n : Int) : numB n 1 = ⟨#[nb n]⟩ := rfl
theorem numB_2 (n : Int) : numB n 2 = ⟨#[nb (n.fdiv 256), nb n]⟩ := rfl
theorem numB_4 (n : Int) : numB n 4 = ⟨#[nb (n.fdiv 16777216), nb (n.fdiv 65536), nb (n.fdiv 256), nb n]⟩ := rfl
theorem dv_nat (m j : Nat) : dv (m : Int) j = ((m / 256 ^ j : Nat) : Int) := by
  cases j with
  | zero => simp [dv]
  | succ j =>
    simp only [dv]
    rw [Int.fdiv_eq_ediv_of_nonneg _ (by exact_mod_cast Nat.zero_le _)]
    norm_cast
theorem nb_nat (x : Nat) : (nb (x : Int)).toNat = x % 256 := by
  have e : IntKind.u8.wrap (x : Int) = ((x % 256 : Nat) : Int) := by
    simp [IntKind.wrap, IntKind.bits, IntKind.signed]
  unfold nb
  rw [e]
  simp
  omega
theorem numL_get (m : Nat) : ∀ (k i : Nat), i < k → (numL (m : Int) k)[i]? = some (nb (dv (m : Int) (k - 1 - i)))
  | 0, i, h => by omega
  | k + 1, 0, _ => by simp [numL]
  | k + 1, i + 1, h => by
    simp only [numL, List.getElem?_cons_succ]
    rw [numL_get m k i (by omega)]
    have : k + 1 - 1 - (i + 1) = k - 1 - i := by omega
    rw [this]
theorem numB_at (m k i : Nat) (h : i < k) (more : ByteArray) : (((numB (m : Int) k ++ more)[i]!).toNat : Int) = ((m / 256 ^ (k - 1 - i) % 256 : Nat) : Int) := by
  have hs : i < (numB (m : Int) k).size := by rw [numB_size]; exact h
  have hs2 : i < (numB (m : Int) k ++ more).size := by rw [ByteArray.size_append]; omega
  rw [getElem!_pos (numB (m : Int) k ++ more) i hs2, ByteArray.getElem_append_left hs]
  have e : (numB (m : Int) k)[i] = nb (dv (m : Int) (k - 1 - i)) := by
    have h1 := numL_get m k i h
    have h2 : i < (numL (m : Int) k).length := by rw [numL_length]; exact h
    rw [List.getElem?_eq_getElem h2] at h1
    exact Option.some.inj h1
  rw [e, dv_nat, nb_nat]
/-- What was put is taken. -/
theorem takeN_num (m k : Nat) (hm : m < 256 ^ k) (more : ByteArray) : ∀ i, i ≤ k → takeN (numB (m : Int) k ++ more) i = ((m / 256 ^ (k - i) : Nat) : Int)
  | 0, _ => by
    simp only [takeN, Nat.sub_zero]
    rw [Nat.div_eq_of_lt hm]; rfl
  | i + 1, h => by
    simp only [takeN]
    rw [takeN_num m k hm more i (by omega), numB_at m k i (by omega)]
    have e1 : k - i = (k - 1 - i) + 1 := by omega
    have e2 : k - (i + 1) = k - 1 - i := by omega
    rw [e1, e2, Nat.pow_succ, ← Nat.div_div_eq_div_mul]
    generalize m / 256 ^ (k - 1 - i) = q
    omega
theorem takeN_numB (m k : Nat) (hm : m < 256 ^ k) (more : ByteArray) : takeN (numB (m : Int) k ++ more) k = (m : Int) := by
  rw [takeN_num m k hm more k (Nat.le_refl _)]; simp
theorem numB_rest (m : Int) (k : Nat) (more : ByteArray) (z : Nat) (hz : z = k + more.size) : (numB m k ++ more).extract k z = more := by
  subst hz
  exact ByteArray.extract_append_eq_right (by rw [numB_size]) (by rw [numB_size])
theorem ext_ext (s : ByteArray) (a b : Nat) : (s.extract a s.size).extract b (s.extract a s.size).size = s.extract (a + b) s.size := by
  rw [ByteArray.extract_extract, ByteArray.size_extract]
  congr 1
  omega
theorem ext_in (s : ByteArray) (a b c : Nat) (h : a + c ≤ s.size) : (s.extract a s.size).extract b c = s.extract (a + b) (a + c) := by
  rw [ByteArray.extract_extract]
  congr 1
  omega
theorem ext_all (s : ByteArray) : s.extract 0 s.size = s := ByteArray.extract_zero_size
theorem empty_append (x : ByteArray) : (⟨#[]⟩ : ByteArray) ++ x = x := by
  apply ByteArray.ext
  simp [ByteArray.data_append]
theorem append_empty' (x : ByteArray) : x ++ (⟨#[]⟩ : ByteArray) = x := by
  apply ByteArray.ext
  simp [ByteArray.data_append]
theorem ba_nil {s : ByteArray} (h : s.size = 0) : s = ⟨#[]⟩ := by
  apply ByteArray.ext
  exact Array.size_eq_zero_iff.1 h
theorem ba_at {s : ByteArray} {a b i : Nat} (h : a + i < b) (hb : b ≤ s.size) : ((s.extract a b)[i]!) = (s[a + i]!) := by
  have h1 : i < (s.extract a b).size := by rw [ByteArray.size_extract]; omega
  rw [getElem!_pos (s.extract a b) i h1, getElem!_pos s (a + i) (by omega), ByteArray.getElem_extract]
theorem takeN_congr {s t : ByteArray} : ∀ {k : Nat}, (∀ i, i < k → s[i]! = t[i]!) → takeN s k = takeN t k
  | 0, _ => rfl
  | k + 1, h => by
    simp only [takeN]
    rw [takeN_congr (k := k) fun i hi => h i (by omega), h k (by omega)]
/-- Bytes of a string, as a row. -/
def bytesR (s : ByteArray) : List Value := (s.data.map fun b => Value.int .u8 b.toNat).toList
theorem bytesR_len (s : ByteArray) : (bytesR s).length = s.size := by
  unfold bytesR; rw [Array.length_toList, Array.size_map]; rfl
theorem bytesR_at {s : ByteArray} {i : Nat} (h : i < s.size) : (bytesR s)[i]? = some (.int .u8 (s[i]!).toNat) := by
  rw [getElem!_pos s i h]
  have h2 : i < s.data.size := h
  simp [bytesR]
  exact ⟨s[i], by rw [Array.getElem?_eq_getElem h2]; rfl, rfl⟩
theorem bytesR_all (s : ByteArray) : (bytesR s).all isByte = true := by
  unfold bytesR
  rw [Array.toList_map, List.all_map]
  exact List.all_eq_true.2 fun _ _ => rfl
theorem byteV_nat (b : UInt8) : byteV (.int .u8 b.toNat) = b := by simp [byteV]
theorem bytesR_back (s : ByteArray) : bytesOf? (bytesR s) = some s := by
  unfold bytesOf?
  rw [if_pos (bytesR_all s)]
  congr 1
  apply ByteArray.ext
  simp only [bytesR, Array.toList_map, List.map_map]
  have : (byteV ∘ fun b : UInt8 => Value.int .u8 b.toNat) = id := by funext b; exact byteV_nat b
  rw [this]; simp
theorem bytesOf_some {l : List Value} (h : l.all isByte = true) : ∃ s, bytesOf? l = some s ∧ s.size = l.length := by
  refine ⟨⟨(l.map byteV).toArray⟩, by unfold bytesOf?; rw [if_pos h], by simp [ByteArray.size]⟩
theorem all_take {l : List Value} {n : Nat} (h : l.all isByte = true) : (l.take n).all isByte = true := by
  simp only [List.all_eq_true] at *
  exact fun x hx => h x (List.mem_of_mem_take hx)
theorem all_drop {l : List Value} {n : Nat} (h : l.all isByte = true) : (l.drop n).all isByte = true := by
  simp only [List.all_eq_true] at *
  exact fun x hx => h x (List.mem_of_mem_drop hx)
theorem all_wr {l m : List Value} {n : Nat} (h : l.all isByte = true) (hm : m.all isByte = true) : (wrList l n m).all isByte = true := by
  unfold wrList
  rw [List.all_append, List.all_append, all_take h, hm, all_drop h]; rfl
theorem wr_len {c l : List Value} {off : Nat} (h : off + l.length ≤ c.length) : (wrList c off l).length = c.length := by
  unfold wrList
  simp only [List.length_append, List.length_take, List.length_drop]
  omega
theorem toList_loop (bs : ByteArray) : ∀ (k i : Nat) (r : List UInt8), bs.size - i = k → ByteArray.toList.loop bs i r = r.reverse ++ bs.data.toList.drop i := by
  intro k
  induction k with
  | zero =>
    intro i r h
    unfold ByteArray.toList.loop
    rw [if_neg (by omega), List.drop_eq_nil_of_le (by have : bs.data.toList.length = bs.size := rfl; omega), List.append_nil]
  | succ k ih =>
    intro i r h
    unfold ByteArray.toList.loop
    have hi : i < bs.data.toList.length := by have : bs.data.toList.length = bs.size := rfl; omega
    rw [if_pos (by omega), ih (i + 1) _ (by omega), List.drop_eq_getElem_cons hi]
    have : bs.get! i = bs.data.toList[i] := by
      have h2 : i < bs.data.size := hi
      simp only [ByteArray.get!]
      rw [getElem!_pos bs.data i h2]; rfl
    rw [this]; simp
theorem toList_data (bs : ByteArray) : bs.toList = bs.data.toList := by
  unfold ByteArray.toList
  rw [toList_loop bs _ 0 [] rfl]; simp
theorem toList_beq (x y : ByteArray) : (x.toList == y.toList) = decide (x = y) := by
  rw [toList_data, toList_data]
  by_cases h : x = y
  · subst h; simp
  · have : ¬ x.data = y.data := fun e => h (ByteArray.ext e)
    simp [h, this]
theorem ba_ne {b : ByteArray} (h : 0 < b.size) : ¬ b = ⟨#[]⟩ := by intro e; subst e; exact absurd h (by decide)
theorem o_bool {E : Env} {L : List Res} {Q : Value → St → Prop} {x y : Bool} (h : x = y) (K : O E L (Q (.bool x))) : O E L (Q (.bool y)) := by subst h; exact K
end Go.Ab
