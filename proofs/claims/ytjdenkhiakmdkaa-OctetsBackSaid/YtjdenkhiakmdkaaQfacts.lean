/- What OctetsBack's calls answer. -/
import Derived.Test.YtjdenkhiakmdkaaPtake
import Derived.Test.YtjdenkhiakmdkaaPnum
import Derived.Test.YtjdenkhiakmdkaaPtext
namespace Go.Proofs.Ytjdenkhiakmdkaa
open Go.Ab Go.RowKit
set_option linter.all false
set_option maxRecDepth 10000
set_option maxHeartbeats 16000000

theorem dv_nat (m j : Nat) : dv (m : Int) j = ((m / 256 ^ j : Nat) : Int) := by
  cases j with
  | zero => simp [dv]
  | succ j =>
    simp only [dv]
    rw [Int.fdiv_eq_ediv_of_nonneg _ (by exact_mod_cast Nat.zero_le _)]
    norm_cast
theorem byte_of (x : Nat) : (byteV (.int .u8 (IntKind.u8.wrap (x : Int)))).toNat = x % 256 := by
  have e : IntKind.u8.wrap (x : Int) = ((x % 256 : Nat) : Int) := by
    simp [IntKind.wrap, IntKind.bits, IntKind.signed]
  rw [e]
  simp [byteV]
  omega
theorem numL_get (m : Nat) : ∀ (k i : Nat), i < k → (numL (m : Int) k)[i]? = some (byteV (.int .u8 (IntKind.u8.wrap (dv (m : Int) (k - 1 - i)))))
  | 0, i, h => by omega
  | k + 1, 0, _ => by simp [numL]
  | k + 1, i + 1, h => by
    simp only [numL, List.getElem?_cons_succ]
    rw [numL_get m k i (by omega)]
    have : k + 1 - 1 - (i + 1) = k - 1 - i := by omega
    rw [this]
theorem numB_at (m k i : Nat) (h : i < k) (more : ByteArray) : (((numB (m : Int) k ++ more)[i]!).toNat : Int) = ((m / 256 ^ (k - 1 - i) % 256 : Nat) : Int) := by
  have hs : i < (numB (m : Int) k).size := by rw [numB_size]; exact h
  have hs2 : i < (numB (m : Int) k ++ more).size := by rw [ByteArray.size_append]; omega
  rw [getElem!_pos (numB (m : Int) k ++ more) i hs2, ByteArray.getElem_append_left hs]
  have e : (numB (m : Int) k)[i] = byteV (.int .u8 (IntKind.u8.wrap (dv (m : Int) (k - 1 - i)))) := by
    have h1 := numL_get m k i h
    have h2 : i < (numL (m : Int) k).length := by rw [numL_length]; exact h
    rw [List.getElem?_eq_getElem h2] at h1
    exact Option.some.inj h1
  rw [e, dv_nat, byte_of]
theorem takeN_num (m k : Nat) (hm : m < 256 ^ k) (more : ByteArray) : ∀ i, i ≤ k → takeN (numB (m : Int) k ++ more) i = ((m / 256 ^ (k - i) : Nat) : Int)
  | 0, _ => by
    simp only [takeN, Nat.sub_zero]
    rw [Nat.div_eq_of_lt hm]; rfl
  | i + 1, h => by
    simp only [takeN]
    rw [takeN_num m k hm more i (by omega), numB_at m k i (by omega)]
    have e1 : k - i = (k - 1 - i) + 1 := by omega
    have e2 : k - (i + 1) = k - 1 - i := by omega
    rw [e1, e2, Nat.pow_succ, ← Nat.div_div_eq_div_mul]
    generalize m / 256 ^ (k - 1 - i) = q
    omega
theorem take_back (m k : Nat) (hm : m < 256 ^ k) (more : ByteArray) : takeR (numB (m : Int) k ++ more) k = .tuple #[.int .i64 (m : Int), .string more, .int .i64 0] := by
  have hs : (numB (m : Int) k ++ more).size = k + more.size := by rw [ByteArray.size_append, numB_size]
  unfold takeR
  rw [if_neg (by omega), takeN_num m k hm more k (Nat.le_refl _), hs]
  simp only [Nat.sub_self, Nat.pow_zero, Nat.div_one]
  congr 4
  have := ByteArray.extract_append_eq_right (a := numB (m : Int) k) (b := more) (i := k) (j := k + more.size) (by rw [numB_size]) (by rw [numB_size])
  rw [this]
theorem b1_nat (n : Nat) (h : n < 256) : (byteV (.int .u8 (IntKind.u8.wrap (n : Int)))).toNat = n := by rw [byte_of]; omega
theorem u_first (s x : ByteArray) (h : s.size ≤ 255) : (((b1 (s.size : Int) ++ s ++ x)[0]!).toNat) = s.size := by
  have hs : 0 < (b1 (s.size : Int) ++ s ++ x).size := by rw [ByteArray.size_append, ByteArray.size_append, b1_size]; omega
  rw [getElem!_pos (b1 (s.size : Int) ++ s ++ x) 0 hs, ByteArray.getElem_append_left (by rw [ByteArray.size_append, b1_size]; omega), ByteArray.getElem_append_left (by rw [b1_size]; omega)]
  exact b1_nat s.size (by omega)
theorem u_back (s more : ByteArray) (h : s.size ≤ 255) : s10 [.string (b1 (s.size : Int) ++ s ++ more), .int .i64 255] = some (.tuple #[.string s, .string more, .int .i64 0]) := by
  have hz : (b1 (s.size : Int) ++ s).size = 1 + s.size := by rw [ByteArray.size_append, b1_size]
  have hs : (b1 (s.size : Int) ++ s ++ more).size = 1 + s.size + more.size := by rw [ByteArray.size_append, hz]
  rw [tt_all _ _ (by omega), u_first s more h]
  unfold ttR
  rw [if_neg (by omega), if_neg (by omega)]
  have e1 : (b1 (s.size : Int) ++ s ++ more).extract (1 + s.size) (b1 (s.size : Int) ++ s ++ more).size = more :=
    ByteArray.extract_append_eq_right hz.symm (by rw [hs, hz])
  have e2 : (b1 (s.size : Int) ++ s ++ more).extract 1 (1 + s.size) = s := by
    rw [ByteArray.append_assoc]
    have : (b1 (s.size : Int) ++ (s ++ more)).extract 1 (1 + s.size) = ((b1 (s.size : Int) ++ (s ++ more)).extract 1 (b1 (s.size : Int) ++ (s ++ more)).size).extract 0 s.size := by
      rw [ByteArray.extract_extract]
      congr 1
      rw [ByteArray.size_append, ByteArray.size_append, b1_size]
      omega
    rw [this, ByteArray.extract_append_eq_right (b1_size _).symm (by rw [ByteArray.size_append]), ByteArray.extract_append_eq_left rfl]
  rw [e1, e2]
theorem u_cut (s : ByteArray) (h : s.size ≤ 255) (z : Nat) (hz : z < 1 + s.size) : s10 [.string ((b1 (s.size : Int) ++ s).extract 0 z), .int .i64 255] = some (.tuple #[.string ⟨#[]⟩, .string ((b1 (s.size : Int) ++ s).extract 0 z), .int .i64 11]) := by
  have hu : (b1 (s.size : Int) ++ s).size = 1 + s.size := by rw [ByteArray.size_append, b1_size]
  have hc : ((b1 (s.size : Int) ++ s).extract 0 z).size = z := by rw [ByteArray.size_extract, hu]; omega
  by_cases h0 : z = 0
  · exact tt_none _ _ (by rw [hc]; exact h0)
  · rw [tt_all _ _ (by omega)]
    have hf : (((b1 (s.size : Int) ++ s).extract 0 z)[0]!).toNat = s.size := by
      rw [getElem!_pos ((b1 (s.size : Int) ++ s).extract 0 z) 0 (by show 0 < ByteArray.size _; omega), ByteArray.getElem_extract]
      have := u_first s ByteArray.empty h
      rw [ByteArray.append_empty, getElem!_pos (b1 (s.size : Int) ++ s) 0 (by show 0 < ByteArray.size _; omega)] at this
      simpa using this
    unfold ttR
    rw [hf, hc, if_neg (by omega), if_pos (by omega)]
theorem take_at (s : ByteArray) (k : Nat) (h1 : 1 ≤ k) (h7 : k ≤ 7) : s8 [.string s, .int .i64 (k : Int)] = some (takeR s k) := by
  have h : k = 1 ∨ k = 2 ∨ k = 3 ∨ k = 4 ∨ k = 5 ∨ k = 6 ∨ k = 7 := by omega
  rcases h with rfl | rfl | rfl | rfl | rfl | rfl | rfl
  · exact take_1 s
  · exact take_2 s
  · exact take_3 s
  · exact take_4 s
  · exact take_5 s
  · exact take_6 s
  · exact take_7 s 7 (by decide)
theorem num_at (n : Int) (k : Nat) (h1 : 1 ≤ k) (h7 : k ≤ 7) : s13 [.int .i64 n, .int .i64 (k : Int)] = some (.string (numB n k)) := by
  have h : k = 1 ∨ k = 2 ∨ k = 3 ∨ k = 4 ∨ k = 5 ∨ k = 6 ∨ k = 7 := by omega
  rcases h with rfl | rfl | rfl | rfl | rfl | rfl | rfl
  · exact num_1 n
  · exact num_2 n
  · exact num_3 n
  · exact num_4 n
  · exact num_5 n
  · exact num_6 n
  · exact num_7 n 7 (by decide)
end Go.Proofs.Ytjdenkhiakmdkaa
