/- A part of the proof that SlipConsumers holds of every input. -/
import Derived.Test.YtllffogcdeempaaG
namespace Go.Proofs.Ytllffogcdeempaa
open Go.Ab Go.RowKit
set_option linter.all false
set_option maxRecDepth 10000
def chr (k : Nat) : ByteArray := ⟨#[UInt8.ofNat (97 + (k : Int)).toNat]⟩
def sc (t : Nat) (k : Nat) : Slip := ⟨t, 0, chr k, ⟨0, 0, 0, ⟨#[]⟩, ⟨#[]⟩, 0, 0, 0, false, 0⟩⟩
def ms (W : Nat → Nat) (i : Nat) : List Slip := (List.range i).map fun j => sc (j + 1) (W j)
def nl (m : List Slip) : List Int := (List.range 4).map fun k => (cnt m (chr k) : Int)
theorem chr_inj : ∀ a < 4, ∀ b < 4, chr a = chr b → a = b := by
  intro a ha b hb h
  have h2 : (chr a).data[0]? = (chr b).data[0]? := by rw [h]
  simp only [chr, List.getElem?_toArray, List.getElem?_cons_zero, Option.some.injEq] at h2
  have h3 := congrArg UInt8.toNat h2
  simp only [UInt8.toNat_ofNat'] at h3
  omega
theorem chr_z : ∀ a < 4, ¬ chr a = ⟨#[122]⟩ := by
  intro a ha h
  have h2 : (chr a).data[0]? = ((⟨#[122]⟩ : ByteArray)).data[0]? := by rw [h]
  simp only [chr, List.getElem?_toArray, List.getElem?_cons_zero, Option.some.injEq] at h2
  have h3 := congrArg UInt8.toNat h2
  simp only [UInt8.toNat_ofNat'] at h3
  have : (122 : UInt8).toNat = 122 := rfl
  rw [this] at h3
  omega
theorem ms_len {W : Nat → Nat} {i : Nat} : (ms W i).length = i := by simp [ms]
theorem ms_succ {W : Nat → Nat} {i : Nat} : ms W (i + 1) = ms W i ++ [sc (i + 1) (W i)] := by simp [ms, List.range_succ]
theorem ms_get {W : Nat → Nat} {n i : Nat} (h : i < n) : (ms W n)[i]? = some (sc (i + 1) (W i)) := by simp [ms, h]
theorem ms_lt {W : Nat → Nat} {n t : Nat} : ∀ j y, j < t → (ms W n)[j]? = some y → y.tag < ((t + 1 : Nat) : Int) := by
  intro j y hj hy
  have hl : j < n := by have := (List.getElem?_eq_some_iff.1 hy).1; rwa [ms_len] at this
  rw [ms_get hl] at hy; cases hy
  simp only [sc]; omega
theorem nl_len {m : List Slip} : (nl m).length = 4 := by simp [nl]
theorem nl_get {m : List Slip} {k : Nat} (h : k < 4) : (nl m)[k]? = some (cnt m (chr k) : Int) := by simp [nl, h]
theorem nl_set {m m' : List Slip} {k : Nat} {v : Int} (h : k < 4) (hk : (cnt m' (chr k) : Int) = v) (hj : ∀ j, j < 4 → j ≠ k → cnt m' (chr j) = cnt m (chr j)) : (nl m).set k v = nl m' := by
  apply List.ext_getElem?
  intro j
  by_cases hl : j < 4
  · rw [nl_get hl, List.getElem?_set]
    by_cases e : k = j
    · subst e; rw [if_pos rfl, if_pos (by rw [nl_len]; exact h), hk]
    · rw [if_neg e, nl_get hl, hj j hl (Ne.symm e)]
  · rw [List.getElem?_eq_none (by rw [List.length_set, nl_len]; omega), List.getElem?_eq_none (by rw [nl_len]; omega)]
theorem nl_add {m : List Slip} {t k : Nat} (h : k < 4) : (nl m).set k ((cnt m (chr k) : Int) + 1) = nl (m ++ [sc t k]) :=
  nl_set h (by simp [cnt, sc]) fun j hj hjk => by
    simp only [cnt, List.countP_append, List.countP_singleton, sc]
    rw [decide_eq_false (fun e => hjk (chr_inj j hj k h e.symm))]; simp
theorem nl_cut {A B : List Slip} {t k : Nat} (h : k < 4) : (nl (A ++ sc t k :: B)).set k ((cnt (A ++ sc t k :: B) (chr k) : Int) - 1) = nl (A ++ B) :=
  nl_set h (by simp [cnt, List.countP_append, List.countP_cons, sc]; omega) fun j hj hjk => by
    simp only [cnt, List.countP_append, List.countP_cons, sc]
    rw [decide_eq_false (fun e => hjk (chr_inj j hj k h e.symm))]; simp
theorem nl_nil : nl [] = List.replicate 4 0 := by decide
def good (W : Nat → Nat) (m : List Slip) : Prop := ∀ y ∈ m, ∃ t k, y = sc t k ∧ k < 4 ∧ t ≤ 1000
theorem cnt_z {W : Nat → Nat} {m : List Slip} (h : good W m) : cnt m ⟨#[122]⟩ = 0 := by
  unfold cnt
  rw [List.countP_eq_zero]
  intro y hy
  obtain ⟨t, k, rfl, hk, _⟩ := h y hy
  exact fun e => chr_z k hk (of_decide_eq_true e)
theorem good_ms {W : Nat → Nat} {n : Nat} (hW : ∀ j, j < n → W j < 4) (hn : n ≤ 60) : good W (ms W n) := by
  intro y hy
  simp only [ms, List.mem_map, List.mem_range] at hy
  obtain ⟨j, hj, rfl⟩ := hy
  exact ⟨_, _, rfl, hW j hj, by omega⟩
theorem good_le {W : Nat → Nat} {m : List Slip} (h : good W m) {y : Slip} (hy : y ∈ m) : y.tag ≤ 1000000 := by
  obtain ⟨t, k, rfl, _, ht⟩ := h y hy
  simp only [sc]; omega
end Go.Proofs.Ytllffogcdeempaa
