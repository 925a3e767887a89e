/- A part of the proof that OutboxOrder holds of every input. -/
import Derived.Test.YtpcbfbjoiknbhaaBld
namespace Go.Proofs.Ytpcbfbjoiknbhaa
open Go.Ab Go.RowKit
set_option linter.all false
set_option maxRecDepth 10000
set_option maxHeartbeats 2000000
/-- The state behind WriteString. -/
def wrNil (a : Addr) (u x y : Value) (s : ByteArray) (σ : St) : St :=
  ⟨((σ.heap.set a.block (some (.cells [.pointer (some a), u, x, y] 44 true))).set σ.next (some (.froz (bytesR s) 5))).set a.block (some (.cells [.pointer (some a), .slice (some ⟨σ.next, 0, none⟩) s.size s.size, x, y] 44 true)), σ.next + 1⟩
def wrSome (a g : Addr) (u x y : Value) (n : Nat) (cs : List Value) (s : ByteArray) (σ : St) : St :=
  ⟨(((σ.heap.set a.block (some (.cells [.pointer (some a), u, x, y] 44 true))).set g.block none).set σ.next (some (.froz (cs ++ bytesR s) 5))).set a.block (some (.cells [.pointer (some a), .slice (some ⟨σ.next, 0, none⟩) (n + s.size) (n + s.size), x, y] 44 true)), σ.next + 1⟩
/-- WriteString of a builder that lies at the head of an object. -/
def sWr (args : List Value) (σ : St) : Option (Value × St) :=
  match args with
  | [.pointer (some a), .string s] =>
    match σ.heap.get a.block with
    | some (.cells [.pointer q, u, x, y] e true) =>
      if e = 44 ∧ a.off = 0 ∧ a.spot = none ∧ 0 < s.size ∧ s.size ≤ 1000000000 ∧ (q = none ∨ q = some a) then
        match u with
        | .slice none 0 0 => some (.tuple #[.int .i64 s.size, .nilIface], wrNil a u x y s σ)
        | .slice (some g) n m =>
          match σ.heap.get g.block with
          | some (.froz cs e2) => if e2 = 5 ∧ g.off = 0 ∧ m = n ∧ cs.length = n ∧ 0 < n ∧ n + s.size ≤ 1000000000 ∧ cs.all isByte = true then some (.tuple #[.int .i64 s.size, .nilIface], wrSome a g u x y n cs s σ) else none
          | _ => none
        | _ => none
      else none
    | _ => none
  | _ => none
/-- String. -/
def sStr (args : List Value) (σ : St) : Option (Value × St) :=
  match args with
  | [.pointer (some a)] =>
    match σ.heap.get a.block with
    | some (.cells [q, u, x, y] e true) =>
      if e = 44 ∧ a.off = 0 ∧ a.spot = none then
        match u with
        | .slice none 0 0 => some (.string .empty, σ)
        | .slice (some g) n m =>
          match σ.heap.get g.block with
          | some (.froz cs e2) =>
            match bytesOf? cs with
            | some s => if e2 = 5 ∧ g.off = 0 ∧ m = n ∧ cs.length = n ∧ 0 < n ∧ n ≤ 1000000000 ∧ beqL cs (bytesR s) = true then some (.string s, σ) else none
            | none => none
          | _ => none
        | _ => none
      else none
    | _ => none
  | _ => none
theorem sWr_inv {args : List Value} {σ σ' : St} {v : Value} (h : sWr args σ = some (v, σ')) : ∃ (a : Addr) (s : ByteArray) (q : Option Addr) (u x y : Value), args = [.pointer (some a), .string s] ∧ σ.heap.get a.block = some (.cells [.pointer q, u, x, y] 44 true) ∧ a.off = 0 ∧ a.spot = none ∧ 0 < s.size ∧ s.size ≤ 1000000000 ∧ (q = none ∨ q = some a) ∧ v = .tuple #[.int .i64 s.size, .nilIface] ∧
    ((u = .slice none 0 0 ∧ σ' = wrNil a u x y s σ) ∨ ∃ (g : Addr) (n : Nat) (cs : List Value), u = .slice (some g) n n ∧ σ.heap.get g.block = some (.froz cs 5) ∧ g.off = 0 ∧ cs.length = n ∧ 0 < n ∧ n + s.size ≤ 1000000000 ∧ cs.all isByte = true ∧ σ' = wrSome a g u x y n cs s σ) := by
  unfold sWr at h
  split at h
  case h_2 => cases h
  rename_i a s
  split at h
  case h_2 => cases h
  rename_i q u x y e hg
  split at h
  case isFalse => cases h
  rename_i hc
  obtain ⟨rfl, c1, c2, c3, c4, c5⟩ := hc
  refine ⟨a, s, q, u, x, y, rfl, hg, c1, c2, c3, c4, c5, ?_⟩
  split at h
  · cases h; exact ⟨rfl, .inl ⟨rfl, rfl⟩⟩
  · rename_i g n m
    split at h
    case h_2 => cases h
    rename_i cs e2 hg2
    split at h
    case isFalse => cases h
    rename_i hc2
    obtain ⟨rfl, d1, rfl, d2, d3, d4, d5⟩ := hc2
    cases h
    exact ⟨rfl, .inr ⟨g, _, cs, rfl, hg2, d1, d2, d3, d4, d5, rfl⟩⟩
  · cases h
theorem sWr_nil {a : Addr} {s : ByteArray} {q : Option Addr} {x y : Value} {σ : St} (hg : σ.heap.get a.block = some (.cells [.pointer q, .slice none 0 0, x, y] 44 true)) (c1 : a.off = 0) (c2 : a.spot = none) (c3 : 0 < s.size) (c4 : s.size ≤ 1000000000) (c5 : q = none ∨ q = some a) :
    sWr [.pointer (some a), .string s] σ = some (.tuple #[.int .i64 s.size, .nilIface], wrNil a (.slice none 0 0) x y s σ) := by
  unfold sWr; simp only [hg]; rw [if_pos ⟨trivial, c1, c2, c3, c4, c5⟩]
theorem sWr_some {a g : Addr} {s : ByteArray} {q : Option Addr} {x y : Value} {n : Nat} {cs : List Value} {σ : St} (hg : σ.heap.get a.block = some (.cells [.pointer q, .slice (some g) n n, x, y] 44 true)) (c1 : a.off = 0) (c2 : a.spot = none) (c3 : 0 < s.size) (c4 : s.size ≤ 1000000000) (c5 : q = none ∨ q = some a)
    (hg2 : σ.heap.get g.block = some (.froz cs 5)) (d1 : g.off = 0) (d2 : cs.length = n) (d3 : 0 < n) (d4 : n + s.size ≤ 1000000000) (d5 : cs.all isByte = true) :
    sWr [.pointer (some a), .string s] σ = some (.tuple #[.int .i64 s.size, .nilIface], wrSome a g (.slice (some g) n n) x y n cs s σ) := by
  unfold sWr; simp only [hg]; rw [if_pos ⟨trivial, c1, c2, c3, c4, c5⟩]; simp only [hg2]; rw [if_pos ⟨trivial, d1, trivial, d2, d3, d4, d5⟩]
theorem sWr_mono : FnMono sWr := by
  intro args σ v σ' n x hn hlt h
  obtain ⟨a, s, q, u, x1, y1, rfl, hg, c1, c2, c3, c4, c5, rfl, hh⟩ := sWr_inv h
  have hna : a.block ≠ n := by rintro rfl; rw [hn] at hg; cases hg
  have hnn : σ.next ≠ n := by omega
  have hg' : (σ.heap.set n x).get a.block = some (.cells [.pointer q, u, x1, y1] 44 true) := by rw [T.get_set_ne _ _ _ _ hna]; exact hg
  clear h
  rcases hh with ⟨rfl, rfl⟩ | ⟨g, k, cs, rfl, hg2, d1, d2, d3, d4, d5, rfl⟩
  · refine ⟨?_, by simp [wrNil], ?_⟩
    · simp only [wrNil]
      rw [T.get_set_ne _ _ _ _ (Ne.symm hna), T.get_set_ne _ _ _ _ (Ne.symm hnn), T.get_set_ne _ _ _ _ (Ne.symm hna)]; exact hn
    · rw [sWr_nil (σ := ⟨σ.heap.set n x, σ.next⟩) hg' c1 c2 c3 c4 c5]
      simp only [wrNil]
      rw [T.set_comm _ _ _ _ _ (Ne.symm hna), T.set_comm _ _ _ _ _ (Ne.symm hnn), T.set_comm _ _ _ _ _ (Ne.symm hna)]
  · have hng : g.block ≠ n := by rintro rfl; rw [hn] at hg2; cases hg2
    have hg2' : (σ.heap.set n x).get g.block = some (.froz cs 5) := by rw [T.get_set_ne _ _ _ _ hng]; exact hg2
    refine ⟨?_, by simp [wrSome], ?_⟩
    · simp only [wrSome]
      rw [T.get_set_ne _ _ _ _ (Ne.symm hna), T.get_set_ne _ _ _ _ (Ne.symm hnn), T.get_set_ne _ _ _ _ (Ne.symm hng), T.get_set_ne _ _ _ _ (Ne.symm hna)]; exact hn
    · rw [sWr_some (σ := ⟨σ.heap.set n x, σ.next⟩) hg' c1 c2 c3 c4 c5 hg2' d1 d2 d3 d4 d5]
      simp only [wrSome]
      rw [T.set_comm _ _ _ _ _ (Ne.symm hna), T.set_comm _ _ _ _ _ (Ne.symm hng), T.set_comm _ _ _ _ _ (Ne.symm hnn), T.set_comm _ _ _ _ _ (Ne.symm hna)]
theorem sStr_inv {args : List Value} {σ σ' : St} {v : Value} (h : sStr args σ = some (v, σ')) : σ' = σ ∧ ∃ (a : Addr) (q u x y : Value), args = [.pointer (some a)] ∧ σ.heap.get a.block = some (.cells [q, u, x, y] 44 true) ∧ a.off = 0 ∧ a.spot = none ∧
    ((u = .slice none 0 0 ∧ v = .string .empty) ∨ ∃ (g : Addr) (n : Nat) (s : ByteArray), u = .slice (some g) n n ∧ σ.heap.get g.block = some (.froz (bytesR s) 5) ∧ g.off = 0 ∧ s.size = n ∧ 0 < n ∧ n ≤ 1000000000 ∧ v = .string s) := by
  unfold sStr at h
  split at h
  case h_2 => cases h
  rename_i a
  split at h
  case h_2 => cases h
  rename_i q u x y e hg
  split at h
  case isFalse => cases h
  rename_i hc
  obtain ⟨rfl, c1, c2⟩ := hc
  split at h
  · cases h; exact ⟨rfl, a, q, _, x, y, rfl, hg, c1, c2, .inl ⟨rfl, rfl⟩⟩
  · rename_i g n m
    split at h
    case h_2 => cases h
    rename_i cs e2 hg2
    split at h
    case h_2 => cases h
    rename_i s hs
    split at h
    case isFalse => cases h
    rename_i hc2
    obtain ⟨rfl, d1, rfl, d2, d3, d4, d5⟩ := hc2
    cases h
    have := beqL_eq d5
    subst this
    rw [bytesR_len] at d2
    exact ⟨rfl, a, q, _, x, y, rfl, hg, c1, c2, .inr ⟨g, _, s, rfl, hg2, d1, d2, d3, d4, rfl⟩⟩
  · cases h
theorem beqF_self {v : Value} (h : isByte v = true) : beqF v v = true := by
  cases v <;> simp_all [isByte, beqF]
theorem beqL_self : ∀ {l : List Value}, l.all isByte = true → beqL l l = true
  | [], _ => rfl
  | a :: l, h => by
    simp only [List.all_cons, Bool.and_eq_true] at h
    simp only [beqL, Bool.and_eq_true]
    exact ⟨beqF_self h.1, beqL_self h.2⟩
theorem sStr_nil {a : Addr} {q x y : Value} {σ : St} (hg : σ.heap.get a.block = some (.cells [q, .slice none 0 0, x, y] 44 true)) (c1 : a.off = 0) (c2 : a.spot = none) : sStr [.pointer (some a)] σ = some (.string .empty, σ) := by
  unfold sStr; simp only [hg]; rw [if_pos ⟨trivial, c1, c2⟩]
theorem sStr_some {a g : Addr} {q x y : Value} {n : Nat} {s : ByteArray} {σ : St} (hg : σ.heap.get a.block = some (.cells [q, .slice (some g) n n, x, y] 44 true)) (c1 : a.off = 0) (c2 : a.spot = none) (hg2 : σ.heap.get g.block = some (.froz (bytesR s) 5)) (d1 : g.off = 0) (d2 : s.size = n) (d3 : 0 < n) (d4 : n ≤ 1000000000) :
    sStr [.pointer (some a)] σ = some (.string s, σ) := by
  unfold sStr; simp only [hg]; rw [if_pos ⟨trivial, c1, c2⟩]; simp only [hg2, bytesR_back]; rw [if_pos ⟨trivial, d1, trivial, by rw [bytesR_len]; exact d2, d3, d4, beqL_self (bytesR_all s)⟩]
theorem sStr_mono : FnMono sStr := by
  intro args σ v σ' n x hn hlt h
  obtain ⟨rfl, a, q, u, x1, y1, rfl, hg, c1, c2, hh⟩ := sStr_inv h
  have hna : a.block ≠ n := by rintro rfl; rw [hn] at hg; cases hg
  have hg' : (σ'.heap.set n x).get a.block = some (.cells [q, u, x1, y1] 44 true) := by rw [T.get_set_ne _ _ _ _ hna]; exact hg
  clear h
  rcases hh with ⟨rfl, rfl⟩ | ⟨g, k, s, rfl, hg2, d1, d2, d3, d4, rfl⟩
  · exact ⟨hn, Nat.le_refl _, sStr_nil (σ := ⟨σ'.heap.set n x, σ'.next⟩) hg' c1 c2⟩
  · have hng : g.block ≠ n := by rintro rfl; rw [hn] at hg2; cases hg2
    have hg2' : (σ'.heap.set n x).get g.block = some (.froz (bytesR s) 5) := by rw [T.get_set_ne _ _ _ _ hng]; exact hg2
    exact ⟨hn, Nat.le_refl _, sStr_some (σ := ⟨σ'.heap.set n x, σ'.next⟩) hg' c1 c2 hg2' d1 d2 d3 d4⟩
end Go.Proofs.Ytpcbfbjoiknbhaa
