/- A part of the proof that QueueEmpties holds of every input. -/
import Derived.Test.YtkdngcoblohhjaaP0
namespace Go.Proofs.Ytkdngcoblohhjaa
open Go.Ab Go.RowKit
set_option linter.all false
set_option maxRecDepth 10000
set_option maxHeartbeats 4000000
def en (i : Nat) (pr ti : Int) : Entry := ⟨(i : Int) + 1, 0, 0, ⟨#[]⟩, ⟨#[]⟩, pr, 0, ti, false, 0⟩
theorem Rk.nodup {m : List Entry} (hm : Rk m) : m.Nodup := hm.up.imp fun h e => by subst e; unfold lessE at h; omega
theorem Rk.same : ∀ {m l : List Entry}, Rk m → Rk l → (∀ y, y ∈ m ↔ y ∈ l) → m = l
  | [], [], _, _, _ => rfl
  | [], y :: l, _, _, h => by have := (h y).2 (by simp); cases this
  | x :: m, [], _, _, h => by have := (h x).1 (by simp); cases this
  | x :: m, y :: l, h1, h2, h => by
    have a1 := List.pairwise_cons.1 h1.up
    have a2 := List.pairwise_cons.1 h2.up
    have e : x = y := by
      rcases List.mem_cons.1 ((h x).1 (by simp)) with e | hx
      · exact e
      · rcases List.mem_cons.1 ((h y).2 (by simp)) with e | hy
        · exact e.symm
        · exact absurd (a1.1 y hy) (less_asym (a2.1 x hx))
    subst e
    have nx : ∀ {z : Entry} {q : List Entry}, (∀ a' ∈ q, lessE x a') → z ∈ q → z ≠ x := fun ha hz e => by
      have := ha _ hz; rw [e] at this; unfold lessE at this; omega
    rw [Rk.same (m := m) (l := l) ⟨a1.2, fun z hz => h1.bd z (by simp [hz])⟩ ⟨a2.2, fun z hz => h2.bd z (by simp [hz])⟩ fun z => ⟨fun hz => ?_, fun hz => ?_⟩]
    · rcases List.mem_cons.1 ((h z).1 (by simp [hz])) with e | hz2
      · exact absurd e (nx a1.1 hz)
      · exact hz2
    · rcases List.mem_cons.1 ((h z).2 (by simp [hz])) with e | hz2
      · exact absurd e (nx a2.1 hz)
      · exact hz2
theorem cover_len {m : List Entry} {n : Nat} {f : Nat → Entry} (hm : m.Nodup) (hf : ∀ i j, f i = f j → i = j) (h1 : ∀ y ∈ m, ∃ j, j < n ∧ y = f j) (h2 : ∀ j, j < n → f j ∈ m) : m.length = n := by
  have hn : ((List.range n).map f).Nodup := by
    unfold List.Nodup
    rw [List.pairwise_map]
    exact (List.nodup_range (n := n)).imp fun h e => h (hf _ _ e)
  have := (List.perm_ext_iff_of_nodup hm hn).2 fun y => by
    rw [List.mem_map]
    constructor
    · intro hy
      obtain ⟨j, hj, rfl⟩ := h1 y hy
      exact ⟨j, List.mem_range.2 hj, rfl⟩
    · rintro ⟨j, hj, rfl⟩
      exact h2 j (List.mem_range.1 hj)
  simpa using this.length_eq
attribute [local irreducible] O RO ROC ROCW W WR WLoop WHop WCall bindV evFunT OFun OFin OCond OReg OBack OBackP onward caught jumps BackK BackP RSV
section
variable {E : Env} (hP : E.P = Try.prog) (hpr : E.pairs = prs) {d : Nat} {Q : Value → St → Prop} {L R R1 R2 R3 : List Res} {p : Nat} {sl : Value} {el : TypeId} {x : Bool} {m : List Entry}
include hP hpr
/-- Put, of one whose Prio may be. -/
theorem c23a (h1 : Sel L (.blk p [sl] el x) R) (h2 : Sel R (.row 0 sl m.length (flat entC m) 32 10) R1) (hco : capOk sl) (hn : m.length ≤ 1000) (hm : Rk m) (s : Entry) (hb1 : 0 ≤ s.prio) (hb2 : s.prio ≤ 3)
   (K : ∀ sl' m' bb, capOk sl' → Rk m' → (∀ y ∈ m', y ∈ m ∨ y = s) → (∀ y ∈ m, y ∈ m') → (∃ y ∈ m', y.id = s.id) → m'.length ≤ m.length + 1 → O E (.blk p [sl'] el x :: .row 0 sl' m'.length (flat entC m') 32 10 :: R1) (Q (.bool bb))) : O E L fun σ => WCall (evFunT E T7 1000000 (d + 4)) 23 [.pointer (some ⟨p, 0, none⟩), .agg #[.int .i64 s.id, .int .i64 s.body, .int .i64 s.size, .string s.exch, .string s.key, .int .i64 s.prio, .int .i64 s.ttl, .int .i64 s.till, .bool s.again, .int .i64 s.hops]] σ Q := by
  rcases find_id m s.id with ⟨k, y, hy, hid, hne⟩ | hne
  · exact c23h hP hpr h1 h2 hn s hb1 hb2 k hne y hy hid (K sl m false hco hm (fun _ h => .inl h) (fun _ h => h) ⟨y, List.mem_of_getElem? hy, hid⟩ (by omega))
  · have hf : fresh m s := fun y hy => by
      obtain ⟨j, hj⟩ := List.getElem?_of_mem hy
      have := hne j y hj; omega
    exact c23y hP hpr h1 h2 hco hn s hb1 hb2 hne (pk m s) pk_le pk_lt (pk_ge hf) fun sl' hc => K sl' _ true hc (hm.put hb1 hb2 pk_lt (pk_ge hf)) (fun y hy => (putAt_mem.1 hy).symm) (fun y hy => putAt_mem.2 (.inr hy)) ⟨s, putAt_mem.2 (.inl rfl), rfl⟩ (by rw [putAt_len pk_le]; omega)
end
end Go.Proofs.Ytkdngcoblohhjaa
