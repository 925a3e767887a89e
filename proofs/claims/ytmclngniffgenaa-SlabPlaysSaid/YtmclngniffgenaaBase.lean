/- A part of the proof that SlabPlays holds of every input. -/
import Derived.Test.YtmclngniffgenaaRules
import Derived.Test.YtmclngniffgenaaRows 
import Derived.Test.YtmclngniffgenaaFwG3
namespace Go.Proofs.Ytmclngniffgenaa
open Go.Ab Go.RowKit
set_option linter.all false
set_option maxRecDepth 10000
set_option maxHeartbeats 2000000
noncomputable def s8 : List Value → Option Value := evG Try.prog prs ([] : Tbl) 1000000 10 8
noncomputable def T8 : Tbl := (8, lift s8) :: ([] : Tbl)
theorem T8ok : TblOK Try.prog T8 := TblOK.consG mixed prsOk (TblOK.nil Try.prog) 8 1000000 10
theorem call8_8 {E : Env} {k d : Nat} {args : List Value} {σ : St} {Q : Value → St → Prop} : WCall (evFunT E T8 k d) 8 args σ Q = bindV (s8 args) fun v => Q v σ := by
  rw [wcallT (by kernel_rfl)]; unfold T8
  exact wcall_pure
theorem known_eq : s8 [] = some (.bool true) := by kernel_rfl
/-- A body: its handle, its block, its bytes, how often it is held, when it was put. -/
structure Bd where
  h : Int
  p : Nat
  s : ByteArray
  n : Int
  c : Nat
def entB (bs : List Bd) : List (Int × Value × Nat) := bs.map fun x => (x.h, .pointer (some ⟨x.p, 0, none⟩), x.c)
def bodB (bs : List Bd) : List (Nat × List Value × TypeId × Bool) := bs.map fun x => (x.p, [.string x.s, .int .i64 x.n], 61, true)
theorem entB_len (bs : List Bd) : (entB bs).length = bs.length := by simp [entB]
theorem entB_nil : entB [] = [] := rfl
theorem bodB_nil : bodB [] = [] := rfl
theorem entB_mid (A B : List Bd) (x : Bd) : entB (A ++ x :: B) = entB A ++ (x.h, .pointer (some ⟨x.p, 0, none⟩), x.c) :: entB B := by simp [entB]
theorem bodB_mid (A B : List Bd) (x : Bd) : bodB (A ++ x :: B) = bodB A ++ (x.p, [.string x.s, .int .i64 x.n], 61, true) :: bodB B := by simp [bodB]
theorem bodB_app (A B : List Bd) : bodB (A ++ B) = bodB A ++ bodB B := by simp [bodB]
theorem entB_app (A B : List Bd) : entB (A ++ B) = entB A ++ entB B := by simp [entB]
theorem mfind_y {A B : List Bd} {x : Bd} (h : ∀ y ∈ A, y.h ≠ x.h) : mfind x.h (entB (A ++ x :: B)) = some (.pointer (some ⟨x.p, 0, none⟩)) := by
  induction A with
  | nil => simp [entB, mfind]
  | cons a A ih =>
    have := h a (by simp)
    have h2 := ih fun y hy => h y (by simp [hy])
    simpa [entB, mfind, this] using h2
theorem mfind_n {bs : List Bd} {v : Int} (h : ∀ y ∈ bs, y.h ≠ v) : mfind v (entB bs) = none := by
  induction bs with
  | nil => simp [entB, mfind]
  | cons a A ih =>
    have := h a (by simp)
    have h2 := ih fun y hy => h y (by simp [hy])
    simpa [entB, mfind, this] using h2
theorem mset_n {bs : List Bd} {v : Int} {w : Value} (h : ∀ y ∈ bs, y.h ≠ v) : mset v w (entB bs) = none := by
  induction bs with
  | nil => simp [entB, mset]
  | cons a A ih =>
    have := h a (by simp)
    have h2 := ih fun y hy => h y (by simp [hy])
    simpa [entB, mset, this] using h2
theorem mdel_y {A B : List Bd} {x : Bd} (h : ∀ y ∈ A, y.h ≠ x.h) : mdel x.h (entB (A ++ x :: B)) = entB (A ++ B) := by
  induction A with
  | nil => simp [entB, mdel]
  | cons a A ih =>
    have := h a (by simp)
    have h2 := ih fun y hy => h y (by simp [hy])
    simpa [entB, mdel, this] using h2
theorem find_h (bs : List Bd) (v : Int) : (∃ A x B, bs = A ++ x :: B ∧ x.h = v ∧ ∀ y ∈ A, y.h ≠ v) ∨ ∀ y ∈ bs, y.h ≠ v := by
  induction bs with
  | nil => exact .inr (by simp)
  | cons a bs ih =>
    by_cases h : a.h = v
    · exact .inl ⟨[], a, bs, rfl, h, by simp⟩
    · rcases ih with ⟨A, x, B, rfl, hx, hA⟩ | ih
      · exact .inl ⟨a :: A, x, B, rfl, hx, fun y hy => by rcases List.mem_cons.1 hy with rfl | hy; exact h; exact hA y hy⟩
      · exact .inr fun y hy => by rcases List.mem_cons.1 hy with rfl | hy; exact h; exact ih y hy
/-- How much so many bytes take. -/
def cls (n : Int) : Int := if n ≤ 0 then 0 else if n ≤ 32 then 32 else if n ≤ 64 then 64 else if n ≤ 128 then 128 else if n ≤ 256 then 256 else 0
theorem cls_lo (n : Int) : 0 ≤ cls n := by unfold cls; repeat' split <;> omega
theorem cls_hi (n : Int) : cls n ≤ 256 := by unfold cls; repeat' split <;> omega
end Go.Proofs.Ytmclngniffgenaa
