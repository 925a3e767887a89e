/- A part of the proof that DialOrders holds of every input. -/
import Derived.Test.YtafojiikgppdgaaDel
import Derived.Test.YtafojiikgppdgaaFwG3
import Derived.Test.YtafojiikgppdgaaRows 
namespace Go.Proofs.Ytafojiikgppdgaa
open Go.Ab Go.RowKit
set_option linter.all false
set_option maxRecDepth 10000
set_option maxHeartbeats 2000000
noncomputable def s7 : List Value → Option Value := evG Try.prog prs TIns 1000000 10 7
noncomputable def T7 : Tbl := (7, lift s7) :: TIns
theorem T7ok : TblOK Try.prog T7 := TblOK.consG mixed prsOk TInsOk 7 1000000 10
theorem known_eq : s7 [] = some (.bool true) := by kernel_rfl
theorem call7_7 {E : Env} {k d : Nat} {args : List Value} {σ : St} {Q : Value → St → Prop} : WCall (evFunT E T7 k d) 7 args σ Q = bindV (s7 args) fun v => Q v σ := by
  rw [wcallT (by kernel_rfl)]; exact wcall_pure
theorem insCall {E : Env} {k d : Nat} {args : List Value} {σ : St} {Q : Value → St → Prop} : WCall (evFunT E T7 k d) 22 args σ Q = bindV (sIns Try.prog 55 2 args σ) fun x => Q x.1 x.2 := by
  rw [wcallT (by kernel_rfl)]
  show WCall (callT ((7, _) :: (22, _) :: _)) 22 args σ Q = _
  rw [wcall_skip (by decide)]
  exact wcall_head
theorem c22 {E : Env} (hP : E.P = Try.prog) {L R R' : List Res} {Q : Value → St → Prop} {k d : Nat} {s : Value} {n i vb vc : Nat} {c cv : List Value} {ev : TypeId} (h1 : Sel L (.row 0 s n c 55 2) R') (h2 : Sel R' (.blk vb cv ev true) R) (hc : capOk s) (hi : i ≤ n) (hn : n ≤ 1000000) (hco : c.all oneCell = true)
   (K : ∀ a q, capOk (.slice a (n + 1) q) → O E (.row 0 (.slice a (n + 1) q) (n + 1) (c.take (i * 2) ++ (cv ++ c.drop (i * 2))) 55 2 :: .blk vb cv ev true :: R) (Q (.slice a (n + 1) q))) (hcv : cv.all oneCell = true := by rfl) (hl : cv.length = 2 := by rfl) (hu8 : isU8 Try.prog ev = false := by kernel_rfl) (hvc : 0 < vc := by decide) :
   O E L fun σ => WCall (evFunT E T7 k d) 22 [s, .int .i64 (i : Nat), .slice (some ⟨vb, 0, none⟩) 1 vc] σ Q := by
  have h := of_ins (f := 22) (voff := 0) (k := k) (d := d) hP (fun _ _ => insCall) rfl rfl ⟨R', h1, h2⟩ hi hc hu8 hn (by omega) hvc hcv hco (by rw [List.drop_zero, List.take_of_length_le (by omega)]) (fun s' hs' => o_shape .head (by rintro a q rfl; exact K a q hs'))
  exact h
attribute [local irreducible] O RO ROC ROCW W WR WLoop WHop WCall bindV evFunT OFun OFin OCond OReg OBack OBackP onward caught jumps BackK BackP RSV
theorem d24 {E : Env} (hP : E.P = Try.prog) (hprs : E.pairs = prs) {L R : List Res} {Q : Value → St → Prop} {d kk : Nat} {t : Tbl} {s : Value} {n : Nat} {c : List Value} (hs : Sel L (.row 0 s n c 55 2) R) (hc : capOk s) (hco : c.all oneCell = true) (iv jv : Int) (i j : Nat) (hiv : iv = i) (hjv : jv = j) (hi : i ≤ j) (hj : j ≤ n)
    (hx : ∀ a q, capOk (.slice a (i + (n - j)) q) → O E (.row 0 (.slice a (i + (n - j)) q) (i + (n - j)) (c.take (i * 2) ++ c.drop (j * 2)) 55 2 :: R) (Q (.slice a (i + (n - j)) q))) (ht : hasT t 24 = false := by kernel_rfl) :
    O E L fun σ => WCall (evFunT E t kk (d + 1)) 24 [s, .int .i64 iv, .int .i64 jv] σ Q := by
  subst hiv hjv
  exact c24 hP hprs ht hs hc hi hj hco fun s' hs' => o_shape .head (by rintro a q rfl; exact hx a q hs')
theorem d24z {E : Env} (hP : E.P = Try.prog) (hprs : E.pairs = prs) {L R : List Res} {Q : Value → St → Prop} {d kk : Nat} {t : Tbl} {s : Value} {n : Nat} {c : List Value} (hs : Sel L (.row 0 s n c 55 2) R) (hc : capOk s) (hco : c.all oneCell = true) (jv : Int) (j : Nat) (hjv : jv = j) (hj : j ≤ n)
    (hx : ∀ a q, capOk (.slice a (n - j) q) → O E (.row 0 (.slice a (n - j) q) (n - j) (c.drop (j * 2)) 55 2 :: R) (Q (.slice a (n - j) q))) (ht : hasT t 24 = false := by kernel_rfl) :
    O E L fun σ => WCall (evFunT E t kk (d + 1)) 24 [s, .int .i64 0, .int .i64 jv] σ Q :=
  d24 hP hprs hs hc hco 0 jv 0 j rfl hjv (Nat.zero_le _) hj (by simpa only [Nat.zero_add, Nat.zero_mul, List.take_zero, List.nil_append] using hx) ht
end Go.Proofs.Ytafojiikgppdgaa
