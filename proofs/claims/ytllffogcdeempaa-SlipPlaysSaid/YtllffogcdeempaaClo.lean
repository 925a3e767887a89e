/- A part of the proof that SlipPlays holds of every input. -/
import Derived.Test.YtllffogcdeempaaDel
namespace Go.Proofs.Ytllffogcdeempaa
open Go.Ab Go.RowKit
set_option linter.all false
set_option maxRecDepth 10000
set_option maxHeartbeats 2000000
section
attribute [local irreducible] O RO ROC ROCW W WR WLoop WHop WCall bindV evFunT OFun OFin OCond OReg OBack OBackP onward caught jumps BackK BackP RSV
theorem c24 {E : Env} (hP : E.P = Try.prog) (hprs : E.pairs = prs) {L R : List Res} {Q : Value → St → Prop} {d kk : Nat} {t : Tbl} (ht : hasT t 24 = false) {s : Value} {n : Nat} {c : List Value} (hs : Sel L (.row 0 s n c 33 13) R) (hn : n ≤ 100000) (hco : c.all oneCell = true)
    (hx : ∀ s', O E (.row 0 s' n c 33 13 :: .row 0 s n c 33 13 :: R) (Q s')) :
    O E L fun σ => WCall (evFunT E t kk (d + 1)) 24 [s] σ Q := by
  refine o_sel hs ?_
  clear hs
  refine o_rowlen .head fun hl => ?_
  refine o_fun 24 ?_
  refine of_code 8 [ResultVar.tmp 2] (by first | with_reducible assumption | exact envAtP) ht Try.func24 (by rfl) (by rfl) (by rfl) (by simp only [List.length_cons, List.length_nil, List.replicate, List.cons_append, List.nil_append, Nat.reduceAdd, Nat.reduceSub]; first | done | with_reducible rfl) ?_
  (repeat' (first | refine on_n ?_ | refine o_seq ?_ | (refine ro_cons ?_; first | refine ro_free (by rfl) ?_ | refine r_gT ?_ | (refine r_gF ?_; refine r_put ?_) | (refine r_gU ?_; refine r_put ?_) | (refine r_gP ?_ ?_ <;> intro hcond <;> (first | (exfalso; omega) | refine r_put ?_ | skip)) | (refine r_gN ?_ ?_ <;> intro hcond <;> (first | (exfalso; omega) | refine r_put ?_ | skip)) | (refine r_gB ?_ ?_ <;> intro hcond <;> (first | (exfalso; exact Bool.noConfusion hcond) | refine r_put ?_ | skip))) | (refine ro_w ?_; intro hwant; (first | (refine r_pure ?_; refine r_put ?_) | (refine r_load1 ?_; refine r_put ?_) | (refine r_loadN ?_; refine r_put ?_) | (refine r_store ?_; refine r_put ?_) | (refine r_alloc ?_; intro b; refine r_put ?_) | (refine r_convBS ?_; refine r_put ?_) | (refine r_slB ?_; (try simp only [Nat.zero_add, Nat.add_zero, Nat.sub_zero, Nat.zero_mul, Nat.mul_one]); refine r_put ?_) | (refine r_slB3 ?_; (try simp only [Nat.zero_add, Nat.add_zero, Nat.sub_zero, Nat.zero_mul, Nat.mul_one]); refine r_put ?_) | (refine r_copyB ?_; intro e'; refine r_put ?_) | (refine r_slR ?_; intro sa' sc' e'; (try simp only [Nat.zero_add, Nat.add_zero, Nat.sub_zero, Nat.zero_mul, List.drop_zero, Nat.mul_one]); refine r_put ?_) | (refine r_lenR ?_; refine r_put ?_) | (refine r_iaR ?_; intro b off hrow; (try simp only [Int.toNat_natCast, Int.reduceToNat, Nat.mul_one, Nat.reduceMul, Nat.add_zero]); refine r_put ?_) | (refine r_ldR1 ?_; refine r_put ?_) | (refine r_ldRN ?_; refine r_put ?_) | (refine r_stR ?_; intro e'; refine r_put ?_) | (refine r_appF ?_; intro sa' sc' e'; refine r_put ?_) | (refine r_app ?_; intro sa' sc' e'; refine r_put ?_) | (refine r_nilR ?_ ?_ <;> intro hnil <;> (try intro hn0) <;> refine r_put ?_) | (refine r_call ?_; intro r) | (refine r_callV ?_; intro r)) <;> clear hwant) | refine ro_nil ?_ | (refine g_region ?_; first | (refine r_reg ?_; intro base)) | (refine g_back ?_; refine r_back ?_) | (refine o_cond ?_; first | refine r_cT ?_ | refine r_cF ?_ | (refine r_cP ?_ ?_ <;> (intro hcond; try (exfalso; omega))) | (refine r_cN ?_ ?_ <;> (intro hcond; try (exfalso; omega))) | (refine r_cB ?_ ?_ <;> (intro hcond; first | exact Bool.noConfusion hcond | skip))) | refine o_skip ?_ | refine o_ret ?_ | refine on_r ?_ | refine on_e ?_ | refine on_g ?_ | refine ca_n ?_ | refine ca_r ?_ | refine ca_e ?_ | refine ca_ne (by decide) ?_ | refine ca_g ?_ | refine ju_n ?_ | refine ju_r ?_ | refine ju_e ?_ | refine ju_g (by rfl) ?_ | refine ju_ng (by rfl) ?_ | refine o_exit ?_ | refine o_goto ?_ | refine o_label ?_ | refine o_label_at ?_ | refine o_block ?_ | refine o_seq_at (by rfl) ?_ | refine o_seq_past (by rfl) ?_ | (refine o_fin_r ?_; refine r_fin ?_) | (refine o_fin_n ?_; refine r_fin ?_) | exact o_done rfl | fail))
  · exact o_nilR (by assumption) (hx _)
  · have h := hx (.slice sa' (0 + n) sc')
    rw [List.nil_append]
    rw [Nat.zero_add] at h ⊢
    exact O.ent (by (repeat (first | apply Ent.refl | apply Ent.nil | apply Ent.cons (by (repeat (first | apply Sel.head | apply Sel.tail)); first | done | fail) | apply Ent.skip)); first | done | fail) h
end
end Go.Proofs.Ytllffogcdeempaa
