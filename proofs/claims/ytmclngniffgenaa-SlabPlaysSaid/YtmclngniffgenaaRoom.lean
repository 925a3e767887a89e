/- A part of the proof that SlabPlays holds of every input. -/
import Derived.Test.YtmclngniffgenaaD
namespace Go.Proofs.Ytmclngniffgenaa
open Go.Ab Go.RowKit
set_option linter.all false
set_option maxRecDepth 10000
set_option maxHeartbeats 4000000
/-- So many bodies of so many bytes. -/
structure Rm (k i : Nat) (bs : List Bd) : Prop where
  ln : bs.length = i
  rg : ∀ y ∈ bs, y.h ≤ i ∧ y.n = 1 ∧ y.s.size = k
  un : bs.Pairwise fun x y => x.h ≠ y.h
  ex : ∀ j : Nat, j < i → ∃ y ∈ bs, y.h = (j : Int) + 1
theorem Rm.nil (k : Nat) : Rm k 0 [] := ⟨rfl, by simp, List.Pairwise.nil, fun j hj => by omega⟩
theorem Rm.fresh {k i : Nat} {bs : List Bd} (h : Rm k i bs) : ∀ y ∈ bs, y.h ≠ (i : Int) + 1 := fun y hy => by have := (h.rg y hy).1; omega
theorem Rm.put {k i : Nat} {bs : List Bd} (h : Rm k i bs) {q ck : Nat} {s : ByteArray} (hs : s.size = k) : Rm k (i + 1) (bs ++ [⟨(i : Int) + 1, q, s, 1, ck⟩]) := by
  refine ⟨by simp [h.ln], fun y hy => ?_, ?_, fun j hj => ?_⟩
  · rcases List.mem_append.1 hy with hy | hy
    · have := h.rg y hy
      exact ⟨by omega, this.2⟩
    · obtain rfl := List.mem_singleton.1 hy
      exact ⟨by simp, rfl, hs⟩
  · refine List.pairwise_append.2 ⟨h.un, List.pairwise_singleton _ _, fun a ha b hb => ?_⟩
    obtain rfl := List.mem_singleton.1 hb
    exact h.fresh a ha
  · by_cases e : j = i
    · subst e; exact ⟨_, List.mem_append_right _ (List.mem_singleton.2 rfl), rfl⟩
    · obtain ⟨y, hy, e⟩ := h.ex j (by omega)
      exact ⟨y, List.mem_append_left _ hy, e⟩
theorem Rm.take {k i : Nat} {bs : List Bd} (h : Rm k i bs) {j : Nat} (hj : j < i) : ∃ A x B, bs = A ++ x :: B ∧ x.h = (j : Int) + 1 ∧ (∀ y ∈ A, y.h ≠ x.h) ∧ x.n = 1 ∧ x.s.size = k ∧ (A ++ B).length + 1 = i ∧ (∀ y ∈ A ++ B, y.h ≠ (j : Int) + 1) ∧ ∀ y ∈ A ++ B, y.h ≠ (i : Int) + 1 := by
  obtain ⟨z, hz, ez⟩ := h.ex j hj
  rcases find_h bs ((j : Int) + 1) with ⟨A, x, B, rfl, hx, hA⟩ | hn
  · have hr := h.rg x (by simp)
    obtain ⟨u1, u2, u3⟩ := List.pairwise_append.1 h.un
    obtain ⟨u4, u5⟩ := List.pairwise_cons.1 u2
    refine ⟨A, x, B, rfl, hx, fun y hy => by rw [hx]; exact hA y hy, hr.2.1, hr.2.2, by have := h.ln; simp at this ⊢; omega, fun y hy => ?_, fun y hy => ?_⟩
    · rcases List.mem_append.1 hy with hy | hy
      · exact hA y hy
      · rw [← hx]; exact (u4 y hy).symm
    · refine h.fresh y ?_
      rcases List.mem_append.1 hy with hy | hy <;> simp [hy]
  · exact (hn z hz ez).elim
def fR (m c i : Int) : Int := (m - i) * c + c - 1
theorem fR_0 (m c : Int) : fR m c 0 = m * c + c - 1 := by unfold fR; rw [Int.sub_zero]
theorem fR_s (m c i : Int) : fR m c (i + 1) = fR m c i - c := by
  unfold fR; rw [show m - (i + 1) = (m - i) - 1 by omega, Int.sub_mul, Int.one_mul]; omega
theorem fR_m (m c : Int) : fR m c m = c - 1 := by unfold fR; rw [Int.sub_self, Int.zero_mul]; omega
theorem fR_lo {m c i : Int} (h : i < m) (hc : 1 ≤ c) : c ≤ fR m c i := by
  unfold fR
  have : 1 * c ≤ (m - i) * c := Int.mul_le_mul_of_nonneg_right (by omega) (by omega)
  omega
theorem fR_hi {m c i : Int} (h : 0 ≤ i) (hi : i ≤ m) (hm : m ≤ 20) (hc : 1 ≤ c) (hc2 : c ≤ 256) : 0 ≤ fR m c i ∧ fR m c i ≤ 6000 := by
  unfold fR
  have h1 : (m - i) * c ≤ 20 * c := Int.mul_le_mul_of_nonneg_right (by omega) (by omega)
  have h2 : 0 ≤ (m - i) * c := Int.mul_nonneg (by omega) (by omega)
  omega
def hsR (i : Nat) : List Int := (List.range i).map fun j : Nat => (j : Int) + 1
theorem hsR_len (i : Nat) : (hsR i).length = i := by simp [hsR]
theorem hsR_s (i : Nat) : hsR (i + 1) = hsR i ++ [(i : Int) + 1] := by simp [hsR, List.range_succ]
theorem hsR_get {i j : Nat} (h : j < i) : (hsR i)[j]? = some ((j : Int) + 1) := by simp [hsR, h]
theorem cls_pos {k : Int} (h : 1 ≤ k) (h2 : k ≤ 256) : 32 ≤ cls k ∧ cls k ≤ 256 := by unfold cls; repeat' split <;> omega
attribute [local irreducible] O RO ROC ROCW W WR WLoop WHop WCall bindV evFunT OFun OFin OCond OReg OBack OBackP onward caught jumps BackK BackP RSV
theorem walkRoom (w : World) (n : Int) (wn : 0 ≤ n ∧ n ≤ 255) (r : Int) (wr : 0 ≤ r ∧ r ≤ 255) (q : Int) (wq : 0 ≤ q ∧ q ≤ 255) :
    Calls Try.prog 6 #[.int .u8 n, .int .u8 r, .int .u8 q] w fun e w' => e = .returned (.bool true) ∧ Below w.heap.size w w' := by
  refine law_O (t := T8) (k := 1000000) (d := 20) mixed prsOk T8ok ?_ rfl ?_
  · intro x hx; simp only [List.mem_cons, List.not_mem_nil, or_false] at hx; rcases hx with rfl | rfl | rfl <;> (right; rfl)
  have hP : (envAt Try.prog prs w).P = Try.prog := rfl
  have hpr : (envAt Try.prog prs w).pairs = prs := rfl
  obtain ⟨k, e1⟩ : ∃ k : Nat, n % 256 + 1 = k := ⟨(n % 256 + 1).toNat, by omega⟩
  obtain ⟨mm, e2⟩ : ∃ k : Nat, r % 20 + 1 = k := ⟨(r % 20 + 1).toNat, by omega⟩
  have hq1 : 0 ≤ q % (mm : Int) := Int.emod_nonneg _ (by omega)
  have hq2 : q % (mm : Int) < mm := Int.emod_lt_of_pos _ (by omega)
  obtain ⟨j, e3⟩ : ∃ k : Nat, q % (mm : Int) = k := ⟨(q % (mm : Int)).toNat, by omega⟩
  obtain ⟨c1, c2⟩ := cls_pos (k := k) (by omega) (by omega)
  generalize hck : cls k = c at c1 c2
  have g1 := fR_hi (m := mm) (c := c) (i := 0) (by omega) (by omega) (by omega) (by omega) c2
  rw [fR_0] at g1
  have e4 : min (max ((mm : Int) * c + c - 1) 0) 100000 = fR mm c 0 := by rw [fR_0]; omega
  have h0 : ((0 : Int) < (mm : Int)) = True := by simp only [eq_iff_iff, iff_true]; omega
  have g2 : 0 ≤ (mm : Int) * c := Int.mul_nonneg (by omega) (by omega)
  have hz := bytes_rep (n := k)
  (refine o_fun 6 ?_; refine of_code 132 [ResultVar.tmp 6] (by first | with_reducible assumption | exact envAtP) (by kernel_rfl) Try.func6 (by rfl) (by rfl) (by rfl) (by simp only [List.length_cons, List.length_nil, List.replicate, List.cons_append, List.nil_append, Nat.reduceAdd, Nat.reduceSub]; first | done | with_reducible rfl) ?_)
  (have fx := And.intro (known_eq) (And.intro (e1) (e2)); repeat' (first | refine on_n ?_ | refine o_seq ?_ | (refine ro_cons ?_; first | refine ro_free (by rfl) ?_ | refine r_gT ?_ | (refine r_gF ?_; refine r_put ?_) | (refine r_gU ?_; refine r_put ?_) | (refine r_gP ?_ ?_ <;> intro hcond <;> (first | (exfalso; omega) | refine r_put ?_ | skip)) | (refine r_gN ?_ ?_ <;> intro hcond <;> (first | (exfalso; omega) | refine r_put ?_ | skip)) | (refine r_gB ?_ ?_ <;> intro hcond <;> (first | (exfalso; exact Bool.noConfusion hcond) | refine r_put ?_ | skip))) | (refine ro_w ?_; intro hwant; (first | (refine q_pure ?_; refine r_put ?_) | (refine q_load1 ?_; refine r_put ?_) | (refine q_loadN ?_; refine r_put ?_) | (refine q_store ?_; refine r_put ?_) | (refine q_allocQ ?_; intro b hb; refine r_put ?_) | (refine q_convBS ?_; refine r_put ?_) | (refine q_lookY ?_; refine r_put ?_) | (refine q_lookN ?_; refine r_put ?_) | (refine q_mapSet ?_; refine r_put ?_) | (refine q_mapNew ?_; refine r_put ?_) | (refine q_mapDel ?_; refine r_put ?_) | (refine q_lenM ?_; refine r_put ?_) | (refine q_makeMap ?_; intro b; refine r_put ?_) | (refine q_slB ?_; (try simp only [Nat.zero_add, Nat.add_zero, Nat.sub_zero, Nat.zero_mul, Nat.mul_one, fx]); refine r_put ?_) | (refine q_slB3 ?_; (try simp only [Nat.zero_add, Nat.add_zero, Nat.sub_zero, Nat.zero_mul, Nat.mul_one, fx]); refine r_put ?_) | (refine q_copyB ?_; intro e'; refine r_put ?_) | (refine q_slR ?_; intro sa' sc' e'; (try simp only [Nat.zero_add, Nat.add_zero, Nat.sub_zero, Nat.zero_mul, List.drop_zero, Nat.mul_one, fx]); refine r_put ?_) | (refine q_lenR ?_; refine r_put ?_) | (refine q_iaR ?_; intro b off hrow; (try simp only [Int.toNat_natCast, Int.reduceToNat, Nat.mul_one, Nat.reduceMul, Nat.add_zero, fx]); refine r_put ?_) | (refine q_ldR1 ?_; refine r_put ?_) | (refine q_ldRN ?_; refine r_put ?_) | (refine q_stR ?_; intro e'; refine r_put ?_) | (refine q_appQ ?_; intro sa' sc' e' hu hr; refine r_put ?_) | (refine q_nilR ?_ ?_ <;> intro hnil <;> (try intro hn0) <;> refine r_put ?_) | (refine q_call ?_; intro r) | (refine q_callV ?_; intro r) | (refine q_callP ?_; intro r s0 hs0)) <;> clear hwant) | refine ro_nil ?_ | (refine g_region ?_; first | (refine r_reg ?_; intro base) | (refine r_regQ _ ?_; intro base hlt hnd)) | (refine g_back ?_; refine r_back ?_) | (refine g_backP ?_; refine r_backP ?_; intro s1 hs1) | (refine o_fun 24 ?_; refine of_O ?_; refine c24 (by first | with_reducible assumption | exact envAtP) (by first | with_reducible assumption | rfl) _ ?_; rw [hck]) | (refine o_fun 9 ?_; refine of_O ?_; refine c9 (by first | with_reducible assumption | exact envAtP) (by first | with_reducible assumption | rfl) _ ?_; intro p m; rw [e4]) | (refine o_fun 8 ?_; refine of_tbl (fun _ => call8_8) (by first | with_reducible assumption | exact fx.1 | (simp only [fx]; done)) ?_) | (refine o_cond ?_; first | refine r_cT ?_ | refine r_cF ?_ | (refine r_cP ?_ ?_ <;> (intro hcond; try (exfalso; omega))) | (refine r_cN ?_ ?_ <;> (intro hcond; try (exfalso; omega))) | (refine r_cB ?_ ?_ <;> (intro hcond; first | exact Bool.noConfusion hcond | skip))) | refine o_skip ?_ | refine o_ret ?_ | refine on_r ?_ | refine on_e ?_ | refine on_g ?_ | refine ca_n ?_ | refine ca_r ?_ | refine ca_e ?_ | refine ca_ne (by decide) ?_ | refine ca_g ?_ | refine ju_n ?_ | refine ju_r ?_ | refine ju_e ?_ | refine ju_g (by rfl) ?_ | refine ju_ng (by rfl) ?_ | refine o_exit ?_ | refine o_goto ?_ | refine o_label ?_ | refine o_label_at ?_ | refine o_block ?_ | refine o_seq_at (by rfl) ?_ | refine o_seq_past (by rfl) ?_ | (refine o_fin_r ?_; refine q_fin ?_) | (refine o_fin_n ?_; refine q_fin ?_) | exact o_done rfl | refine r_pairs ?_ | fail))
  refine o_nilrow (e := 3) (sz := 1) ?_
  refine o_loopE (fun i fr L' => ∃ sH bs, (∃ ts : Nat → Value, fr = (ts 0 :: ts 1 :: (.int .u8 q) :: ts 3 :: ts 4 :: ts 5 :: ts 6 :: (.int .i64 (k : Nat)) :: (.int .i64 c) :: (.int .i64 (mm : Nat)) :: (.pointer (some ⟨p, 0, none⟩)) :: (sH) :: (.int .i64 (i : Nat)) :: ts 13 :: ts 14 :: ts 15 :: ts 16 :: ts 17 :: ts 18 :: ts 19 :: ts 20 :: ts 21 :: ts 22 :: ts 23 :: ts 24 :: ts 25 :: ts 26 :: ts 27 :: ts 28 :: ts 29 :: ts 30 :: ts 31 :: ts 32 :: ts 33 :: ts 34 :: ts 35 :: ts 36 :: ts 37 :: ts 38 :: ts 39 :: ts 40 :: ts 41 :: ts 42 :: ts 43 :: ts 44 :: ts 45 :: ts 46 :: ts 47 :: ts 48 :: ts 49 :: ts 50 :: ts 51 :: ts 52 :: ts 53 :: ts 54 :: ts 55 :: ts 56 :: ts 57 :: ts 58 :: ts 59 :: ts 60 :: ts 61 :: ts 62 :: ts 63 :: ts 64 :: ts 65 :: ts 66 :: ts 67 :: ts 68 :: ts 69 :: ts 70 :: ts 71 :: ts 72 :: ts 73 :: ts 74 :: ts 75 :: ts 76 :: ts 77 :: ts 78 :: ts 79 :: ts 80 :: ts 81 :: ts 82 :: ts 83 :: ts 84 :: ts 85 :: ts 86 :: ts 87 :: ts 88 :: ts 89 :: ts 90 :: ts 91 :: ts 92 :: ts 93 :: ts 94 :: ts 95 :: ts 96 :: ts 97 :: ts 98 :: ts 99 :: ts 100 :: ts 101 :: ts 102 :: ts 103 :: ts 104 :: ts 105 :: ts 106 :: ts 107 :: ts 108 :: ts 109 :: ts 110 :: ts 111 :: ts 112 :: ts 113 :: ts 114 :: ts 115 :: ts 116 :: ts 117 :: ts 118 :: ts 119 :: ts 120 :: ts 121 :: ts 122 :: ts 123 :: ts 124 :: ts 125 :: ts 126 :: ts 127 :: ts 128 :: ts 129 :: ts 130 :: ts 131 :: [])) ∧ Rm k i bs ∧ L' = .row 0 sH (hsR i).length (flat intC (hsR i)) 3 1 :: (.blk p [.map (some m), .int .i64 (i : Nat), .int .i64 (fR mm c (i : Nat))] 58 true) :: .obj m (.mp .i64 (entB bs) i) :: .many (bodB bs) :: []) mm (by omega) ⟨_, _, exists_ts (by rfl), Rm.nil k, rfl⟩ (by (repeat (first | apply Ent.refl | apply Ent.nil | apply Ent.cons (by (repeat (first | apply Sel.head | apply Sel.tail)); first | done | fail) | apply Ent.skip)); first | done | fail) ?_
  rintro i fr L' hi ⟨sH, bs, ⟨ts, rfl⟩, hR, rfl⟩
  have ll := flat_size intC_len (l := hsR i)
  have lh := hsR_len i
  have ln := hR.ln
  have hzs := zs_size (n := k)
  have hcz : cls ((zs k).size : Int) = c := by rw [hzs, hck]
  have g3 := fR_hi (m := mm) (c := c) (i := i) (by omega) (by omega) (by omega) (by omega) c2
  refine o_shape .head ?_
  rintro sa sq rfl
  have hf := hR.fresh
  by_cases hik : i < mm
  · have g4 := fR_lo (m := mm) (c := c) (i := i) (by omega) (by omega)
    have g5 := fR_s mm c i
    (have fx := hz; repeat' (first | refine on_n ?_ | refine o_seq ?_ | (refine ro_cons ?_; first | refine ro_free (by rfl) ?_ | refine r_gT ?_ | (refine r_gF ?_; refine r_put ?_) | (refine r_gU ?_; refine r_put ?_) | (refine r_gP ?_ ?_ <;> intro hcond <;> (first | (exfalso; omega) | refine r_put ?_ | skip)) | (refine r_gN ?_ ?_ <;> intro hcond <;> (first | (exfalso; omega) | refine r_put ?_ | skip)) | (refine r_gB ?_ ?_ <;> intro hcond <;> (first | (exfalso; exact Bool.noConfusion hcond) | refine r_put ?_ | skip))) | (refine ro_w ?_; intro hwant; (first | (refine q_pure ?_; refine r_put ?_) | (refine q_load1 ?_; refine r_put ?_) | (refine q_loadN ?_; refine r_put ?_) | (refine q_store ?_; refine r_put ?_) | (refine q_allocQ ?_; intro b hb; refine r_put ?_) | (refine q_convBS ?_; refine r_put ?_) | (refine q_lookY ?_; refine r_put ?_) | (refine q_lookN ?_; refine r_put ?_) | (refine q_mapSet ?_; refine r_put ?_) | (refine q_mapNew ?_; refine r_put ?_) | (refine q_mapDel ?_; refine r_put ?_) | (refine q_lenM ?_; refine r_put ?_) | (refine q_makeMap ?_; intro b; refine r_put ?_) | (refine q_slB ?_; (try simp only [Nat.zero_add, Nat.add_zero, Nat.sub_zero, Nat.zero_mul, Nat.mul_one, fx]); refine r_put ?_) | (refine q_slB3 ?_; (try simp only [Nat.zero_add, Nat.add_zero, Nat.sub_zero, Nat.zero_mul, Nat.mul_one, fx]); refine r_put ?_) | (refine q_copyB ?_; intro e'; refine r_put ?_) | (refine q_slR ?_; intro sa' sc' e'; (try simp only [Nat.zero_add, Nat.add_zero, Nat.sub_zero, Nat.zero_mul, List.drop_zero, Nat.mul_one, fx]); refine r_put ?_) | (refine q_lenR ?_; refine r_put ?_) | (refine q_iaR ?_; intro b off hrow; (try simp only [Int.toNat_natCast, Int.reduceToNat, Nat.mul_one, Nat.reduceMul, Nat.add_zero, fx]); refine r_put ?_) | (refine q_ldR1 ?_; refine r_put ?_) | (refine q_ldRN ?_; refine r_put ?_) | (refine q_stR ?_; intro e'; refine r_put ?_) | (refine q_appQ ?_; intro sa' sc' e' hu hr; refine r_put ?_) | (refine q_nilR ?_ ?_ <;> intro hnil <;> (try intro hn0) <;> refine r_put ?_) | (refine q_call ?_; intro r) | (refine q_callV ?_; intro r) | (refine q_callP ?_; intro r s0 hs0)) <;> clear hwant) | refine ro_nil ?_ | (refine g_region ?_; first | (refine r_reg ?_; intro base) | (refine r_regQ _ ?_; intro base hlt hnd)) | (refine g_back ?_; refine r_back ?_) | (refine g_backP ?_; refine r_backP ?_; intro s1 hs1) | (refine o_fun 11 ?_; refine of_O ?_; refine c11o (by first | with_reducible assumption | exact envAtP) (by first | with_reducible assumption | rfl) (by (repeat (first | apply Sel.head | apply Sel.tail)); first | done | fail) (by (repeat (first | apply Sel.head | apply Sel.tail)); first | done | fail) (by (repeat (first | apply Sel.head | apply Sel.tail)); first | done | fail) _ (by first | omega | (simp; first | done | omega)) (by first | omega | (simp; first | done | omega)) (by first | omega | (simp; first | done | omega)) (by first | omega | (simp; first | done | omega)) (by first | omega | (simp; first | done | omega)) (by first | with_reducible assumption | assumption) ?_; intro b'; rw [hcz, ← g5]) | (refine o_cond ?_; first | refine r_cT ?_ | refine r_cF ?_ | (refine r_cP ?_ ?_ <;> (intro hcond; try (exfalso; omega))) | (refine r_cN ?_ ?_ <;> (intro hcond; try (exfalso; omega))) | (refine r_cB ?_ ?_ <;> (intro hcond; first | exact Bool.noConfusion hcond | skip))) | refine o_skip ?_ | refine o_ret ?_ | refine on_r ?_ | refine on_e ?_ | refine on_g ?_ | refine ca_n ?_ | refine ca_r ?_ | refine ca_e ?_ | refine ca_ne (by decide) ?_ | refine ca_g ?_ | refine ju_n ?_ | refine ju_r ?_ | refine ju_e ?_ | refine ju_g (by rfl) ?_ | refine ju_ng (by rfl) ?_ | refine o_exit ?_ | refine o_goto ?_ | refine o_label ?_ | refine o_label_at ?_ | refine o_block ?_ | refine o_seq_at (by rfl) ?_ | refine o_seq_past (by rfl) ?_ | (refine o_fin_r ?_; refine q_fin ?_) | (refine o_fin_n ?_; refine q_fin ?_) | exact o_done rfl | refine r_pairs ?_ | fail))
    refine o_next hik ⟨.slice sa' ((hsR i).length + 1) sc', bs ++ [⟨(i : Int) + 1, b', zs k, 1, i⟩], exists_ts (by rfl), hR.put hzs, rfl⟩ ?_
    rw [hsR_s, flat_snoc, len_snoc]
    exact (by (repeat (first | apply Ent.refl | apply Ent.nil | apply Ent.cons (by (repeat (first | apply Sel.head | apply Sel.tail)); first | done | fail) | apply Ent.skip)); first | done | fail)
  obtain rfl : i = mm := by omega
  rw [fR_m]
  obtain ⟨A, x, B, rfl, hx, hA, hn, hs, hl, hf1, hf2⟩ := hR.take (j := j) (by omega)
  have hq := hsR_get (i := i) (j := j) (by omega)
  have hc := flat_cell intC_len hq (q := 0) (by omega)
  simp only [intC, List.getElem?_cons_zero, Nat.mul_one, Nat.add_zero] at hc
  have hxs : cls ((x.s.size : Nat) : Int) = c := by rw [hs, hck]
  have hl2 : (A ++ B).length < 400 := by omega
  have hll : (A ++ x :: B).length = i := ln
  have hf3 : ∀ b' : Nat, ∀ y ∈ A ++ B ++ [(⟨(i : Int) + 1, b', zs k, 1, i⟩ : Bd)], y.h ≠ (j : Int) + 1 := fun b' y hy => by
    rcases List.mem_append.1 hy with hy | hy
    · exact hf1 y hy
    · obtain rfl := List.mem_singleton.1 hy; simp only; omega
  (have fx := And.intro (hz) (And.intro (hc) (And.intro (h0) (e3))); repeat' (first | refine on_n ?_ | refine o_seq ?_ | (refine ro_cons ?_; first | refine ro_free (by rfl) ?_ | refine r_gT ?_ | (refine r_gF ?_; refine r_put ?_) | (refine r_gU ?_; refine r_put ?_) | (refine r_gP ?_ ?_ <;> intro hcond <;> (first | (exfalso; omega) | refine r_put ?_ | skip)) | (refine r_gN ?_ ?_ <;> intro hcond <;> (first | (exfalso; omega) | refine r_put ?_ | skip)) | (refine r_gB ?_ ?_ <;> intro hcond <;> (first | (exfalso; exact Bool.noConfusion hcond) | refine r_put ?_ | skip))) | (refine ro_w ?_; intro hwant; (first | (refine q_pure ?_; refine r_put ?_) | (refine q_load1 ?_; refine r_put ?_) | (refine q_loadN ?_; refine r_put ?_) | (refine q_store ?_; refine r_put ?_) | (refine q_allocQ ?_; intro b hb; refine r_put ?_) | (refine q_convBS ?_; refine r_put ?_) | (refine q_lookY ?_; refine r_put ?_) | (refine q_lookN ?_; refine r_put ?_) | (refine q_mapSet ?_; refine r_put ?_) | (refine q_mapNew ?_; refine r_put ?_) | (refine q_mapDel ?_; refine r_put ?_) | (refine q_lenM ?_; refine r_put ?_) | (refine q_makeMap ?_; intro b; refine r_put ?_) | (refine q_slB ?_; (try simp only [Nat.zero_add, Nat.add_zero, Nat.sub_zero, Nat.zero_mul, Nat.mul_one, fx]); refine r_put ?_) | (refine q_slB3 ?_; (try simp only [Nat.zero_add, Nat.add_zero, Nat.sub_zero, Nat.zero_mul, Nat.mul_one, fx]); refine r_put ?_) | (refine q_copyB ?_; intro e'; refine r_put ?_) | (refine q_slR ?_; intro sa' sc' e'; (try simp only [Nat.zero_add, Nat.add_zero, Nat.sub_zero, Nat.zero_mul, List.drop_zero, Nat.mul_one, fx]); refine r_put ?_) | (refine q_lenR ?_; refine r_put ?_) | (refine q_iaR ?_; intro b off hrow; (try simp only [Int.toNat_natCast, Int.reduceToNat, Nat.mul_one, Nat.reduceMul, Nat.add_zero, fx]); refine r_put ?_) | (refine q_ldR1 ?_; refine r_put ?_) | (refine q_ldRN ?_; refine r_put ?_) | (refine q_stR ?_; intro e'; refine r_put ?_) | (refine q_appQ ?_; intro sa' sc' e' hu hr; refine r_put ?_) | (refine q_nilR ?_ ?_ <;> intro hnil <;> (try intro hn0) <;> refine r_put ?_) | (refine q_call ?_; intro r) | (refine q_callV ?_; intro r) | (refine q_callP ?_; intro r s0 hs0)) <;> clear hwant) | refine ro_nil ?_ | (refine g_region ?_; first | (refine r_reg ?_; intro base) | (refine r_regQ _ ?_; intro base hlt hnd)) | (refine g_back ?_; refine r_back ?_) | (refine g_backP ?_; refine r_backP ?_; intro s1 hs1) | (refine o_fun 11 ?_; refine of_O ?_; refine c11f (by first | with_reducible assumption | exact envAtP) (by first | with_reducible assumption | rfl) (by (repeat (first | apply Sel.head | apply Sel.tail)); first | done | fail) (by (repeat (first | apply Sel.head | apply Sel.tail)); first | done | fail) _ (by first | omega | (simp; first | done | omega)) (by first | omega | (simp; first | done | omega)) ?_) | (refine o_fun 15 ?_; refine of_O ?_; refine c15g (by first | with_reducible assumption | exact envAtP) (by first | with_reducible assumption | rfl) (by (repeat (first | apply Sel.head | apply Sel.tail)); first | done | fail) (by (repeat (first | apply Sel.head | apply Sel.tail)); first | done | fail) (by (repeat (first | apply Sel.head | apply Sel.tail)); first | done | fail) (by first | with_reducible assumption | assumption) _ (by first | with_reducible assumption | assumption) (by first | with_reducible assumption | assumption) (by first | omega | (simp; first | done | omega)) ?_; rw [hxs]) | (refine o_fun 11 ?_; refine of_O ?_; refine c11o (by first | with_reducible assumption | exact envAtP) (by first | with_reducible assumption | rfl) (by (repeat (first | apply Sel.head | apply Sel.tail)); first | done | fail) (by (repeat (first | apply Sel.head | apply Sel.tail)); first | done | fail) (by (repeat (first | apply Sel.head | apply Sel.tail)); first | done | fail) _ (by first | omega | (simp; first | done | omega)) (by first | omega | (simp; first | done | omega)) (by first | omega | (simp; first | done | omega)) (by first | omega | (simp; first | done | omega)) (by first | omega | (simp; first | done | omega)) (by first | with_reducible assumption | assumption) ?_; intro b'; have hf4 := hf3 b'; rw [hcz]) | (refine o_fun 17 ?_; refine of_O ?_; refine c17 (by first | with_reducible assumption | exact envAtP) (by first | with_reducible assumption | rfl) (by (repeat (first | apply Sel.head | apply Sel.tail)); first | done | fail) ?_) | (refine o_fun 19 ?_; refine of_O ?_; refine c19 (by first | with_reducible assumption | exact envAtP) (by first | with_reducible assumption | rfl) (by (repeat (first | apply Sel.head | apply Sel.tail)); first | done | fail) (by (repeat (first | apply Sel.head | apply Sel.tail)); first | done | fail) ?_; rw [len_snoc, hl]) | (refine o_fun 22 ?_; refine of_O ?_; refine c22n (by first | with_reducible assumption | exact envAtP) (by first | with_reducible assumption | rfl) (by (repeat (first | apply Sel.head | apply Sel.tail)); first | done | fail) (by (repeat (first | apply Sel.head | apply Sel.tail)); first | done | fail) _ (by first | with_reducible assumption | assumption) ?_) | (refine o_cond ?_; first | refine r_cT ?_ | refine r_cF ?_ | (refine r_cP ?_ ?_ <;> (intro hcond; try (exfalso; omega))) | (refine r_cN ?_ ?_ <;> (intro hcond; try (exfalso; omega))) | (refine r_cB ?_ ?_ <;> (intro hcond; first | exact Bool.noConfusion hcond | skip))) | refine o_skip ?_ | refine o_ret ?_ | refine on_r ?_ | refine on_e ?_ | refine on_g ?_ | refine ca_n ?_ | refine ca_r ?_ | refine ca_e ?_ | refine ca_ne (by decide) ?_ | refine ca_g ?_ | refine ju_n ?_ | refine ju_r ?_ | refine ju_e ?_ | refine ju_g (by rfl) ?_ | refine ju_ng (by rfl) ?_ | refine o_exit ?_ | refine o_goto ?_ | refine o_label ?_ | refine o_label_at ?_ | refine o_block ?_ | refine o_seq_at (by rfl) ?_ | refine o_seq_past (by rfl) ?_ | (refine o_fin_r ?_; refine q_fin ?_) | (refine o_fin_n ?_; refine q_fin ?_) | exact o_done rfl | refine r_pairs ?_ | fail))
end Go.Proofs.Ytmclngniffgenaa
