/- A part of the proof that RangesSets holds of every input. -/
import Derived.Test.YtahaolmflniahaaD
namespace Go.Proofs.Ytahaolmflniahaa
open Go.Ab Go.RowKit
set_option linter.all false
set_option maxRecDepth 10000
set_option maxHeartbeats 4000000
/-! Rows as sets of numbers: plain laws. -/
def inR (m : List Rg) (n : Int) : Prop := ∃ y ∈ m, y.lo ≤ n ∧ n ≤ y.hi
theorem inR_nil {n : Int} : ¬ inR [] n := fun ⟨_, h, _⟩ => by cases h
theorem inR_cons {x : Rg} {m : List Rg} {n : Int} : inR (x :: m) n ↔ (x.lo ≤ n ∧ n ≤ x.hi) ∨ inR m n := by simp [inR]
theorem inR_app {l m : List Rg} {n : Int} : inR (l ++ m) n ↔ inR l n ∨ inR m n := by
  induction l with
  | nil => simp [inR]
  | cons x l ih => rw [List.cons_append, inR_cons, inR_cons, ih, or_assoc]
theorem inR_one {x : Rg} {n : Int} : inR [x] n ↔ (x.lo ≤ n ∧ n ≤ x.hi) := by simp [inR]
def sep (m : List Rg) : Prop := m.Pairwise fun x y => x.hi + 1 < y.lo
theorem sep_cons {x : Rg} {m : List Rg} : sep (x :: m) ↔ (∀ y ∈ m, x.hi + 1 < y.lo) ∧ sep m := List.pairwise_cons
theorem good_cons {x : Rg} {m : List Rg} : good (x :: m) ↔ (1 ≤ x.lo ∧ x.lo ≤ x.hi ∧ x.hi ≤ 1000000) ∧ good m := by simp [good]
theorem good_app {l m : List Rg} : good (l ++ m) ↔ good l ∧ good m := by
  constructor
  · intro h; exact ⟨fun y hy => h y (by simp [hy]), fun y hy => h y (by simp [hy])⟩
  · rintro ⟨h1, h2⟩ y hy
    rcases List.mem_append.1 hy with h | h
    · exact h1 y h
    · exact h2 y h
theorem above {x : Rg} {m : List Rg} {n : Int} (h : sep (x :: m)) (hn : inR m n) : x.hi + 1 < n := by
  obtain ⟨y, hy, h1, h2⟩ := hn
  have := (sep_cons.1 h).1 y hy; omega
theorem uniq : ∀ {a b : List Rg}, good a → good b → sep a → sep b → (∀ n, inR a n ↔ inR b n) → a = b
  | [], [], _, _, _, _, _ => rfl
  | [], y :: b, _, hg, _, _, h => by
    have := (good_cons.1 hg).1
    exact (inR_nil ((h y.lo).2 (inR_cons.2 (.inl ⟨Int.le_refl _, by omega⟩)))).elim
  | x :: a, [], hg, _, _, _, h => by
    have := (good_cons.1 hg).1
    exact (inR_nil ((h x.lo).1 (inR_cons.2 (.inl ⟨Int.le_refl _, by omega⟩)))).elim
  | x :: a, y :: b, hga, hgb, hsa, hsb, h => by
    have g1 := (good_cons.1 hga).1
    have g2 := (good_cons.1 hgb).1
    have e1 : x.lo = y.lo := by
      have h1 := (h x.lo).1 (inR_cons.2 (.inl ⟨Int.le_refl _, by omega⟩))
      have h2 := (h y.lo).2 (inR_cons.2 (.inl ⟨Int.le_refl _, by omega⟩))
      rcases inR_cons.1 h1 with h1 | h1 <;> rcases inR_cons.1 h2 with h2 | h2
      · omega
      · have := above hsa h2; omega
      · have := above hsb h1; omega
      · have := above hsb h1; have := above hsa h2; omega
    have e2 : x.hi = y.hi := by
      rcases Int.lt_trichotomy x.hi y.hi with hl | he | hl
      · have h2 := (h (x.hi + 1)).2 (inR_cons.2 (.inl ⟨by omega, by omega⟩))
        rcases inR_cons.1 h2 with h2 | h2
        · omega
        · have := above hsa h2; omega
      · exact he
      · have h2 := (h (y.hi + 1)).1 (inR_cons.2 (.inl ⟨by omega, by omega⟩))
        rcases inR_cons.1 h2 with h2 | h2
        · omega
        · have := above hsb h2; omega
    have ex : x = y := by cases x; cases y; simp only at e1 e2; rw [e1, e2]
    subst ex
    rw [uniq (good_cons.1 hga).2 (good_cons.1 hgb).2 (sep_cons.1 hsa).2 (sep_cons.1 hsb).2 fun n => ?_]
    constructor
    · intro hn
      rcases inR_cons.1 ((h n).1 (inR_cons.2 (.inr hn))) with h2 | h2
      · have := above hsa hn; omega
      · exact h2
    · intro hn
      rcases inR_cons.1 ((h n).2 (inR_cons.2 (.inr hn))) with h2 | h2
      · have := above hsb hn; omega
      · exact h2
theorem wo_in {lo hi : Int} {r : Rg} {n : Int} : inR (wo lo hi r) n ↔ (r.lo ≤ n ∧ n ≤ r.hi) ∧ (n < lo ∨ hi < n) := by
  unfold wo
  rw [inR_app]
  constructor
  · rintro (h | h)
    · split at h
      · have := inR_one.1 h; simp only at this; omega
      · exact (inR_nil h).elim
    · split at h
      · have := inR_one.1 h; simp only at this; omega
      · exact (inR_nil h).elim
  · rintro ⟨⟨h1, h2⟩, h | h⟩
    · left; rw [if_pos (by omega)]; exact inR_one.2 ⟨h1, by simp only; omega⟩
    · right; rw [if_pos (by omega)]; exact inR_one.2 ⟨by simp only; omega, h2⟩
theorem cutR_in {lo hi : Int} {m : List Rg} {n : Int} : inR (cutR lo hi m) n ↔ inR m n ∧ (n < lo ∨ hi < n) := by
  induction m with
  | nil => simp [cutR, inR]
  | cons x m ih =>
    show inR (wo lo hi x ++ cutR lo hi m) n ↔ _
    rw [inR_app, ih, wo_in, inR_cons, or_and_right]
theorem wo_sub {lo hi : Int} {r y : Rg} (hy : y ∈ wo lo hi r) : r.lo ≤ y.lo ∧ y.hi ≤ r.hi := by
  unfold wo at hy
  rcases List.mem_append.1 hy with hy | hy
  · split at hy
    · simp at hy; subst hy; simp only; omega
    · cases hy
  · split at hy
    · simp at hy; subst hy; simp only; omega
    · cases hy
theorem cutR_sep {lo hi : Int} (hb : lo ≤ hi) : ∀ {m : List Rg}, sep m → sep (cutR lo hi m)
  | [], _ => by simp [cutR, sep]
  | x :: m, h => by
    have ih := cutR_sep hb (sep_cons.1 h).2
    show sep (wo lo hi x ++ cutR lo hi m)
    refine List.pairwise_append.2 ⟨?_, ih, fun a ha c hc => ?_⟩
    · unfold wo
      split <;> split <;> simp
      omega
    · obtain ⟨r, hr, hc⟩ := List.mem_flatMap.1 hc
      have h1 := wo_sub ha
      have h2 := wo_sub hc
      have := (sep_cons.1 h).1 r hr
      omega
/-! Joining. -/
def rise (m : List Rg) : Prop := m.Pairwise fun x y => x.hi < y.lo
theorem jn_nil {x : Rg} : jn [] x = [x] := rfl
theorem jn_snoc {A : List Rg} {z x : Rg} : jn (A ++ [z]) x = if z.hi + 1 = x.lo then A ++ [⟨z.lo, x.hi⟩] else A ++ [z] ++ [x] := by
  unfold jn
  have e : (A ++ [z]).length - 1 = A.length := by simp
  rw [e, List.getElem?_concat_length]
  simp only
  split
  · simp
  · rfl
theorem snoc_of (l : List Rg) : l = [] ∨ ∃ A z, l = A ++ [z] := by
  rcases List.eq_nil_or_concat l with h | ⟨A, z, h⟩
  · exact .inl h
  · exact .inr ⟨A, z, by rw [h]; simp⟩
theorem sep_snoc {A : List Rg} {z : Rg} : sep (A ++ [z]) ↔ sep A ∧ ∀ y ∈ A, y.hi + 1 < z.lo := by
  unfold sep; rw [List.pairwise_append]; simp
theorem jn_ok {acc : List Rg} {x : Rg} (hg : good acc) (hs : sep acc) (hx : x.lo ≤ x.hi) (hl : ∀ z ∈ acc, z.hi < x.lo) :
    sep (jn acc x) ∧ (∀ n, inR (jn acc x) n ↔ inR acc n ∨ (x.lo ≤ n ∧ n ≤ x.hi)) ∧ cnt (jn acc x) = cnt acc + (x.hi - x.lo + 1) ∧ (∀ z ∈ jn acc x, z.hi ≤ x.hi) := by
  rcases snoc_of acc with rfl | ⟨A, z, rfl⟩
  · refine ⟨by simp [jn_nil, sep], fun n => ?_, by simp [jn_nil, cnt], ?_⟩
    · rw [jn_nil, inR_one]; simp [inR_nil]
    · intro z hz; simp [jn_nil] at hz; subst hz; exact Int.le_refl _
  · have hz := hl z (by simp)
    have hzg := hg z (by simp)
    rw [jn_snoc]
    have h1 := sep_snoc.1 hs
    split
    · rename_i ht
      refine ⟨sep_snoc.2 ⟨h1.1, h1.2⟩, fun n => ?_, ?_, ?_⟩
      · rw [inR_app, inR_one, inR_app, inR_one, or_assoc]
        simp only
        constructor
        · rintro (h | h)
          · exact .inl h
          · right; omega
        · rintro (h | h)
          · exact .inl h
          · right; omega
      · rw [cnt_snoc, cnt_snoc]; simp only; omega
      · intro y hy
        rcases List.mem_append.1 hy with hy | hy
        · have := h1.2 y hy; omega
        · simp at hy; subst hy; exact Int.le_refl _
    · rename_i ht
      refine ⟨sep_snoc.2 ⟨hs, fun y hy => ?_⟩, fun n => ?_, ?_, ?_⟩
      · rcases List.mem_append.1 hy with hy | hy
        · have := h1.2 y hy; omega
        · simp at hy; subst hy; omega
      · rw [inR_app, inR_one]
      · rw [cnt_snoc]
      · intro y hy
        rcases List.mem_append.1 hy with hy | hy
        · have := hl y hy; omega
        · simp at hy; subst hy; exact Int.le_refl _
theorem fold_ok : ∀ {m acc : List Rg}, good acc → good m → sep acc → rise m → (∀ z ∈ acc, ∀ y ∈ m, z.hi < y.lo) →
    sep (m.foldl jn acc) ∧ (∀ n, inR (m.foldl jn acc) n ↔ inR acc n ∨ inR m n) ∧ cnt (m.foldl jn acc) = cnt acc + cnt m
  | [], acc, _, _, h, _, _ => ⟨h, fun n => by simp [inR_nil], by simp [cnt]⟩
  | x :: m, acc, hga, hgm, hs, hr, hl => by
    have gx := (good_cons.1 hgm).1
    obtain ⟨a1, a2, a3, a4⟩ := jn_ok hga hs gx.2.1 fun z hz => hl z hz x (by simp)
    obtain ⟨b1, b2, b3⟩ := fold_ok (m := m) (acc := jn acc x) (jn_good hga gx) (good_cons.1 hgm).2 a1 (List.pairwise_cons.1 hr).2 fun z hz y hy => by
      have := a4 z hz
      have := (List.pairwise_cons.1 hr).1 y hy
      omega
    refine ⟨b1, fun n => ?_, ?_⟩
    · rw [List.foldl_cons, b2, a2, inR_cons, or_assoc]
    · rw [List.foldl_cons, b3, a3]; simp only [cnt]; omega
theorem joinR_ok {m : List Rg} (hg : good m) (hr : rise m) : sep (joinR m) ∧ (∀ n, inR (joinR m) n ↔ inR m n) ∧ cnt (joinR m) = cnt m := by
  obtain ⟨h1, h2, h3⟩ := fold_ok (m := m) (acc := []) (fun y hy => by cases hy) hg (by simp [sep]) hr fun z hz => by cases hz
  exact ⟨h1, fun n => by rw [show joinR m = m.foldl jn [] from rfl, h2]; simp [inR_nil], by rw [show joinR m = m.foldl jn [] from rfl, h3]; simp [cnt]⟩
/-! Putting in. -/
theorem putAt_in {m : List Rg} {k : Nat} {x : Rg} {n : Int} : inR (putAt m k x) n ↔ (x.lo ≤ n ∧ n ≤ x.hi) ∨ inR m n := by
  unfold inR
  constructor
  · rintro ⟨y, hy, h⟩
    rcases putAt_mem.1 hy with rfl | hy
    · exact .inl h
    · exact .inr ⟨y, hy, h⟩
  · rintro (h | ⟨y, hy, h⟩)
    · exact ⟨x, putAt_mem.2 (.inl rfl), h⟩
    · exact ⟨y, putAt_mem.2 (.inr hy), h⟩
theorem cnt_putAt {m : List Rg} {k : Nat} {x : Rg} : cnt (putAt m k x) = cnt m + (x.hi - x.lo + 1) := by
  unfold putAt
  rw [cnt_app, cnt_app]
  conv => rhs; rw [← List.take_append_drop k m, cnt_app]
  simp only [cnt]; omega
theorem cut_out {lo hi : Int} {m : List Rg} (hb : lo ≤ hi) (hg : good (cutR lo hi m)) {y : Rg} (hy : y ∈ cutR lo hi m) : y.hi < lo ∨ hi < y.lo := by
  have g := hg y hy
  have hn : ∀ n, y.lo ≤ n → n ≤ y.hi → n < lo ∨ hi < n := fun n h1 h2 => (cutR_in.1 ⟨y, hy, h1, h2⟩).2
  have h1 := hn y.lo (Int.le_refl _) g.2.1
  have h2 := hn y.hi g.2.1 (Int.le_refl _)
  rcases h1 with h1 | h1
  · left
    rcases (show y.hi < lo ∨ lo ≤ y.hi by omega) with h | h
    · exact h
    · have := hn lo (by omega) h; omega
  · exact .inr h1
theorem put_rise {lo hi : Int} {m : List Rg} (h1 : 1 ≤ lo) (h2 : hi ≤ 1000000) (hb : lo ≤ hi) (hg : good m) (hs : sep m) : rise (putAt (cutR lo hi m) (pk (cutR lo hi m) lo) ⟨lo, hi⟩) := by
  have cg := cutR_good h1 h2 hg
  have cs := cutR_sep hb hs
  have co := fun y => cut_out (y := y) hb cg
  generalize cutR lo hi m = o at *
  have cr : rise o := cs.imp fun h => by omega
  refine Rise.put cr (fun y hy => ?_) fun y hy => ?_
  · have hyo := List.mem_of_mem_take hy
    obtain ⟨j, hj⟩ := List.getElem?_of_mem hy
    rw [List.getElem?_take] at hj
    split at hj
    · have := fi_not (by assumption) hj
      simp at this
      have := co y hyo
      have := cg y hyo
      simp only; omega
    · cases hj
  · have hyo := List.mem_of_mem_drop hy
    obtain ⟨j, hj⟩ := List.getElem?_of_mem hy
    rw [List.getElem?_drop] at hj
    have hge : lo ≤ y.lo := by
      cases j with
      | zero =>
        have := fi_yes hj
        simp at this; exact this
      | succ j =>
        have hl := (List.getElem?_eq_some_iff.1 hj).1
        obtain ⟨z, hz⟩ : ∃ z, o[pk o lo]? = some z := ⟨_, List.getElem?_eq_getElem (by omega)⟩
        have h3 := fi_yes hz
        simp at h3
        have h4 := Rise.get (r := fun x y : Rg => x.hi < y.lo) cr (show pk o lo < pk o lo + (j + 1) by omega) hz hj
        have := cg z (List.mem_of_getElem? hz)
        omega
    have := co y hyo
    have := cg y hyo
    simp only; omega
theorem addR_ok {lo hi : Int} {m : List Rg} (h1 : 1 ≤ lo) (h2 : hi ≤ 1000000) (hb : lo ≤ hi) (hg : good m) (hs : sep m) :
    good (addR lo hi m) ∧ sep (addR lo hi m) ∧ (∀ n, inR (addR lo hi m) n ↔ inR m n ∨ (lo ≤ n ∧ n ≤ hi)) ∧ cnt (addR lo hi m) = cnt (cutR lo hi m) + (hi - lo + 1) := by
  have hpg := put_good (k := pk (cutR lo hi m) lo) (e := ⟨lo, hi⟩) (cutR_good h1 h2 hg) (by simp only; omega)
  obtain ⟨a1, a2, a3⟩ := joinR_ok hpg (put_rise h1 h2 hb hg hs)
  refine ⟨joinR_good hpg, a1, fun n => ?_, ?_⟩
  · unfold addR
    rw [a2, putAt_in, cutR_in]
    simp only
    constructor
    · rintro (h | h)
      · exact .inr h
      · exact .inl h.1
    · rintro (h | h)
      · rcases (show n < lo ∨ lo ≤ n by omega) with h3 | h3
        · exact .inr ⟨h, .inl h3⟩
        · rcases (show hi < n ∨ n ≤ hi by omega) with h4 | h4
          · exact .inr ⟨h, .inr h4⟩
          · exact .inl ⟨h3, h4⟩
      · exact .inl h
  · unfold addR; rw [a3, cnt_putAt]
/-! How many there are. -/
def nu (p : Int → Bool) : Nat → Int
  | 0 => 0
  | n + 1 => nu p n + if p (n : Nat) then 1 else 0
theorem nu_congr {p q : Int → Bool} : ∀ {n : Nat}, (∀ k : Nat, k < n → p k = q k) → nu p n = nu q n
  | 0, _ => rfl
  | n + 1, h => by simp only [nu]; rw [nu_congr fun k hk => h k (by omega), h n (by omega)]
theorem nu_mono {p q : Int → Bool} : ∀ {n : Nat}, (∀ k : Nat, k < n → p k = true → q k = true) → nu p n ≤ nu q n
  | 0, _ => Int.le_refl _
  | n + 1, h => by
    have ih := nu_mono (n := n) fun k hk => h k (by omega)
    have := h n (by omega)
    simp only [nu]
    by_cases hp : p (n : Nat) = true
    · rw [if_pos hp, if_pos (this hp)]; omega
    · rw [if_neg hp]; split <;> omega
theorem nu_or {p q : Int → Bool} : ∀ {n : Nat}, (∀ k : Nat, k < n → p k = true → q k = false) → nu (fun k => p k || q k) n = nu p n + nu q n
  | 0, _ => rfl
  | n + 1, h => by
    have ih := nu_or (n := n) fun k hk => h k (by omega)
    have h2 := h n (by omega)
    simp only [nu]
    rw [ih]
    by_cases hp : p (n : Nat) = true
    · have hq := h2 hp
      simp [hp, hq]; omega
    · have hp : p (n : Nat) = false := by simpa using hp
      simp [hp]; omega
theorem nu_rg {a b : Int} (ha : 0 ≤ a) (hb : a ≤ b) : ∀ n : Nat, nu (fun k => decide (a ≤ k ∧ k ≤ b)) n = if (n : Int) ≤ a then 0 else if (n : Int) ≤ b then n - a else b - a + 1
  | 0 => by rw [if_pos (by omega)]; rfl
  | n + 1 => by
    simp only [nu]
    rw [nu_rg ha hb n]
    simp only [decide_eq_true_eq]
    split <;> split <;> split <;> (try split) <;> (try split) <;> omega
noncomputable def inb (m : List Rg) (n : Int) : Bool := m.any fun y => decide (y.lo ≤ n ∧ n ≤ y.hi)
theorem inb_iff {m : List Rg} {n : Int} : inb m n = true ↔ inR m n := by simp [inb, inR]
theorem cnt_nu {N : Nat} : ∀ {m : List Rg}, good m → sep m → (∀ y ∈ m, y.hi < (N : Int)) → cnt m = nu (inb m) N
  | [], _, _, _ => by
    have : nu (inb []) N = 0 := by
      induction N with
      | zero => rfl
      | succ n ih => simp [nu, ih, inb]
    rw [this]; rfl
  | x :: m, hg, hs, hN => by
    have gx := (good_cons.1 hg).1
    have := hN x (by simp)
    have e : nu (inb (x :: m)) N = nu (fun k => decide (x.lo ≤ k ∧ k ≤ x.hi) || inb m k) N := nu_congr fun k hk => by simp [inb]
    rw [e, nu_or, nu_rg (by omega) gx.2.1, if_neg (by omega), if_neg (by omega), ← cnt_nu (good_cons.1 hg).2 (sep_cons.1 hs).2 fun y hy => hN y (by simp [hy])]
    · rfl
    · intro k hk hx
      have hx := of_decide_eq_true hx
      cases hi : inb m k with
      | false => rfl
      | true => have := above hs (inb_iff.1 hi); omega
theorem good.lt {m : List Rg} (h : good m) : ∀ y ∈ m, y.hi < ((1000001 : Nat) : Int) := fun y hy => by have := h y hy; omega
theorem cnt_mono {l m : List Rg} (hg : good l) (hs : sep l) (hg2 : good m) (hs2 : sep m) (h : ∀ n, inR l n → inR m n) : cnt l ≤ cnt m := by
  rw [cnt_nu hg hs hg.lt, cnt_nu hg2 hs2 hg2.lt]
  exact nu_mono fun k _ hk => inb_iff.2 (h _ (inb_iff.1 hk))
theorem addR_cnt {lo hi : Int} {m : List Rg} (h1 : 1 ≤ lo) (h2 : hi ≤ 1000000) (hb : lo ≤ hi) (hg : good m) (hs : sep m) : cnt m ≤ cnt (addR lo hi m) := by
  obtain ⟨a1, a2, a3, _⟩ := addR_ok h1 h2 hb hg hs
  exact cnt_mono hg hs a1 a2 fun n hn => (a3 n).2 (.inl hn)
theorem cutR_cnt {lo hi : Int} {m : List Rg} (h1 : 1 ≤ lo) (h2 : hi ≤ 1000000) (hb : lo ≤ hi) (hg : good m) (hs : sep m) : cnt (cutR lo hi m) ≤ cnt m :=
  cnt_mono (cutR_good h1 h2 hg) (cutR_sep hb hs) hg hs fun n hn => (cutR_in.1 hn).1
/-- A set loses its row to at most one more. -/
theorem sep_len {lo hi : Int} (hb : lo ≤ hi) : ∀ {m : List Rg}, good m → sep m → (cutR lo hi m).length ≤ m.length + 1
  | [], _, _ => by simp [cutR]
  | x :: m, hg, hs => by
    have ih := sep_len hb (good_cons.1 hg).2 (sep_cons.1 hs).2
    have gx := (good_cons.1 hg).1
    show (wo lo hi x ++ cutR lo hi m).length ≤ _
    rw [List.length_append, List.length_cons]
    by_cases hw : (wo lo hi x).length ≤ 1
    · omega
    · have hx : x.lo < lo ∧ hi < x.hi := by
        unfold wo at hw
        by_cases h1 : x.lo < lo <;> by_cases h2 : hi < x.hi <;> simp [h1, h2] at hw ⊢
      have e : cutR lo hi m = m := by
        have hm : ∀ y ∈ m, wo lo hi y = [y] := fun y hy => by
          have := (sep_cons.1 hs).1 y hy
          unfold wo
          rw [if_neg (by omega), if_pos (by have := (good_cons.1 hg).2 y hy; omega), List.nil_append, show max y.lo (hi + 1) = y.lo by omega]
        clear ih hw hs hg
        induction m with
        | nil => rfl
        | cons y m ih =>
          show wo lo hi y ++ cutR lo hi m = _
          rw [hm y (by simp), ih fun z hz => hm z (by simp [hz])]; rfl
      rw [e]
      have := wo_len (lo := lo) (hi := hi) (r := x)
      omega
end Go.Proofs.Ytahaolmflniahaa
