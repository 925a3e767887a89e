/- A part of the proof that MethodLimits holds of every input. -/
import Derived.Test.YtgapflalhgfgkaaH
namespace Go.Proofs.Ytgapflalhgfgkaa
open Go.Ab Go.RowKit
set_option linter.all false
set_option maxRecDepth 10000
set_option maxHeartbeats 4000000
/-! Methods and bytes: plain laws. -/
theorem ba_ext {a b : ByteArray} (hs : a.size = b.size) (h : ∀ i, i < a.size → (a[i]!).toNat = (b[i]!).toNat) : a = b := by
  apply ByteArray.ext
  refine Array.ext hs fun i h1 h2 => ?_
  have h3 := h i h1
  rw [getElem!_pos a i h1, getElem!_pos b i h2] at h3
  exact UInt8.toNat_inj.1 h3
theorem takeN_div (s : ByteArray) (i : Nat) : ∀ j, takeN s (i + j) / 256 ^ j = takeN s i
  | 0 => by simp
  | j + 1 => by
    have b := (s[i + j]!).toNat_lt
    have ih := takeN_div s i j
    show (takeN s (i + j) * 256 + ((s[i + j]!).toNat : Int)) / 256 ^ (j + 1) = _
    rw [Int.pow_succ, Int.mul_comm (256 ^ j) 256, ← Int.ediv_ediv_of_nonneg (by omega), show (takeN s (i + j) * 256 + ((s[i + j]!).toNat : Int)) / 256 = takeN s (i + j) by omega]
    exact ih
theorem takeN_back {s : ByteArray} {k : Nat} (hk : k ≤ s.size) : numB (takeN s k) k = s.extract 0 k := by
  have hb := takeN_bd s k
  obtain ⟨m, hm⟩ : ∃ m : Nat, takeN s k = (m : Int) := ⟨(takeN s k).toNat, by omega⟩
  rw [hm]
  refine ba_ext (by rw [numB_size, ByteArray.size_extract]; omega) fun i hi => ?_
  rw [numB_size] at hi
  have h1 := numB_at m k i hi ⟨#[]⟩
  rw [append_empty'] at h1
  rw [ba_at (by omega) hk, Nat.zero_add]
  have h2 := takeN_div s (i + 1) (k - 1 - i)
  rw [show i + 1 + (k - 1 - i) = k by omega, hm] at h2
  have h3 : takeN s (i + 1) = takeN s i * 256 + ((s[i]!).toNat : Int) := rfl
  have b := (s[i]!).toNat_lt
  have h4 : ((m / 256 ^ (k - 1 - i) : Nat) : Int) = takeN s i * 256 + ((s[i]!).toNat : Int) := by
    rw [← h3, ← h2]; simp
  omega
theorem tkN_back {j : Nat} {s r : ByteArray} {n : Int} (h : tkN j s = some (n, r)) : s = numB n j ++ r ∧ 0 ≤ n ∧ n < 256 ^ j := by
  unfold tkN at h
  split at h
  · cases h
  cases h
  have hb := takeN_bd s j
  refine ⟨?_, hb.1, hb.2⟩
  rw [takeN_back (by omega), ByteArray.extract_append_extract, Nat.min_eq_left (by omega), Nat.max_eq_right (by omega), ext_all]
theorem tkT_back {s x r : ByteArray} (h : tkT s = some (x, r)) : s = tx x ++ r ∧ x.size ≤ 255 := by
  have hsz := tkT_size h
  unfold tkT at h
  split at h
  · cases h
  split at h
  · cases h
  rename_i h0 h1
  cases h
  refine ⟨?_, hsz.2.1⟩
  have b := (s[0]!).toNat_lt
  have hz : (s.extract 1 (1 + (s[0]!).toNat)).size = (s[0]!).toNat := by rw [ByteArray.size_extract]; omega
  unfold tx
  rw [hz]
  have e1 : numB (((s[0]!).toNat : Nat) : Int) 1 = s.extract 0 1 := by
    rw [← takeN_back (s := s) (k := 1) (by omega)]
    congr 1
    simp [takeN]
  rw [e1, ByteArray.append_assoc, ByteArray.extract_append_extract, show min 1 (1 + (s[0]!).toNat) = 1 by omega, show max (1 + (s[0]!).toNat) s.size = s.size by omega, ByteArray.extract_append_extract, show min 0 1 = 0 by omega, show max 1 s.size = s.size by omega, ext_all]
theorem tkN_num {j : Nat} {n : Int} (h0 : 0 ≤ n) (h1 : n < 256 ^ j) (x : ByteArray) : tkN j (numB n j ++ x) = some (n, x) := by
  obtain ⟨m, hm⟩ : ∃ m : Nat, n = (m : Int) := ⟨n.toNat, by omega⟩
  subst hm
  have hs : (numB (m : Int) j ++ x).size = j + x.size := by rw [ByteArray.size_append, numB_size]
  unfold tkN
  rw [if_neg (by omega), takeN_numB m j (by exact_mod_cast h1) x, numB_rest _ _ _ _ hs]
theorem tkT_tx {s : ByteArray} (h : s.size ≤ 255) (x : ByteArray) : tkT (tx s ++ x) = some (s, x) := by
  have h1 := tx_first s x h
  have hs : (tx s ++ x).size = 1 + s.size + x.size := by rw [ByteArray.size_append, tx_size]
  unfold tkT
  rw [h1, if_neg (by omega), if_neg (by omega), tx_text, tx_rest s x _ hs]
theorem rdT_tl {l : List ByteArray} (h : ∀ y ∈ l, y.size ≤ 255) (x : ByteArray) : ∀ i, i ≤ l.length → rdT i (tl l ++ x) = some (l.take i, tl (l.drop i) ++ x)
  | 0, _ => by simp [rdT]
  | i + 1, hi => by
    have ih := rdT_tl h x i (by omega)
    have hq : l[i]? = some l[i] := List.getElem?_eq_getElem (by omega)
    have hy := h l[i] (List.getElem_mem (by omega))
    have hd : l.drop i = l[i] :: l.drop (i + 1) := List.drop_eq_getElem_cons (by omega)
    refine (rdT_more ih (x := l[i]) (r' := tl (l.drop (i + 1)) ++ x) ?_).trans ?_
    · rw [hd]
      show tkT (tx l[i] ++ tl (l.drop (i + 1)) ++ x) = _
      rw [ByteArray.append_assoc]
      exact tkT_tx hy _
    · rw [take_next hq]
theorem rd2_nl {t : Nat} {l2 : List Int} {ss : List ByteArray} {s x : ByteArray} (h0 : rdT t s = some (ss, nl l2 ++ x)) (h : ∀ y ∈ l2, 0 ≤ y ∧ y ≤ 4294967295) : ∀ i, i ≤ l2.length → rd2 t i s = some (ss, l2.take i, nl (l2.drop i) ++ x)
  | 0, _ => by rw [rd2_0, h0]; simp
  | i + 1, hi => by
    have ih := rd2_nl h0 h i (by omega)
    have hq : l2[i]? = some l2[i] := List.getElem?_eq_getElem (by omega)
    have hy := h l2[i] (List.getElem_mem (by omega))
    have hd : l2.drop i = l2[i] :: l2.drop (i + 1) := List.drop_eq_getElem_cons (by omega)
    refine (rd2_more ih (x := l2[i]) (r' := nl (l2.drop (i + 1)) ++ x) ?_).trans ?_
    · rw [hd]
      show tkN 4 (numB l2[i] 4 ++ nl (l2.drop (i + 1)) ++ x) = _
      rw [ByteArray.append_assoc]
      exact tkN_num hy.1 (by omega) _
    · rw [take_next hq]
/-- What is put is read, whatever is behind. -/
theorem rdM_mB {m : Mt} (hm : IsM m) (x : ByteArray) : rdM (mB m ++ x) = if x.size = 0 then .inr m else .inl 502 := by
  have hk := sh_ok hm.ok
  have e0 : mB m ++ x = numB m.k 2 ++ (tl m.ss ++ (nl m.ns ++ (bb m ++ x))) := by
    unfold mB; simp only [ByteArray.append_assoc]
  have h0 : tkN 2 (mB m ++ x) = some (m.k, tl m.ss ++ (nl m.ns ++ (bb m ++ x))) := by rw [e0]; exact tkN_num (by omega) (by omega) _
  have h1 : rdT (sh m.k).t (tl m.ss ++ (nl m.ns ++ (bb m ++ x))) = some (m.ss, nl m.ns ++ (bb m ++ x)) := by
    have := rdT_tl hm.s (nl m.ns ++ (bb m ++ x)) m.ss.length (Nat.le_refl _)
    rw [List.take_length, List.drop_length] at this
    rw [← hm.t, this]
    simp only [tl, empty_append]
  have h2 : rd2 (sh m.k).t (sh m.k).n (tl m.ss ++ (nl m.ns ++ (bb m ++ x))) = some (m.ss, m.ns, bb m ++ x) := by
    have := rd2_nl h1 hm.i m.ns.length (Nat.le_refl _)
    rw [List.take_length, List.drop_length] at this
    rw [← hm.n, this]
    simp only [nl, empty_append]
  have h3 : rd3 (sh m.k) (tl m.ss ++ (nl m.ns ++ (bb m ++ x))) = some (m.ss, m.ns, m.b, x) := by
    unfold rd3
    rw [h2]
    unfold bb
    cases hb : (sh m.k).b
    · simp only [Bool.false_eq_true, if_false, empty_append]
      rw [hm.z hb]
    · simp only [if_true]
      rw [tkN_num hm.b.1 (by have := hm.b.2; omega) x]
  rw [rdM_good h0 hm.ok h3]
theorem rdT_back : ∀ {i : Nat} {s r : ByteArray} {l : List ByteArray}, rdT i s = some (l, r) → s = tl l ++ r ∧ (∀ y ∈ l, y.size ≤ 255) ∧ l.length = i
  | 0, s, r, l, h => by
    cases h
    exact ⟨(empty_append _).symm, by simp, rfl⟩
  | i + 1, s, r, l, h => by
    simp only [rdT] at h
    split at h
    · cases h
    rename_i l' r' h1
    obtain ⟨a1, a2, a3⟩ := rdT_back h1
    split at h
    · cases h
    rename_i x r2 h2
    cases h
    obtain ⟨b1, b2⟩ := tkT_back h2
    refine ⟨?_, fun y hy => ?_, by simp [a3]⟩
    · rw [tl_append, ByteArray.append_assoc, ← b1]; exact a1
    · rcases List.mem_append.1 hy with hy | hy
      · exact a2 y hy
      · simp at hy; subst hy; exact b2
theorem rdN_back : ∀ {i : Nat} {s r : ByteArray} {l : List Int}, rdN i s = some (l, r) → s = nl l ++ r ∧ (∀ y ∈ l, 0 ≤ y ∧ y ≤ 4294967295) ∧ l.length = i
  | 0, s, r, l, h => by
    cases h
    exact ⟨(empty_append _).symm, by simp, rfl⟩
  | i + 1, s, r, l, h => by
    simp only [rdN] at h
    split at h
    · cases h
    rename_i l' r' h1
    obtain ⟨a1, a2, a3⟩ := rdN_back h1
    split at h
    · cases h
    rename_i x r2 h2
    cases h
    obtain ⟨b1, b2, b3⟩ := tkN_back h2
    refine ⟨?_, fun y hy => ?_, by simp [a3]⟩
    · rw [nl_append, ByteArray.append_assoc, ← b1]; exact a1
    · rcases List.mem_append.1 hy with hy | hy
      · exact a2 y hy
      · simp at hy; subst hy; exact ⟨b2, by omega⟩
/-- What is read is a method, and these are its bytes. -/
theorem rdM_back {s : ByteArray} {m : Mt} (h : rdM s = .inr m) : IsM m ∧ mB m = s := by
  unfold rdM at h
  split at h
  · cases h
  rename_i k r h0
  split at h
  · cases h
  rename_i hk
  split at h
  · cases h
  rename_i ss ns b r' h3
  split at h
  case isFalse => cases h
  rename_i hr
  cases h
  obtain ⟨a1, a2, a3⟩ := tkN_back h0
  unfold rd3 rd2 at h3
  split at h3
  · cases h3
  rename_i l1 l2 r2 hh
  split at hh
  · cases hh
  rename_i l1' r1 hT
  split at hh
  · cases hh
  rename_i l2' r2' hN
  cases hh
  obtain ⟨b1, b2, b3⟩ := rdT_back hT
  obtain ⟨c1, c2, c3⟩ := rdN_back hN
  have hok : (sh k).ok = true := by simpa using hk
  have hr0 := ba_nil hr
  split at h3
  · rename_i hb
    split at h3
    · cases h3
    rename_i x r3 hx
    cases h3
    obtain ⟨d1, d2, d3⟩ := tkN_back hx
    refine ⟨⟨hok, b3, c3, b2, c2, ⟨d2, by simp only at d3 ⊢; omega⟩, fun h => by simp only at h; rw [hb] at h; cases h⟩, ?_⟩
    unfold mB bb
    simp only [hb, if_true]
    rw [a1, b1, c1, d1, hr0, append_empty']
    simp only [ByteArray.append_assoc]
  · rename_i hb
    cases h3
    refine ⟨⟨hok, b3, c3, b2, c2, by simp only; omega, fun _ => rfl⟩, ?_⟩
    unfold mB bb
    simp only [hb]
    rw [a1, b1, c1, hr0]
    simp only [Bool.false_eq_true, if_false, append_empty', ByteArray.append_assoc]
theorem mB_inj {a b : Mt} (ha : IsM a) (hb : IsM b) (h : mB a = mB b) : a = b := by
  have h1 := rdM_mB ha ⟨#[]⟩
  have h2 := rdM_mB hb ⟨#[]⟩
  rw [h, h2, if_pos e0_size, if_pos e0_size] at h1
  exact (Sum.inr.inj h1).symm
theorem eqM_iff {a b : Mt} : eqM a b = true ↔ a = b := by
  unfold eqM
  simp only [Bool.and_eq_true, decide_eq_true_eq]
  constructor
  · rintro ⟨h1, h2, h3, h4⟩
    cases a; cases b; simp only at h1 h2 h3 h4; subst h1 h2 h3 h4; rfl
  · rintro rfl; exact ⟨rfl, rfl, rfl, rfl⟩
theorem mB_size {m : Mt} (hm : IsM m) : 2 ≤ (mB m).size ∧ (mB m).size ≤ 1000 := by
  have h1 := tl_size m.ss hm.s
  have h2 := nl_size m.ns
  have h3 := sh_bd m.k
  have h4 := hm.t
  have h5 := hm.n
  have h6 : (bb m).size ≤ 1 := by unfold bb; split; · rw [numB_size]; omega
                                  · simp [ByteArray.size]
  unfold mB
  simp only [ByteArray.size_append, numB_size]
  omega
/-- Cut off it lacks. -/
theorem rdM_cut {m : Mt} (hm : IsM m) {j : Nat} (hj : j < (mB m).size) : rdM ((mB m).extract 0 j) = .inl 502 := by
  have hk := sh_ok hm.ok
  have hsj : ((mB m).extract 0 j).size = j := by rw [ByteArray.size_extract]; omega
  by_cases h2 : j < 2
  · exact rdM_short (by unfold tkN; rw [if_pos (by omega)])
  have e0 : mB m = numB m.k 2 ++ (tl m.ss ++ (nl m.ns ++ bb m)) := by unfold mB; simp only [ByteArray.append_assoc]
  have h0 : tkN 2 ((mB m).extract 0 j) = some (m.k, ((mB m).extract 0 j).extract 2 ((mB m).extract 0 j).size) := by
    have h1 : takeN ((mB m).extract 0 j) 2 = m.k := by
      have e1 : takeN ((mB m).extract 0 j) 2 = takeN (mB m) 2 := takeN_congr fun i hi => by rw [ba_at (by omega) (by omega), Nat.zero_add]
      rw [e1, e0]
      have := tkN_num (j := 2) (n := m.k) (by omega) (by omega) (tl m.ss ++ (nl m.ns ++ bb m))
      unfold tkN at this
      rw [if_neg (by rw [ByteArray.size_append, numB_size]; omega)] at this
      exact (Prod.mk.inj (Option.some.inj this)).1
    unfold tkN
    rw [if_neg (by omega), h1]
  cases h3 : rd3 (sh m.k) (((mB m).extract 0 j).extract 2 ((mB m).extract 0 j).size) with
  | none => exact rdM_bad h0 hm.ok h3
  | some p =>
    obtain ⟨ss, ns, b, r⟩ := p
    have h4 := rdM_good h0 hm.ok h3
    by_cases hr : r.size = 0
    · rw [if_pos hr] at h4
      exfalso
      obtain ⟨g1, g2⟩ := rdM_back h4
      have g3 := rdM_mB g1 ((mB m).extract j (mB m).size)
      rw [g2, ByteArray.extract_append_extract, Nat.min_eq_left (by omega), Nat.max_eq_right (by omega), ext_all, if_neg (by rw [ByteArray.size_extract]; omega)] at g3
      have g4 := rdM_mB hm ⟨#[]⟩
      rw [append_empty', g3, if_pos e0_size] at g4
      cases g4
    · rw [if_neg hr] at h4; exact h4
theorem rdM_err {s : ByteArray} {e : Int} (h : rdM s = .inl e) : e = 502 ∨ e = 540 := by
  unfold rdM at h
  split at h
  · cases h; exact .inl rfl
  split at h
  · cases h; exact .inr rfl
  split at h
  · cases h; exact .inl rfl
  split at h
  · cases h
  · cases h; exact .inl rfl
end Go.Proofs.Ytgapflalhgfgkaa
