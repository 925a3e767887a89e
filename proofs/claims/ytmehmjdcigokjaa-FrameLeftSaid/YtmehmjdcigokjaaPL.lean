/- A part of the proof that FrameLeft holds of every input. -/
import Derived.Test.YtmehmjdcigokjaaN
namespace Go.Proofs.Ytmehmjdcigokjaa
open Go.Ab Go.RowKit
set_option linter.all false
set_option maxRecDepth 10000
set_option maxHeartbeats 2000000
theorem ba_app_at_l {s x : ByteArray} {i : Nat} (h : i < s.size) : ((s ++ x)[i]!) = (s[i]!) := by
  rw [getElem!_pos (s ++ x) i (by rw [ByteArray.size_append]; omega), getElem!_pos s i h, ByteArray.getElem_append_left h]
theorem ba_app_at_r {s x : ByteArray} {i j : Nat} (h : i < x.size) (hj : j = s.size + i) : ((s ++ x)[j]!) = (x[i]!) := by
  subst hj
  rw [getElem!_pos (s ++ x) _ (by rw [ByteArray.size_append]; omega), getElem!_pos x i h, ByteArray.getElem_append_right (by omega)]
  congr 1; omega
theorem app_drop (s x : ByteArray) (i z : Nat) (h : i = s.size) (hz : z = i + x.size) : (s ++ x).extract i z = x := by
  subst h hz; exact ByteArray.extract_append_eq_right rfl rfl
theorem app_take (s x : ByteArray) (i : Nat) (h : i = s.size) : (s ++ x).extract 0 i = s := by
  subst h
  apply ByteArray.ext
  simp [ByteArray.data_extract, ByteArray.data_append]
/-- What a frame's bytes are read as. -/
theorem fb_size (k c : Int) (s x : ByteArray) : (fB k c s ++ x).size = 8 + s.size + x.size := by rw [ByteArray.size_append, fB_size]
theorem fb_split (k c : Int) (s x : ByteArray) : fB k c s ++ x = numB k 1 ++ (numB c 2 ++ (numB (s.size : Int) 4 ++ (s ++ (⟨#[206]⟩ ++ x)))) := by
  simp only [fB, ByteArray.append_assoc]
theorem fb_d1 (k c : Int) (s x : ByteArray) : (fB k c s ++ x).extract 1 (fB k c s ++ x).size = numB c 2 ++ (numB (s.size : Int) 4 ++ (s ++ (⟨#[206]⟩ ++ x))) := by
  rw [fb_split]; exact numB_rest _ _ _ _ (by simp [ByteArray.size_append, numB_size])
theorem fb_d3 (k c : Int) (s x : ByteArray) : (fB k c s ++ x).extract 3 (fB k c s ++ x).size = numB (s.size : Int) 4 ++ (s ++ (⟨#[206]⟩ ++ x)) := by
  rw [← ext_ext _ 1 2, fb_d1]; exact numB_rest _ _ _ _ (by simp [ByteArray.size_append, numB_size])
theorem fb_d7 (k c : Int) (s x : ByteArray) : (fB k c s ++ x).extract 7 (fB k c s ++ x).size = s ++ (⟨#[206]⟩ ++ x) := by
  rw [← ext_ext _ 3 4, fb_d3]; exact numB_rest _ _ _ _ (by simp [ByteArray.size_append, numB_size])
theorem fb_gK (k c : Int) (s x : ByteArray) (hk : 0 ≤ k ∧ k ≤ 255) : gK (fB k c s ++ x) = k := by
  obtain ⟨n, rfl⟩ : ∃ n : Nat, k = n := ⟨k.toNat, by omega⟩
  unfold gK
  rw [fb_split]
  have := numB_at n 1 0 (by omega) (numB c 2 ++ (numB (s.size : Int) 4 ++ (s ++ (⟨#[206]⟩ ++ x))))
  rw [this]; simp; omega
theorem fb_gC (k c : Int) (s x : ByteArray) (hc : 0 ≤ c ∧ c ≤ 65535) : gC (fB k c s ++ x) = c := by
  obtain ⟨n, rfl⟩ : ∃ n : Nat, c = n := ⟨c.toNat, by omega⟩
  unfold gC
  rw [fb_d1]; exact takeN_numB n 2 (by omega) _
theorem fb_gN (k c : Int) (s x : ByteArray) (hs : s.size ≤ 100000) : gN (fB k c s ++ x) = s.size := by
  unfold gN
  rw [fb_d3]; exact takeN_numB s.size 4 (by omega) _
theorem fb_end (k c : Int) (s x : ByteArray) : ((fB k c s ++ x)[7 + s.size]!) = 206 := by
  have h := ba_at (s := fB k c s ++ x) (a := 7) (b := (fB k c s ++ x).size) (i := s.size) (by rw [fb_size]; omega) (Nat.le_refl _)
  rw [← h, fb_d7, ba_app_at_r (i := 0) (by rw [ByteArray.size_append, end_size]; omega) (by omega), ba_app_at_l (by rw [end_size]; omega)]
  rfl
theorem fb_data (k c : Int) (s x : ByteArray) : (fB k c s ++ x).extract 7 (7 + s.size) = s := by
  have h := ext_in (fB k c s ++ x) 7 0 s.size (by rw [fb_size]; omega)
  rw [fb_d7] at h
  rw [Nat.add_zero] at h
  rw [← h]; exact app_take _ _ _ rfl
theorem fb_rest (k c : Int) (s x : ByteArray) : (fB k c s ++ x).extract (8 + s.size) (fB k c s ++ x).size = x := by
  exact app_drop _ _ _ _ (by rw [fB_size]) (by rw [fb_size])
theorem fb_ok (k c m : Int) (s x : ByteArray) (hk : kOk k) (hs : (s.size : Int) ≤ m - 8) (hm : m ≤ 4096) : ¬ bad m (fB k c s ++ x) ∧ ¬ short (fB k c s ++ x) := by
  have hkb : 0 ≤ k ∧ k ≤ 255 := by unfold kOk at hk; omega
  have hn := fb_gN k c s x (by omega)
  have hz := fb_size k c s x
  refine ⟨?_, ?_⟩
  · rintro (⟨_, h⟩ | ⟨_, h | ⟨_, h⟩⟩)
    · rw [fb_gK _ _ _ _ hkb] at h; exact h hk
    · rw [hn] at h; omega
    · rw [hn, Int.toNat_natCast, fb_end] at h; exact h rfl
  · rintro (h | h)
    · omega
    · rw [hn] at h; omega
/-- A beginning of a frame's bytes. -/
theorem fb_pre (k c m : Int) (s : ByteArray) (hk : kOk k) (hs : (s.size : Int) ≤ m - 8) (hm : m ≤ 4096) (j : Nat) (hj : j < 8 + s.size) : ¬ bad m ((fB k c s).extract 0 j) ∧ short ((fB k c s).extract 0 j) := by
  have hkb : 0 ≤ k ∧ k ≤ 255 := by unfold kOk at hk; omega
  have hz : ((fB k c s).extract 0 j).size = j := by rw [ByteArray.size_extract, fB_size]; omega
  have hat : ∀ i, i < j → (((fB k c s).extract 0 j)[i]!) = ((fB k c s)[i]!) := fun i hi => by
    have := ba_at (s := fB k c s) (a := 0) (b := j) (i := i) (by omega) (by rw [fB_size]; omega)
    rw [this, Nat.zero_add]
  have e0 := append_empty' (fB k c s)
  have hK := fb_gK k c s ⟨#[]⟩ hkb
  have hN := fb_gN k c s ⟨#[]⟩ (by omega)
  rw [e0] at hK hN
  have hN2 : 7 ≤ j → gN ((fB k c s).extract 0 j) = s.size := fun h7 => by
    rw [← hN]
    unfold gN
    refine takeN_congr fun i hi => ?_
    rw [ba_at (by rw [hz]; omega) (Nat.le_refl _), ba_at (by rw [fB_size]; omega) (Nat.le_refl _)]
    exact hat _ (by omega)
  refine ⟨?_, ?_⟩
  · rintro (⟨h0, h⟩ | ⟨h7, h | ⟨h, _⟩⟩)
    · refine h ?_
      unfold gK at hK ⊢
      rw [hat 0 (by omega), hK]; exact hk
    · rw [hN2 (by omega)] at h; omega
    · rw [hN2 (by omega)] at h; omega
  · by_cases h7 : j < 7
    · exact .inl (by omega)
    · exact .inr (by rw [hN2 (by omega), hz]; omega)
/-- Frames, and what is left. -/
inductive Prs (m : Int) : ByteArray → List Fr → ByteArray → Prop
  | nil {b : ByteArray} (h1 : ¬ bad m b) (h2 : short b) : Prs m b [] b
  | cons {b : ByteArray} {fs : List Fr} {b' : ByteArray} (h1 : ¬ bad m b) (h2 : ¬ short b) (h : Prs m (b.extract (8 + (gN b).toNat) b.size) fs b') : Prs m b (⟨gK b, gC b, b.extract 7 (7 + (gN b).toNat)⟩ :: fs) b'
def frG (m : Int) (f : Fr) : Prop := kOk f.k ∧ (0 ≤ f.c ∧ f.c ≤ 65535) ∧ (f.d.size : Int) ≤ m - 8
theorem Prs.frame {m : Int} (hm : m ≤ 4096) {f : Fr} (hf : frG m f) {x b' : ByteArray} {fs : List Fr} (h : Prs m x fs b') : Prs m (fB f.k f.c f.d ++ x) (f :: fs) b' := by
  obtain ⟨h1, h2, h3⟩ := hf
  have hkb : 0 ≤ f.k ∧ f.k ≤ 255 := by unfold kOk at h1; omega
  obtain ⟨q1, q2⟩ := fb_ok f.k f.c m f.d x h1 h3 hm
  have hn := fb_gN f.k f.c f.d x (by omega)
  have := Prs.cons (fs := fs) (b' := b') q1 q2 (by rw [hn, Int.toNat_natCast, fb_rest]; exact h)
  rw [hn, Int.toNat_natCast, fb_gK _ _ _ _ hkb, fb_gC _ _ _ _ h2, fb_data] at this
  exact this
/-- The bytes of frames. -/
def bt : List Fr → ByteArray
  | [] => ⟨#[]⟩
  | f :: l => fB f.k f.c f.d ++ bt l
theorem empty_ok (m : Int) : ¬ bad m ⟨#[]⟩ ∧ short ⟨#[]⟩ := by
  refine ⟨?_, .inl (by decide)⟩
  rintro (⟨h, _⟩ | ⟨h, _⟩) <;> simp [ByteArray.size] at h
theorem bt_all {m : Int} (hm : m ≤ 4096) : ∀ l : List Fr, (∀ f ∈ l, frG m f) → Prs m (bt l) l ⟨#[]⟩
  | [], _ => .nil (empty_ok m).1 (empty_ok m).2
  | f :: l, h => .frame hm (h f (by simp)) (bt_all hm l fun g hg => h g (by simp [hg]))
theorem bt_append (l l' : List Fr) : bt (l ++ l') = bt l ++ bt l' := by
  induction l with
  | nil => simp only [List.nil_append, bt, empty_append]
  | cons f l ih => simp only [List.cons_append, bt, ih, ByteArray.append_assoc]
theorem app_take_l (s x : ByteArray) (j : Nat) (h : j ≤ s.size) : (s ++ x).extract 0 j = s.extract 0 j := by
  apply ByteArray.ext
  simp only [ByteArray.data_extract, ByteArray.data_append]
  rw [Array.extract_append]
  have : j - s.data.size = 0 := by have : s.data.size = s.size := rfl; omega
  simp [this]
  left; omega
theorem app_take_r (s x : ByteArray) (j : Nat) (h : s.size ≤ j) : (s ++ x).extract 0 j = s ++ x.extract 0 (j - s.size) := by
  apply ByteArray.ext
  simp only [ByteArray.data_extract, ByteArray.data_append]
  rw [Array.extract_append]
  have : s.data.size = s.size := rfl
  congr 1
  · rw [Array.extract_eq_self_of_le (by omega)]
  · rw [this]; simp
theorem Prs.part {m : Int} (hm : m ≤ 4096) : ∀ (l : List Fr), (∀ f ∈ l, frG m f) → ∀ j, j ≤ (bt l).size →
    ∃ d t, l = d ++ t ∧ (bt d).size ≤ j ∧ Prs m ((bt l).extract 0 j) d ((bt t).extract 0 (j - (bt d).size))
  | [], _, j, hj => ⟨[], [], rfl, Nat.zero_le _, by
      have e : (bt []).extract 0 j = ⟨#[]⟩ := ba_nil (by rw [ByteArray.size_extract]; simp [bt, ByteArray.size])
      have e2 : (bt []).extract 0 (j - (bt []).size) = ⟨#[]⟩ := ba_nil (by rw [ByteArray.size_extract]; simp [bt, ByteArray.size])
      rw [e, e2]; exact .nil (empty_ok m).1 (empty_ok m).2⟩
  | f :: l, h, j, hj => by
    obtain ⟨q1, q2, q3⟩ := h f (by simp)
    by_cases hlt : j < 8 + f.d.size
    · refine ⟨[], f :: l, rfl, Nat.zero_le _, ?_⟩
      have e : (bt (f :: l)).extract 0 j = (fB f.k f.c f.d).extract 0 j := app_take_l _ _ _ (by rw [fB_size]; omega)
      have hp := fb_pre f.k f.c m f.d q1 q3 hm j hlt
      have ez : (bt ([] : List Fr)).size = 0 := rfl
      rw [ez, Nat.sub_zero, e]
      exact .nil hp.1 hp.2
    · have hz : (fB f.k f.c f.d).size = 8 + f.d.size := fB_size _ _ _
      have hb : (bt (f :: l)).size = 8 + f.d.size + (bt l).size := by rw [bt, ByteArray.size_append, hz]
      obtain ⟨d, t, e1, e2, e3⟩ := Prs.part hm l (fun g hg => h g (by simp [hg])) (j - (8 + f.d.size)) (by omega)
      refine ⟨f :: d, t, by rw [e1]; rfl, by rw [bt, ByteArray.size_append, hz]; omega, ?_⟩
      have e : (bt (f :: l)).extract 0 j = fB f.k f.c f.d ++ (bt l).extract 0 (j - (8 + f.d.size)) := by
        rw [bt, app_take_r _ _ _ (by omega), hz]
      rw [e]
      have e4 : j - (bt (f :: d)).size = j - (8 + f.d.size) - (bt d).size := by rw [bt, ByteArray.size_append, hz]; omega
      rw [e4]
      exact e3.frame hm ⟨q1, q2, q3⟩
end Go.Proofs.Ytmehmjdcigokjaa
