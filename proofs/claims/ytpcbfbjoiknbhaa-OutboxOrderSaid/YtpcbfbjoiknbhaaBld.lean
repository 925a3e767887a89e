/- A part of the proof that OutboxOrder holds of every input. -/
import Derived.Test.YtpcbfbjoiknbhaaFacts
import Derived.Test.YtpcbfbjoiknbhaaFwG3
import Derived.Test.YtpcbfbjoiknbhaaM
namespace Go.Proofs.Ytpcbfbjoiknbhaa
open Go.Ab Go.RowKit
set_option linter.all false
set_option maxRecDepth 10000
set_option maxHeartbeats 2000000
theorem bytesR_cells (s : ByteArray) : bytesR s = Lib.strCells s := by
  rw [Lib.strCells_eq]; simp [bytesR, Lib.byteCells]
theorem bytesR_app (a b : ByteArray) : bytesR (a ++ b) = bytesR a ++ bytesR b := by
  simp [bytesR, ByteArray.data_append]
theorem bytesR_flat (s : ByteArray) : ∀ v ∈ bytesR s, flatS v = true := fun v hv => by
  have := List.all_eq_true.1 (bytesR_all s) v hv
  cases v <;> simp_all [isByte, flatS]
section
variable {E : Env} {w0 w : World} {μ : Mu} {σ : St} {nid : Nat}
theorem rel_congr {σ' : St} (hr : Rel E w0 μ σ w) (hn : σ'.next = σ.next) (hg : ∀ k, σ'.heap.get k = σ.heap.get k) : Rel E w0 μ σ' w :=
  ⟨hr.below, hr.old_le, by rw [hn]; exact hr.old_next, hr.base, fun a p h => by rw [hn]; exact hr.dom a p h, fun a b h => hr.blk a b (by rw [← hg]; exact h), hr.new, fun a a' b b' p p' h h' => hr.inj a a' b b' p p' (by rw [← hg]; exact h) (by rw [← hg]; exact h')⟩
theorem rel_bump (hr : Rel E w0 μ σ w) (n : Nat) : Rel E w0 μ ⟨σ.heap, σ.next + n⟩ w :=
  ⟨hr.below, hr.old_le, by have := hr.old_next; simp only; omega, hr.base, fun a p h => by have := hr.dom a p h; simp only; omega, hr.blk, hr.new, hr.inj⟩
/-- Bytes behind those that strings may share. -/
theorem rel_regrowF (hr : Rel E w0 μ σ w) (ho : E.old ≤ nid) (hn : nid < σ.next) (hm : μ nid = none) {b : Nat} {cs : List Value} {el : TypeId} (hb : σ.heap.get b = some (.froz cs el)) {p : Pl} (hp : μ b = some p)
    {new : List Value} (hflat : ∀ v ∈ new, flatS v = true) {C : Array Value} {fz : Nat × Nat} (h4 : w.heap[p.c]? = some (.cells C el fz)) (hfit : cs.length + new.length ≤ C.size) :
    Rel E w0 (fun a => if a = nid then some ⟨p.c, 0, cs.length + new.length, false, p.sz, p.tot⟩ else μ a) ⟨(σ.heap.set b none).set nid (some (.froz (cs ++ new) el)), σ.next⟩ (w.setRow p.c (C.toList.take cs.length ++ new ++ C.toList.drop (cs.length + new.length)).toArray) := by
  obtain ⟨p', hp', h1, h2, h3, C', fz', h4', h5, ⟨h60, h6⟩, h7, h8, h9, h10⟩ := hr.blk _ _ hb
  rw [hp] at hp'
  cases hp'
  rw [h4] at h4'
  injection h4' with h4'
  injection h4' with e1 e2 e3
  subst e1 e3
  generalize hC' : (C.toList.take cs.length ++ new ++ C.toList.drop (cs.length + new.length)).toArray = C'
  have hCs : C'.size = C.size := by rw [← hC']; simp; omega
  have hcg : ∀ j, j ≠ p.c → (w.setRow p.c C').heap[j]? = w.heap[j]? := fun j hj => setRow_other w p.c j C' hj
  have hsz : (w.setRow p.c C').heap.size = w.heap.size := by simp [World.setRow]
  have hpn := hr.new _ _ hp
  have hle : Le μ (fun a => if a = nid then some ⟨p.c, 0, cs.length + new.length, false, p.sz, p.tot⟩ else μ a) := by
    intro a q hq
    by_cases ha : a = nid
    · subst ha; rw [hm] at hq; cases hq
    · simp [ha, hq]
  have hCi : ∀ j, C'[j]? = if j < cs.length then C[j]? else if j < cs.length + new.length then new[j - cs.length]? else C[j]? := by
    intro j
    rw [← hC']
    simp only [List.getElem?_toArray, List.getElem?_append, List.length_append, List.length_take, List.getElem?_take, List.getElem?_drop, Array.length_toList, Array.getElem?_toList]
    have hmin : min cs.length C.size = cs.length := by omega
    rw [hmin]
    by_cases hj : j < cs.length
    · simp [hj]; intro hx; omega
    · by_cases hj2 : j < cs.length + new.length
      · simp [hj, hj2]
      · simp only [hj, hj2, if_false]
        congr 1
        omega
  refine ⟨?_, hr.old_le, hr.old_next, hr.base, ?_, ?_, ?_, ?_⟩
  · exact hr.below.trans ⟨rfl, rfl, rfl, by omega, fun j hj => hcg j (by omega)⟩
  · intro a q hq
    by_cases ha : a = nid
    · subst ha; exact ⟨hn, ho⟩
    · simp [ha] at hq; exact hr.dom a q hq
  · intro a c hc
    simp only at hc
    rw [T.get_set, T.get_set] at hc
    split at hc
    · rename_i ha
      subst ha
      cases hc
      refine ⟨_, if_pos rfl, ?_, rfl, h3, C', fz, setRow_heap w p.c C C' el fz h4, by rw [hCs]; exact h5, ⟨rfl, ?_⟩, ?_, ?_, ?_, h10⟩
      · simp
      · simp only; omega
      · simp only; omega
      · intro i v hi
        simp only [Nat.zero_add]
        rw [List.getElem?_append] at hi
        rw [hCi]
        by_cases hik : i < cs.length
        · rw [if_pos hik] at hi ⊢
          obtain ⟨v', q1, q2⟩ := h8 _ _ hi
          exact ⟨v', by rw [← q1, h60, Nat.zero_add], q2.mono hle⟩
        · rw [if_neg hik] at hi ⊢
          have hil : i - cs.length < new.length := (List.getElem?_eq_some_iff.1 hi).1
          rw [if_pos (by omega)]
          exact ⟨v, hi, .flat _ (hflat v (List.mem_of_getElem? hi))⟩
      · intro j v hj hv
        simp only [Nat.zero_add] at hj
        rw [hCi, if_neg (by omega), if_neg (by omega)] at hv
        exact h9 j v (by omega) hv
    · rename_i ha
      split at hc
      · cases hc
      · rename_i hab
        obtain ⟨q, hq, hbq⟩ := hr.blk a c hc
        refine ⟨q, by simp [ha, hq], (hbq.world (hcg _ ?_)).mono hle⟩
        intro e
        exact hab (hr.inj a b c _ q p hc hb hq hp e)
  · intro a q hq
    by_cases ha : a = nid
    · simp [ha] at hq; subst hq; simp only; omega
    · simp [ha] at hq
      have := hr.new a q hq
      omega
  · intro a a' c c' q q' hc hc' hq hq' e
    simp only at hc hc'
    rw [T.get_set, T.get_set] at hc hc'
    by_cases ha : a = nid <;> by_cases ha' : a' = nid
    · omega
    · simp [ha] at hq; simp [ha'] at hq' hc'
      subst hq
      obtain ⟨hne, hc'⟩ := hc'
      exact absurd (hr.inj a' b c' _ q' p hc' hb hq' hp e.symm) hne
    · simp [ha] at hq hc; simp [ha'] at hq'
      subst hq'
      obtain ⟨hne, hc⟩ := hc
      exact absurd (hr.inj a b c _ q p hc hb hq hp e) hne
    · simp [ha] at hq hc; simp [ha'] at hq' hc'
      exact hr.inj a a' c c' q q' hc.2 hc'.2 hq hq' e
/-- New bytes. -/
theorem rel_allocF (hr : Rel E w0 μ σ w) (ho : E.old ≤ nid) (hn : nid < σ.next) (hm : μ nid = none) {l : List Value} (hflat : ∀ v ∈ l, flatS v = true) {el : TypeId} (hsz : sizeT E.P el = some 1) (hu : E.P.underlying el = some (.int .u8)) {C : Array Value} (hC : ∀ (i : Nat) (v : Value), l[i]? = some v → C[i]? = some v) (hle : l.length ≤ C.size) (hrest : ∀ (j : Nat) (v : Value), l.length ≤ j → C[j]? = some v → flatS v = true) :
    Rel E w0 (fun k => if k = nid then some ⟨w.heap.size, 0, l.length, false, 1, C.size⟩ else μ k) ⟨σ.heap.set nid (some (.froz l el)), σ.next⟩ (w.alloc (.cells C el)) := by
  refine hr.allocB ho hn hm (.froz l el) ⟨w.heap.size, 0, l.length, false, 1, C.size⟩ rfl _ (by simp) (fun k hk => Lib.alloc_old w _ k hk) rfl rfl rfl ?_
  refine ⟨rfl, rfl, hsz, C, (0, 0), heap_alloc_new w _, rfl, ⟨rfl, by simpa using hle⟩, Nat.zero_le _, fun i v hv => ⟨v, by simpa using hC i v hv, .flat _ (hflat v (List.mem_of_getElem? hv))⟩, fun j v hj hv => hrest j v (by simpa using hj) hv, hu⟩
theorem info5 : ∃ i, Try.prog.info? 5 = some i ∧ i.size = 1 ∧ i.bytes = 1 ∧ i.zero = some (.int .u8 0) := ⟨_, rfl, by kernel_rfl, by kernel_rfl, by kernel_rfl⟩
theorem u5 : Try.prog.underlying 5 = some (.int .u8) := by kernel_rfl
theorem z5 : sizeT Try.prog 5 = some 1 := by kernel_rfl
theorem zero_flat {n : Nat} : ∀ v ∈ Builtin.zeroCells (Value.int .u8 0).cells n, flatS v = true := fun v hv => by
  rw [← Array.mem_toList_iff] at hv
  rw [← zeroCells_list _ _ (by decide)] at hv
  exact zeroRow_flat rfl (by decide) _ v hv
theorem app_nil (hP : E.P = Try.prog) (hr : Rel E w0 μ σ w) (ho : E.old ≤ nid) (hn : nid < σ.next) (hm : μ nid = none) (s : ByteArray) (hs : 0 < s.size) (hs2 : s.size ≤ 1000000000) :
    ∃ g' cap' w' μ', (Builtin.append_ #[37, 9] 37 #[.slice none 0 0, .string s]).run Try.prog w = .ok (.slice (some g') s.size cap') w' ∧ VRel E.old μ' (.slice (some ⟨nid, 0, none⟩) s.size s.size) (.slice (some g') s.size cap') ∧
      Rel E w0 μ' ⟨σ.heap.set nid (some (.froz (bytesR s) 5)), σ.next⟩ w' ∧ ∀ a, a ≠ nid → μ' a = μ a := by
  obtain ⟨i, hi, hi1, hi2, hi3⟩ := info5
  have hrun := run_append_grow' (P := Try.prog) (w := w) (ts := #[37, 9]) (ty := 37) (t0 := 37) (t1 := 9) (base := none) (sLen := 0) (sCap := 0) (n := s.size) (x := .string s) (old := []) (new := Lib.strCells s) rfl rfl Try.underlying37 Try.underlying9 rfl hi hi3 (by simp [Builtin.lenOf]) (by omega) (by omega) (by rw [hi2]; omega) (by simp [Builtin.firstCells]) (Lib.run_firstCells_string (P := Try.prog) w.drew i.size s)
  have hge := grownCap_ge w (0 + s.size) 0 5
  generalize grownCap w (0 + s.size) 0 5 = gc at hrun hge
  rw [Nat.zero_add] at hrun hge
  have hsl : (Lib.strCells s).length = s.size := Lib.strCells_length s
  have hbl : (bytesR s).length = s.size := bytesR_len s
  have hz1 : (Value.int IntKind.u8 0).cells.size = 1 := rfl
  have hCs : (([] : List Value).toArray ++ (Lib.strCells s).toArray ++ Builtin.zeroCells (Value.int .u8 0).cells (gc - s.size)).size = gc := by
    simp only [Array.size_append, List.size_toArray, size_zeroCells, hz1, hsl, List.length_nil]; omega
  have ha := rel_allocF (C := ([] : List Value).toArray ++ (Lib.strCells s).toArray ++ Builtin.zeroCells (Value.int .u8 0).cells (gc - s.size)) hr.drew ho hn hm (bytesR_flat s) (el := 5) (by rw [hP]; exact z5) (by rw [hP]; exact u5) (fun i v hv => ?_) (by rw [hCs, hbl]; exact hge) (fun j v hj hv => ?_)
  · refine ⟨⟨w.heap.size, 0, none⟩, gc, _, _, hrun, ?_, ha, fun a ha => by simp [ha]⟩
    refine .slice _ _ _ _ _ (.inr ⟨ARel.new ho, .inr ⟨ho, hge, _, if_pos rfl, rfl, ?_, ?_⟩⟩)
    · simp only [Nat.zero_add, Nat.mul_one]; exact hbl.symm
    · simp only [Nat.zero_add, Nat.mul_one]; rw [hCs]; exact Nat.le_refl _
  · rw [bytesR_cells] at hv
    have hlt := (List.getElem?_eq_some_iff.1 hv).1
    simp only [Array.append_assoc, List.append_toArray, List.nil_append] 
    rw [Array.getElem?_append_left (by simpa using hlt)]
    simpa using hv
  · rw [hbl] at hj
    simp only [Array.append_assoc] at hv
    rw [Array.getElem?_append_right (by simp), Array.getElem?_append_right (by simp [hsl]; omega)] at hv
    exact zero_flat v (Array.mem_of_getElem? hv)
theorem app_some (hP : E.P = Try.prog) (hr : Rel E w0 μ σ w) (ho : E.old ≤ nid) (hn : nid < σ.next) (hm : μ nid = none) (s : ByteArray) (hs : 0 < s.size) {g : Addr} {n : Nat} {cs : List Value} (hg0 : g.off = 0) (hb : σ.heap.get g.block = some (.froz cs 5)) (hcs : cs.all isByte = true) (hcn : cs.length = n) (hn0 : 0 < n) (hs2 : n + s.size ≤ 1000000000) {v' : Value} (hv : VRel E.old μ (.slice (some g) n n) v') :
    ∃ g' cap' w' μ', (Builtin.append_ #[37, 9] 37 #[v', .string s]).run Try.prog w = .ok (.slice (some g') (n + s.size) cap') w' ∧ VRel E.old μ' (.slice (some ⟨nid, 0, none⟩) (n + s.size) (n + s.size)) (.slice (some g') (n + s.size) cap') ∧
      Rel E w0 μ' ⟨(σ.heap.set g.block none).set nid (some (.froz (cs ++ bytesR s) 5)), σ.next⟩ w' ∧ ∀ a, a ≠ nid → μ' a = μ a := by
  obtain ⟨i, hi, hi1, hi2, hi3⟩ := info5
  obtain ⟨c, ck, rfl, hsr⟩ := hv.inv_slice
  obtain ⟨p, hp, h1, h2, h3, C, fz, h4, h5, ⟨h60, h6⟩, h7, h8, h9, h10⟩ := hr.blk _ _ hb
  have hd := hr.dom _ _ hp
  have hbn : g.block ≠ nid := by intro e; rw [e] at hp; rw [hm] at hp; cases hp
  have hps : p.sz = 1 := by rw [hP, z5] at h3; exact (Option.some.inj h3).symm
  have hsl : (Lib.strCells s).length = s.size := Lib.strCells_length s
  have hbl : (bytesR s).length = s.size := bytesR_len s
  rcases hsr with ⟨z, _⟩ | ⟨⟨r1, r2, r3⟩, hcap⟩
  · omega
  rcases r3 with ⟨z, _⟩ | ⟨_, p', hp', r3, r4⟩
  · omega
  rw [hp] at hp'; cases hp'
  have hc : c = ⟨p.c, 0, none⟩ := by
    cases c; simp at r2 r3 r4; simp [r2, r3, r4, hg0, h60]
  subst hc
  have hcap2 : n ≤ ck ∧ (ck ≠ n → ck ≤ C.size) := by
    rcases hcap with rfl | ⟨_, g1, p', hp', g2, g3, g4⟩
    · exact ⟨Nat.le_refl _, fun h => absurd rfl h⟩
    · rw [hp] at hp'; cases hp'
      rw [hps, hg0, h60, Nat.mul_one] at g4
      exact ⟨g1, fun _ => by omega⟩
  clear hcap
  have hCv : ∀ (j : Nat) (v : Value), cs[j]? = some v → C[j]? = some v := fun j v hj => by
    obtain ⟨v2, q1, q2⟩ := h8 j v hj
    have hby := List.all_eq_true.1 hcs v (List.mem_of_getElem? hj)
    have : flatS v = true := by cases v <;> simp_all [isByte, flatS]
    rw [q2.flat_eq this] at q1
    rw [← q1, h60, Nat.zero_add]
  by_cases hroom : n + s.size ≤ ck
  · have hfit := hcap2.2 (by omega)
    have hrun := Lib.run_append_room_stringF (P := Try.prog) w 37 9 37 5 i Try.underlying37 Try.underlying9 hi hi1 p.c n ck C fz h4 (by omega) s hroom (by omega)
    have hR := rel_regrowF hr ho hn hm hb hp (bytesR_flat s) h4 (by rw [hcn, hbl]; omega)
    rw [hcn, hbl, bytesR_cells] at hR
    rw [bytesR_cells]
    refine ⟨⟨p.c, 0, none⟩, ck, _, _, hrun, ?_, hR, fun a ha => by simp [ha]⟩
    refine .slice _ _ _ _ _ (.inr ⟨⟨rfl, rfl, .inr ⟨ho, _, if_pos rfl, rfl, rfl⟩⟩, .inr ⟨ho, hroom, _, if_pos rfl, rfl, ?_, ?_⟩⟩)
    · simp only [hps]; omega
    · simp only [hps]; omega
  · have hfo := run_firstCells_some (P := Try.prog) w.drew i.size n ⟨p.c, 0, none⟩ n ck cs (by rw [hi1, Nat.mul_one]; exact hcn) (fun j v hj => by
      rw [add_off _ _ rfl]
      simp only [World.cell?, World.drew, h4, Nat.zero_add, Option.isSome_none, Bool.false_eq_true, if_false]
      exact hCv j v hj)
    have hrun := run_append_grow' (P := Try.prog) (w := w) (ts := #[37, 9]) (ty := 37) (t0 := 37) (t1 := 9) (base := some ⟨p.c, 0, none⟩) (sLen := n) (sCap := ck) (n := s.size) (x := .string s) (old := cs) (new := Lib.strCells s) rfl rfl Try.underlying37 Try.underlying9 rfl hi hi3 (by simp [Builtin.lenOf]) (by omega) (by omega) (by rw [hi2]; omega) hfo (Lib.run_firstCells_string (P := Try.prog) w.drew i.size s)
    have hge := grownCap_ge w (n + s.size) ck 5
    generalize grownCap w (n + s.size) ck 5 = gc at hrun hge
    have hz1 : (Value.int IntKind.u8 0).cells.size = 1 := rfl
    have hCs : (cs.toArray ++ (Lib.strCells s).toArray ++ Builtin.zeroCells (Value.int .u8 0).cells (gc - (n + s.size))).size = gc := by
      simp only [Array.size_append, List.size_toArray, size_zeroCells, hz1, hsl, hcn]; omega
    have hfl : ∀ v ∈ cs ++ bytesR s, flatS v = true := fun v hv => by
      rcases List.mem_append.1 hv with hv | hv
      · have hby := List.all_eq_true.1 hcs v hv
        cases v <;> simp_all [isByte, flatS]
      · exact bytesR_flat s v hv
    have hll : (cs ++ bytesR s).length = n + s.size := by rw [List.length_append, hbl, hcn]
    have ha := rel_allocF (C := cs.toArray ++ (Lib.strCells s).toArray ++ Builtin.zeroCells (Value.int .u8 0).cells (gc - (n + s.size))) hr.drew ho hn hm hfl (el := 5) (by rw [hP]; exact z5) (by rw [hP]; exact u5) (fun i v hv => ?_) (by rw [hCs, hll]; exact hge) (fun j v hj hv => ?_)
    · have hk := ha.kill g.block
      simp only at hk
      rw [T.set_comm _ _ _ _ _ (Ne.symm hbn)] at hk
      refine ⟨⟨w.heap.size, 0, none⟩, gc, _, _, hrun, ?_, hk, fun a ha => by simp [ha]⟩
      refine .slice _ _ _ _ _ (.inr ⟨ARel.new ho, .inr ⟨ho, hge, _, if_pos rfl, rfl, ?_, ?_⟩⟩)
      · simp only [Nat.zero_add, Nat.mul_one]; exact hll.symm
      · simp only [Nat.zero_add, Nat.mul_one]; rw [hCs]; exact Nat.le_refl _
    · rw [bytesR_cells] at hv
      have hlt := (List.getElem?_eq_some_iff.1 hv).1
      rw [Array.getElem?_append_left (by simpa using hlt)]
      simpa using hv
    · rw [hll] at hj
      rw [Array.getElem?_append_right (by simp [hsl, hcn]; omega)] at hv
      exact zero_flat v (Array.mem_of_getElem? hv)
end
end Go.Proofs.Ytpcbfbjoiknbhaa
