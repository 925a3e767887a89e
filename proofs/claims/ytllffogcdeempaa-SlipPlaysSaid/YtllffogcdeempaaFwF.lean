/- append, copy, clear, make, conversions. -/
import Derived.Lib.AppendZerosOnto
import Derived.Test.YtllffogcdeempaaFwE
set_option linter.all false
open Go.RowKit
namespace Go.Ab
section
variable {E : Env} {w0 w : World} {μ : Mu} {σ : St} {nid : Nat}

/-- A slice grows where it lies, beyond what was known: its block goes, a new one stands there. -/
theorem Rel.regrow (hr : Rel E w0 μ σ w) (ho : E.old ≤ nid) (hn : nid < σ.next) (hm : μ nid = none) {b : Nat} {cs : List Value} {el : TypeId} (hb : σ.heap.get b = some (.cells cs el false)) {p : Pl} (hp : μ b = some p)
    (off k : Nat) (hk : off + k ≤ cs.length) {new new' : List Value} (hnew : LRel E.old μ new new') (hone : ∀ v ∈ new', v.oneCell' = true) (hfit : p.st + off + k + new'.length ≤ p.tot) (hcov : cs.length ≤ off + k + new.length) :
    ∃ w', (storeCells ⟨p.c, p.st + off + k, none⟩ new').run E.P w = .ok () w' ∧
      Rel E w0 (fun a => if a = nid then some ⟨p.c, p.st + off, k + new.length, false, p.sz, p.tot⟩ else μ a) ⟨(σ.heap.set b none).set nid (some (.cells ((cs.drop off).take k ++ new) el false)), σ.next⟩ w' := by
  obtain ⟨p', hp', h1, h2, h3, C, fz, h4, h5, h6, h7, h8, h9, h10⟩ := hr.blk _ _ hb
  rw [hp] at hp'
  cases hp'
  have hrun := run_store_fz E.P p.c (p.st + off + k) el fz new' 0 C w h4 h8 (by omega) hone
  refine ⟨_, hrun, ?_⟩
  generalize hC' : (C.toList.take (p.st + off + k + 0) ++ new' ++ C.toList.drop (p.st + off + k + 0 + new'.length)).toArray = C'
  have hCs : C'.size = C.size := by rw [← hC']; simp; omega
  have hcg : ∀ j, j ≠ p.c → (w.setRow p.c C').heap[j]? = w.heap[j]? := fun j hj => setRow_other w p.c j C' hj
  have hsz : (w.setRow p.c C').heap.size = w.heap.size := by simp [World.setRow]
  have hpn := hr.new _ _ hp
  have hbn : b ≠ nid := by rintro rfl; rw [hm] at hp; cases hp
  have hle : Le μ (fun a => if a = nid then some ⟨p.c, p.st + off, k + new.length, false, p.sz, p.tot⟩ else μ a) := by
    intro a q hq
    by_cases ha : a = nid
    · subst ha; rw [hm] at hq; cases hq
    · simp [ha, hq]
  have hx : p.ex = false := h2
  have hCi : ∀ j, C'[j]? = if j < p.st + off + k then C[j]? else if j < p.st + off + k + new'.length then new'[j - (p.st + off + k)]? else C[j]? := by
    intro j
    rw [← hC']
    simp only [Nat.add_zero, List.getElem?_toArray, List.getElem?_append, List.length_append, List.length_take, List.getElem?_take, List.getElem?_drop, Array.length_toList, Array.getElem?_toList]
    have hmin : min (p.st + off + k) C.size = p.st + off + k := by omega
    rw [hmin]
    by_cases hj : j < p.st + off + k
    · simp [hj]; intro hx; omega
    · by_cases hj2 : j < p.st + off + k + new'.length
      · simp [hj, hj2]
      · simp only [hj, hj2, if_false]
        congr 1
        omega
  have hlen := hnew.1
  refine ⟨?_, hr.old_le, hr.old_next, hr.base, ?_, ?_, ?_, ?_⟩
  · exact hr.below.trans ⟨rfl, rfl, rfl, by omega, fun j hj => hcg j (by omega)⟩
  · intro a q hq
    by_cases ha : a = nid
    · subst ha; exact ⟨hn, ho⟩
    · simp [ha] at hq; exact hr.dom a q hq
  · intro a c hc
    simp only at hc
    rw [T.get_set, T.get_set] at hc
    split at hc
    · rename_i ha
      subst ha
      cases hc
      refine ⟨_, if_pos rfl, ?_, rfl, h3, C', fz, setRow_heap w p.c C C' el fz h4, by rw [hCs]; exact h5, ?_, by simp, by rw [hCs]; exact h8, ?_, ?_⟩
      · simp; omega
      · simp only; omega
      rotate_left
      · refine ⟨?_, h10.2⟩
        intro j v _ hj hv
        simp only at hj
        rw [hCi, if_neg (by omega), if_neg (by omega)] at hv
        exact h10.1 j v rfl (by omega) hv
      · intro i v hi
        simp only
        rw [List.getElem?_append] at hi
        have hl : ((cs.drop off).take k).length = k := by simp; omega
        rw [hl] at hi
        rw [hCi]
        by_cases hik : i < k
        · rw [if_pos hik] at hi
          rw [if_pos (by omega)]
          have hi' : cs[off + i]? = some v := by simpa [List.getElem?_take, hik, List.getElem?_drop] using hi
          obtain ⟨v', q1, q2⟩ := h9 _ _ hi'
          exact ⟨v', by rw [← q1]; congr 1; omega, q2.mono hle⟩
        · rw [if_neg hik] at hi
          have hil : i - k < new.length := (List.getElem?_eq_some_iff.1 hi).1
          rw [if_neg (by omega), if_pos (by omega), show p.st + off + i - (p.st + off + k) = i - k by omega]
          have hil' : i - k < new'.length := by omega
          exact ⟨new'[i - k], by simp [hil'], (hnew.2 _ v _ hi (by simp [hil'])).mono hle⟩
    · rename_i ha
      split at hc
      · cases hc
      · rename_i hab
        obtain ⟨q, hq, hbq⟩ := hr.blk a c hc
        refine ⟨q, by simp [ha, hq], (hbq.world (hcg _ ?_)).mono hle⟩
        intro e
        exact hab (hr.inj a b c _ q p hc hb hq hp e)
  · intro a q hq
    by_cases ha : a = nid
    · simp [ha] at hq; subst hq; simp only; omega
    · simp [ha] at hq
      have := hr.new a q hq
      omega
  · intro a a' c c' q q' hc hc' hq hq' e
    simp only at hc hc'
    rw [T.get_set, T.get_set] at hc hc'
    by_cases ha : a = nid <;> by_cases ha' : a' = nid
    · omega
    · simp [ha] at hq; simp [ha'] at hq' hc'
      subst hq
      obtain ⟨hne, hc'⟩ := hc'
      exact absurd (hr.inj a' b c' _ q' p hc' hb hq' hp e.symm) hne
    · simp [ha] at hq hc; simp [ha'] at hq'
      subst hq'
      obtain ⟨hne, hc⟩ := hc
      exact absurd (hr.inj a b c _ q p hc hb hq hp e) hne
    · simp [ha] at hq hc; simp [ha'] at hq' hc'
      exact hr.inj a a' c c' q q' hc.2 hc'.2 hq hq' e

theorem one_of_all {old : Nat} {l l' : List Value} (hl : LRel old μ l l') (h : l.all oneCell = true) : ∀ v ∈ l', v.oneCell' = true := by
  intro v hm
  obtain ⟨i, hi⟩ := List.getElem?_of_mem hm
  have hil : i < l.length := by have := (List.getElem?_eq_some_iff.1 hi).1; have := hl.1; omega
  refine (hl.2 i l[i] v (by simp [hil]) hi).oneCell ?_
  exact List.all_eq_true.1 h _ (by simp)

theorem zeroCells_list (z : Array Value) (n : Nat) (hz : 0 < z.size) : zeroRow z (n * z.size) = (Builtin.zeroCells z n).toList := by
  unfold zeroRow Builtin.zeroCells
  split
  · rename_i h1
    apply List.ext_getElem?
    intro j
    by_cases hj : j < n * z.size
    · have hjn : j < n := by rw [h1] at hj; omega
      simp [hjn, h1, Nat.mod_one, getElem!_def, Array.getD]
    · simp [hj]
  · simp

theorem zeroRow_flat {v : Value} (hs : scalar v = true) (hz : 0 < v.cells.size) (n : Nat) : ∀ x ∈ zeroRow v.cells n, flatS x = true := by
  intro x hx
  unfold zeroRow at hx
  split at hx
  · rename_i h1
    have e : v.cells.getD 0 default = v.cells[0] := by simp [Array.getD, hz]
    have hx' := List.eq_of_mem_replicate hx
    subst hx'
    show flatS (v.cells[0]) = true
    exact scalar_cells hs _ (by simp)
  · simp only [List.mem_map] at hx
    obtain ⟨j, _, rfl⟩ := hx
    have hlt : j % v.cells.size < v.cells.size := Nat.mod_lt _ hz
    have : v.cells[j % v.cells.size]! = v.cells[j % v.cells.size] := by simp [getElem!_def, hlt]
    rw [this]
    exact scalar_cells hs _ (by simp)

theorem flat_one {v : Value} (h : flatS v = true) : oneCell v = true := by cases v <;> simp_all [flatS, oneCell]

/-- The model's append, once what it asks is known. -/
theorem run_append_room' {P : Program} {ts : Array TypeId} {ty t0 t1 el : TypeId} {u : TypeDesc} {i : TypeInfo} (h0 : ts[0]? = some t0) (h1 : ts[1]? = some t1) (hu0 : P.underlying t0 = some (.slice el)) (hu1 : P.underlying t1 = some u)
    (hni : isSlStr u = true) (hi : P.info? el = some i) {base : Option Addr} {sLen sCap n : Nat} {x : Value} {new : List Value} (hl : (Builtin.lenOf x).run P w = .ok n w)
    (hroom : sLen + n ≤ sCap) (hf : (Builtin.firstCells i.size n x).run P w = .ok new.toArray w) {w' : World}
    (hst : ∀ a, base = some a → (storeCells (a.add (sLen * i.size)) new).run P w = .ok () w') (hnil : base = none → w' = w) :
    (Builtin.append_ ts ty #[.slice base sLen sCap, x]).run P w = .ok (.slice base (sLen + n) sCap) w' := by
  have hsz : (sizeOf el).run P w = .ok i.size w := by simp [sizeOf, typeInfo, hi]
  have hu' : (∃ e', u = .slice e') ∨ u = .string := by cases u <;> simp [isSlStr] at hni ⊢
  cases base with
  | none =>
    have := hnil rfl
    subst this
    rcases hu' with ⟨e', rfl⟩ | rfl <;> simp [Builtin.append_, h0, h1, run_underlying hu0, run_underlying hu1, hsz, hl, hroom, hf]
  | some a =>
    have := hst a rfl
    rcases hu' with ⟨e', rfl⟩ | rfl <;> simp [Builtin.append_, h0, h1, run_underlying hu0, run_underlying hu1, hsz, hl, hroom, hf, this]

theorem run_append_grow' {P : Program} {ts : Array TypeId} {ty t0 t1 el : TypeId} {u : TypeDesc} {i : TypeInfo} {z : Value} (h0 : ts[0]? = some t0) (h1 : ts[1]? = some t1) (hu0 : P.underlying t0 = some (.slice el)) (hu1 : P.underlying t1 = some u)
    (hni : isSlStr u = true) (hi : P.info? el = some i) (hz : i.zero = some z) {base : Option Addr} {sLen sCap n : Nat} {x : Value} {old new : List Value} (hl : (Builtin.lenOf x).run P w = .ok n w)
    (hroom : sCap < sLen + n) (h63 : ((sLen + n : Nat) : Int) ≤ 9223372036854775807) (hfit : (sLen + n) * i.bytes ≤ 140737488355328)
    (hfo : (Builtin.firstCells i.size sLen (.slice base sLen sCap)).run P w.drew = .ok old.toArray w.drew) (hf : (Builtin.firstCells i.size n x).run P w.drew = .ok new.toArray w.drew) :
    (Builtin.append_ ts ty #[.slice base sLen sCap, x]).run P w =
      .ok (.slice (some ⟨w.heap.size, 0, none⟩) (sLen + n) (grownCap w (sLen + n) sCap el))
        (w.drew.alloc (.cells (old.toArray ++ new.toArray ++ Builtin.zeroCells z.cells (grownCap w (sLen + n) sCap el - (sLen + n))) el)) := by
  have hsz : (sizeOf el).run P w = .ok i.size w := by simp [sizeOf, typeInfo, hi]
  have hn : ¬ (sLen + n ≤ sCap) := by omega
  have h63' : ¬ (9223372036854775807 < ((sLen : Int) + (n : Int))) := by omega
  have h48' : ¬ (281474976710656 < Builtin.nextslicecap (sLen + n) sCap * i.bytes) := by
    have := growslice_fits hroom hfit
    omega
  have hu' : (∃ e', u = .slice e') ∨ u = .string := by cases u <;> simp [isSlStr] at hni ⊢
  rcases hu' with ⟨e', rfl⟩ | rfl <;> simp [Builtin.append_, h0, h1, run_underlying hu0, run_underlying hu1, hsz, hl, hn, h63', h48', hfo, hf, hi, hz, typeInfo, zeroValue, Question.forced, newRow, grownCap] <;> (congr 2; apply Array.ext'; simp)

theorem opens_spec (hr : Rel E w0 μ σ w) {a c : Addr} {len cap ck size : Nat} {el : TypeId} (hsz : sizeT E.P el = some size) (hsr : SRel E.old μ a c len cap ck) {b : Bool} (h : opens E σ.heap.get a cap el size = some b) :
    (b = false → ck = cap) ∧ (b = true → E.old ≤ a.block ∧ ∃ cs p, σ.heap.get a.block = some (.cells cs el false) ∧ μ a.block = some p ∧ p.sz = size ∧ a.off + cap * size = cs.length ∧
      (ck ≠ cap → ARel E.old μ a c ∧ p.st + a.off + ck * size ≤ p.tot)) := by
  unfold opens at h
  split at h
  · rename_i hlt
    cases h
    refine ⟨fun _ => ?_, fun h => by cases h⟩
    rcases hsr with ⟨_, h1, h2, _⟩ | ⟨_, h | ⟨h, _⟩⟩ <;> omega
  · rename_i hge
    split at h
    · rename_i cs el' x hb
      obtain ⟨p, hp, h1, h2, h3, C, fz, h4, h5, h6, h7, h8, h9, h10⟩ := hr.blk _ _ hb
      have hbig : ck ≠ cap → ARel E.old μ a c ∧ p.ex = false ∧ a.off + cap * p.sz = p.n ∧ p.st + a.off + ck * p.sz ≤ p.tot := by
        intro hne
        rcases hsr with ⟨_, h1, h2, _⟩ | ⟨ha, h | ⟨_, _, q, hq, r1, r2, r3⟩⟩
        · omega
        · omega
        · rw [hp] at hq; cases hq; exact ⟨ha, r1, r2, r3⟩
      cases x with
      | true =>
        simp at h
        subst h
        refine ⟨fun _ => ?_, fun h => by cases h⟩
        by_cases e : ck = cap
        · exact e
        · have := (hbig e).2.1; rw [h2] at this; cases this
      | false =>
        simp only [Bool.false_eq_true, if_false] at h
        split at h
        · rename_i hel
          subst hel
          have hps : p.sz = size := by have := h3 rfl; rw [hsz] at this; cases this; rfl
          cases h
          refine ⟨fun hf => ?_, fun ht => ?_⟩
          · by_cases e : ck = cap
            · exact e
            · have := (hbig e).2.2.1
              simp at hf
              rw [hps, h1] at this
              exact absurd this hf
          · simp at ht
            exact ⟨by omega, cs, p, hb, hp, hps, ht, fun hne => ⟨(hbig hne).1, by have := (hbig hne).2.2.2; rwa [hps] at this⟩⟩
        · cases h
    · cases h

theorem Rel.kill (hr : Rel E w0 μ σ w) (b : Nat) : Rel E w0 μ ⟨σ.heap.set b none, σ.next⟩ w := by
  have hg : ∀ k c, (σ.heap.set b none).get k = some c → σ.heap.get k = some c := by
    intro k c h
    rw [T.get_set] at h
    split at h
    · cases h
    · exact h
  exact ⟨hr.below, hr.old_le, hr.old_next, hr.base, hr.dom, fun a c h => hr.blk a c (hg a c h), hr.new, fun a a' c c' p p' h h' => hr.inj a a' c c' p p' (hg _ _ h) (hg _ _ h')⟩

theorem rd_cells {g : Nat → Option Blk} {a : Addr} {n : Nat} {l cs : List Value} {el : TypeId} {x : Bool} (hge : E.old ≤ a.block) (hb : g a.block = some (.cells cs el x)) (h : rd E g a n = some l) :
    a.spot = none ∧ a.off + n ≤ cs.length ∧ l = (cs.drop a.off).take n := by
  unfold rd at h
  split at h
  · cases h
  · rename_i hs
    rw [if_neg (by omega), hb] at h
    simp only at h
    split at h
    · rename_i hf
      cases h
      exact ⟨by simpa using hs, hf, rfl⟩
    · cases h

theorem op_appendZ (hr : Rel E w0 μ σ w) (ho : E.old ≤ nid) (hn : nid < σ.next) (hm : μ nid = none) {ts : Array TypeId} {ty t0 t1 el : TypeId} {u : TypeDesc} (ht0 : ts[0]? = some t0) (ht1 : ts[1]? = some t1) (hel : elemT E.P t0 = some el) (hu : E.P.underlying t1 = some u) {s s' x x' : Value} (hs : VRel E.old μ s s') (hx : VRel E.old μ x x')
    {e : Eff} (h : evAppendZ E σ.heap.get nid el u s x = some e) : OpS E w0 μ σ w nid e (do pure (.value (← Builtin.append_ ts ty #[s', x']))) := by
  unfold evAppendZ at h
  split at h
  case h_2 => cases h
  rename_i kn a sLen sCap kq q
  split at h
  case h_2 => cases h
  rename_i i z hi hzc
  split at h
  · cases h
  rename_i hc
  simp only [not_or] at hc
  obtain ⟨c1, c2, c3, c4, c5, c6⟩ := hc
  split at h
  case h_2 => cases h
  rename_i old hold hop
  cases h
  obtain ⟨v, i', hi', hiz, rfl, hsc, hzr⟩ := zero_spec hzc w
  rw [hi] at hi'
  cases hi'
  have hxe := hx.flat_eq rfl
  subst hxe
  have hsize : sizeT E.P el = some i.size := by simp [sizeT, hi]
  have hu0 : E.P.underlying t0 = some (.slice el) := by
    unfold elemT at hel
    split at hel
    · rename_i hh; cases hel; exact hh
    · cases hel
  obtain ⟨c, ck, rfl, hsr⟩ := hs.inv_slice
  have hck := (opens_spec hr hsize hsr hop).1 rfl
  subst hck
  obtain ⟨old', hor, hfo⟩ := rdRow_spec hr.drew hs hold
  have hol : old.length = sLen * i.size := rdRow_length (fun s hs => by cases hs) hold
  obtain ⟨k, rfl⟩ : ∃ k : Nat, q = (k : Int) := ⟨q.toNat, by omega⟩
  simp only [Int.toNat_natCast] at *
  have hrun := Lib.run_append_grow_zeros (P := E.P) w t0 t1 ty el i v kq kn hu0 hu hi hiz (some c) sLen ck old' (by simpa using hfo) k (by omega) (by omega) (by omega) (by omega) (by
    have : k * i.bytes ≤ (sLen + k) * i.bytes := Nat.mul_le_mul_right _ (by omega)
    omega) (growslice_fits (by omega) (by omega))
  have hts : ∀ args, (Builtin.append_ ts ty args).run E.P w = (Builtin.append_ #[t0, t1] ty args).run E.P w := fun args => by
    unfold Builtin.append_
    simp only [ht0, ht1, List.getElem?_toArray, List.getElem?_cons_zero, List.getElem?_cons_succ]
  rw [← hts] at hrun
  have hge := grownCap_ge w (sLen + k) ck el
  generalize hg : grownCap w (sLen + k) ck el = gc at hrun hge
  have hz0 : LRel E.old μ (zeroRow v.cells (k * v.cells.size)) (zeroRow v.cells (k * v.cells.size)) := .refl_of (zeroRow_flat hsc (by omega) _)
  have hzl := zeroCells_list v.cells k (by omega)
  have hzs : v.cells.size = i.size := by omega
  have hll : LRel E.old μ (old ++ zeroRow v.cells (k * i.size)) (old' ++ zeroRow v.cells (k * i.size)) := by rw [← hzs]; exact hor.append hz0
  have hlen2 : (old' ++ zeroRow v.cells (k * i.size)).length = (sLen + k) * i.size := by
    rw [← hll.1, List.length_append, hol, ← hzs, hzl, Array.length_toList, size_zeroCells, ← Nat.add_mul]
  have ha := hr.drew.alloc ho hn hm hll (Builtin.zeroCells v.cells (gc - (sLen + k))).toList el false i.size (fun _ => hsize) (fun h => by cases h) (fun x hx => by
      rw [← zeroCells_list _ _ (by omega)] at hx
      exact zeroRow_flat hsc (by omega) _ x hx)
    (old'.toArray ++ Builtin.zeroCells v.cells k ++ Builtin.zeroCells v.cells (gc - (sLen + k))) (by rw [← hzs, hzl]; simp)
  refine ⟨.value (.slice (some ⟨w.heap.size, 0, none⟩) (sLen + k) gc), _, _, _, by simp [hrun], .inl rfl, ?_, ha, fun a ha => by simp [ha]⟩
  refine .slice _ _ _ _ _ (.inr ⟨ARel.new ho, .inr ⟨ho, hge, _, if_pos rfl, rfl, ?_, ?_⟩⟩)
  · simp only [Nat.zero_add]; rw [hll.1, hlen2]
  · simp only [Nat.zero_add]
    rw [hlen2]
    simp only [Array.length_toList, size_zeroCells, hzs]
    rw [← Nat.add_mul]
    exact Nat.mul_le_mul_right _ (by omega)

theorem op_append (hr : Rel E w0 μ σ w) (ho : E.old ≤ nid) (hn : nid < σ.next) (hm : μ nid = none) {ts : Array TypeId} {ty : TypeId} {s s' x x' : Value} (hs : VRel E.old μ s s') (hx : VRel E.old μ x x')
    {e : Eff} (h : evAppend E σ.heap.get nid ts s x = some e) : OpS E w0 μ σ w nid e (do pure (.value (← Builtin.append_ ts ty #[s', x']))) := by
  unfold evAppend at h
  cases ht0 : ts[0]? with
  | none => simp [ht0] at h
  | some t0 =>
  cases ht1 : ts[1]? with
  | none => simp [ht0, ht1] at h
  | some t1 =>
  simp only [ht0, ht1, Option.bind_some] at h
  cases hel : elemT E.P t0 with
  | none => simp [hel] at h
  | some el =>
  cases hu : E.P.underlying t1 with
  | none => simp [hel, hu] at h
  | some u =>
  simp only [hel, hu] at h
  by_cases hsl : isSlStr u = true
  case neg =>
    simp only [hsl, Bool.not_false, if_true] at h
    exact op_appendZ hr ho hn hm ht0 ht1 hel hu hs hx h
  simp only [hsl, Bool.not_true, Bool.false_eq_true, if_false] at h
  cases hi : E.P.info? el with
  | none => simp [hi] at h
  | some i =>
  cases hzc : zeroCells? E.P el with
  | none => simp [hi, hzc] at h
  | some z =>
  cases hlen : lenV x with
  | none => simp [hi, hzc, hlen] at h
  | some n =>
  simp only [hi, hzc, hlen] at h
  split at h
  · cases h
  rename_i hzz
  have hz0 : i.size ≠ 0 := fun e => hzz (.inl e)
  have hzs : z.size = i.size := by
    by_cases e : z.size = i.size
    · exact e
    · exact absurd (.inr (.inl e)) hzz
  have hstr : ∀ s, x = .string s → i.size = 1 := by
    intro s hs
    subst hs
    by_cases e : i.size = 1
    · exact e
    · exact absurd (.inr (.inr (by simp [strOk, e]))) hzz
  have hsize : sizeT E.P el = some i.size := by simp [sizeT, hi]
  split at h
  case h_2 => cases h
  rename_i base sLen sCap new hnew
  obtain ⟨new', hnr, hfc⟩ := rdRow_spec hr hx hnew
  obtain ⟨new2, hnr2, hfc2⟩ := rdRow_spec hr.drew hx hnew
  have hlx := lenV_spec (P := E.P) hx hlen w
  obtain ⟨v, i', hi', hiz, rfl, hsc, hzr⟩ := zero_spec hzc w
  rw [hi] at hi'
  cases hi'
  have hu0 := elemT_spec hel
  -- in the room that is known
  split at h
  · rename_i hroom
    split at h
    · rename_i hn0
      subst hn0
      cases h
      have hres : ∃ s2 ck, s' = .slice s2 sLen ck ∧ sLen + 0 ≤ ck := by
        cases base with
        | none => obtain ⟨h1, h2, rfl⟩ := hs.inv_nil; subst h1; exact ⟨none, 0, rfl, Nat.le_refl _⟩
        | some a => obtain ⟨c, ck, rfl, hsr⟩ := hs.inv_slice; exact ⟨some c, ck, rfl, by have := hsr.cap_le; omega⟩
      obtain ⟨s2, ck, rfl, hroom'⟩ := hres
      have hl0 : new' = [] := by
        have := hnr.1
        have h2 : new.length = 0 := by simpa using rdRow_length hstr hnew
        rw [h2] at this
        exact List.length_eq_zero_iff.1 this.symm
      subst hl0
      have hrun := run_append_room' (w := w) (ty := ty) (base := s2) (sLen := sLen) (sCap := ck) ht0 ht1 hu0 hu hsl hi hlx hroom' hfc (w' := w) (fun a _ => rfl) (fun _ => rfl)
      exact .val hr (by simpa using hrun) hs
    · rename_i hn0
      split at h
      case h_2 => cases h
      rename_i a
      split at h
      · cases h
      rename_i hspot
      split at h
      case h_2 => cases h
      rename_i wu hwr
      cases h
      obtain ⟨c, ck, rfl, hsr⟩ := hs.inv_slice
      have hcl := hsr.cap_le
      rcases hsr with ⟨e1, e2, e3, e4, e5⟩ | ⟨ha, hcap⟩
      · omega
      obtain ⟨w', hst, hr'⟩ := wr_spec hr (ha.move' (sLen * i.size)) hnr hwr
      have hst' : (storeCells (c.add (sLen * i.size)) new').run E.P w = .ok () w' := by rw [add_off _ _ ha.2.1]; exact hst
      have hrun := run_append_room' (w := w) (ty := ty) (base := some c) (sLen := sLen) (sCap := ck) ht0 ht1 hu0 hu hsl hi hlx (by omega) hfc (w' := w') (fun a h => by cases h; exact hst') (fun h => by cases h)
      refine ⟨.value (.slice (some c) (sLen + n) ck), _, w', μ, by simp [hrun], .inl rfl, ?_, hr', fun _ _ => rfl⟩
      exact .slice _ _ _ _ _ (.inr ⟨ha, hcap⟩)
  · rename_i hroom
    split at h
    case isFalse => cases h
    rename_i hbig
    obtain ⟨hfit, h63⟩ := hbig
    have hnl : new.length = n * i.size := rdRow_length hstr hnew
    -- a new block
    have grow : ∀ (s2 : Option Addr) (ck : Nat) (old old' : List Value), s' = .slice s2 sLen ck → ck < sLen + n → LRel E.old μ old old' → old.length = sLen * i.size →
        (Builtin.firstCells i.size sLen (.slice s2 sLen ck)).run E.P w.drew = .ok old'.toArray w.drew →
        OpS E w0 μ σ w nid ⟨.slice (some ⟨nid, 0, none⟩) (sLen + n) (sLen + n), [(nid, some (.cells (old ++ new) el false))], blkOf x⟩ (do pure (.value (← Builtin.append_ ts ty #[s', x']))) := by
      intro s2 ck old old' hs' hck hor hol hfo
      subst hs'
      have hrun := run_append_grow' (w := w) (ty := ty) (base := s2) (sLen := sLen) (sCap := ck) ht0 ht1 hu0 hu hsl hi hiz hlx hck (by omega) hfit hfo hfc2
      have hge := grownCap_ge w (sLen + n) ck el
      generalize hg : grownCap w (sLen + n) ck el = gc at hrun hge
      have hll : LRel E.old μ (old ++ new) (old' ++ new2) := hor.append hnr2
      have hlen2 : (old' ++ new2).length = (sLen + n) * i.size := by rw [← hll.1]; simp [hol, hnl, Nat.add_mul]
      have ha := hr.drew.alloc ho hn hm hll (Builtin.zeroCells v.cells (gc - (sLen + n))).toList el false i.size (fun _ => hsize) (fun h => by cases h) (fun x hx => by
          rw [← zeroCells_list _ _ (by omega)] at hx
          exact zeroRow_flat hsc (by omega) _ x hx)
        (old'.toArray ++ new2.toArray ++ Builtin.zeroCells v.cells (gc - (sLen + n))) (by simp)
      refine ⟨.value (.slice (some ⟨w.heap.size, 0, none⟩) (sLen + n) gc), _, _, _, by simp [hrun], .inl rfl, ?_, ha, fun a ha => by simp [ha]⟩
      refine .slice _ _ _ _ _ (.inr ⟨ARel.new ho, .inr ⟨ho, hge, _, if_pos rfl, rfl, ?_, ?_⟩⟩)
      · simp only [Nat.zero_add]; rw [List.length_append, hol, hnl, Nat.add_mul]
      · simp only [Nat.zero_add]
        rw [hlen2]
        simp only [Array.length_toList, size_zeroCells, hzs]
        rw [← Nat.add_mul]
        exact Nat.mul_le_mul_right _ (by omega)
    split at h
    · split at h
      · rename_i h0
        cases h
        obtain ⟨_, _, rfl⟩ := hs.inv_nil
        obtain ⟨rfl, rfl⟩ := h0
        have := grow none 0 [] [] rfl (by omega) ⟨rfl, fun i x y hx _ => by simp at hx⟩ (by simp) (by simp [Builtin.firstCells])
        simpa using this
      · cases h
    · rename_i a
      obtain ⟨c, ck, rfl, hsr⟩ := hs.inv_slice
      split at h
      · rename_i old hold hop
        split at h
        · cases h
        rename_i hall
        cases h
        obtain ⟨old', hor, hfo⟩ := rdRow_spec hr.drew hs hold
        have hol : old.length = sLen * i.size := rdRow_length (fun s hs => by cases hs) hold
        obtain ⟨_, hopt⟩ := opens_spec hr hsize hsr hop
        obtain ⟨hge, cs, p, hb, hp, hps, hend, hbig⟩ := hopt rfl
        have hbn : a.block ≠ nid := by intro e; rw [e] at hp; rw [hm] at hp; cases hp
        by_cases hck : sLen + n ≤ ck
        · -- it grows where it lies
          obtain ⟨ha, hfits⟩ := hbig (by omega)
          have hrd : rd E σ.heap.get a (sLen * i.size) = some old := by
            unfold rdRow at hold
            simp only at hold
            split at hold
            · rename_i h00
              cases hold
              rw [h00, Nat.zero_mul]
              have hnlt : ¬ a.block < E.old := by omega
              have hspot0 : a.spot.isSome = false := by
                rcases hsr with ⟨_, _, _, e4, _⟩ | ⟨ha, _⟩
                · simp [e4]
                · simp [ha.1]
              simp only [rd, hspot0, hnlt, hb, if_false, Bool.false_eq_true]
              rw [if_pos (by omega)]
              simp
            split at hold
            · exact hold
            · cases hold
          obtain ⟨hspot, hof, hold'⟩ := rd_cells hge hb hrd
          have hmul : (sLen + n) * i.size ≤ ck * i.size := Nat.mul_le_mul_right _ hck
          have hone : ∀ v ∈ new', v.oneCell' = true := one_of_all hnr (by simpa using hall)
          obtain ⟨w', hst, hr'⟩ := hr.regrow ho hn hm hb hp a.off (sLen * i.size) hof hnr hone (by rw [← hnr.1, hnl]; rw [Nat.add_mul] at hmul; omega) (by
            have hcc := Nat.mul_le_mul_right i.size (show sCap ≤ sLen + n by omega)
            rw [Nat.add_mul] at hcc; omega)
          have hcb : c = ⟨p.c, p.st + a.off, none⟩ := by
            obtain ⟨_, hcs, hq | ⟨_, q, hq, hq1, hq2⟩⟩ := ha
            · omega
            · rw [hp] at hq; cases hq
              cases c; simp at hcs hq1 hq2; simp [hcs, hq1, hq2]
          have hst' : (storeCells (c.add (sLen * i.size)) new').run E.P w = .ok () w' := by rw [hcb, add_off _ _ rfl]; exact hst
          have hrun := run_append_room' (w := w) (ty := ty) (base := some c) (sLen := sLen) (sCap := ck) ht0 ht1 hu0 hu hsl hi hlx hck hfc (w' := w') (fun a h => by cases h; exact hst') (fun h => by cases h)
          refine ⟨.value (.slice (some c) (sLen + n) ck), _, w', _, by simp [hrun], .inl rfl, ?_, by rw [hold']; exact hr', fun a ha => by simp [ha]⟩
          refine .slice _ _ _ _ _ (.inr ⟨⟨rfl, by rw [hcb], .inr ⟨ho, _, if_pos rfl, by rw [hcb], by rw [hcb]; rfl⟩⟩, .inr ⟨ho, hck, _, if_pos rfl, rfl, ?_, ?_⟩⟩)
          · simp only [Nat.zero_add]; rw [hnl, hps, Nat.add_mul]
          · simp only [Nat.add_zero]; rw [hps]; exact hfits
        · obtain ⟨p', hp', _⟩ := hr.blk _ _ hb
          have hg := grow (some c) ck old old' rfl (by omega) hor hol hfo
          obtain ⟨r, v', w', μ', q1, q2, q3, q4, q5⟩ := hg
          refine ⟨r, v', w', μ', q1, q2, q3, ?_, q5⟩
          have hk := q4.kill a.block
          simp only [upds] at hk ⊢
          rwa [T.set_comm _ _ _ _ _ (Ne.symm hbn)] at hk
      · rename_i old hold hop
        cases h
        obtain ⟨old', hor, hfo⟩ := rdRow_spec hr.drew hs hold
        have hol : old.length = sLen * i.size := rdRow_length (fun s hs => by cases hs) hold
        have hck := (opens_spec hr hsize hsr hop).1 rfl
        have hg := grow (some c) ck old old' rfl (by omega) hor hol hfo
        simpa [OpS] using hg
      · cases h
end
end Go.Ab
