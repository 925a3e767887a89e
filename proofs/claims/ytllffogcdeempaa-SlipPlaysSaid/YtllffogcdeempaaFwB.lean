/- How the abstract state lies in a world of the model; reading, writing, making blocks. -/
import Derived.Test.YtllffogcdeempaaFwA
import Derived.Laws.CopyRow
import Derived.Laws.Append
import Derived.Laws.AppendOwn
import Derived.Laws.Sem
import Derived.Laws.World
import Derived.Laws.Entries
set_option linter.all false
open Go.RowKit
namespace Go.Ab

/-- Where an abstract block lies: the concrete block, the first cell, how many cells are known, whether these are all, the size of an element, all cells of the concrete block. -/
structure Pl where
  c : Nat
  st : Nat
  n : Nat
  ex : Bool
  sz : Nat
  tot : Nat

abbrev Mu := Nat → Option Pl

def ARel (old : Nat) (μ : Mu) (a c : Addr) : Prop :=
  a.spot = none ∧ c.spot = none ∧ ((a.block < old ∧ c = a) ∨ (old ≤ a.block ∧ ∃ p, μ a.block = some p ∧ c.block = p.c ∧ c.off = p.st + a.off))

def SRel (old : Nat) (μ : Mu) (a c : Addr) (len cap ccap : Nat) : Prop :=
  (len = 0 ∧ cap = 0 ∧ ccap = 0 ∧ a.spot = none ∧ (a.block < old ∨ ∃ p, μ a.block = some p)) ∨
  (ARel old μ a c ∧ (ccap = cap ∨ (old ≤ a.block ∧ cap ≤ ccap ∧ ∃ p, μ a.block = some p ∧ p.ex = false ∧ a.off + cap * p.sz = p.n ∧ p.st + a.off + ccap * p.sz ≤ p.tot)))

inductive VRel (old : Nat) (μ : Mu) : Value → Value → Prop
  | flat (v : Value) (h : flatS v = true) : VRel old μ v v
  | pointer (a c : Addr) (h : ARel old μ a c) : VRel old μ (.pointer (some a)) (.pointer (some c))
  | slice (a c : Addr) (len cap ccap : Nat) (h : SRel old μ a c len cap ccap) : VRel old μ (.slice (some a) len cap) (.slice (some c) len ccap)
  | agg (xs ys : Array Value) (hs : xs.size = ys.size) (h : ∀ (i : Nat) (x y : Value), xs[i]? = some x → ys[i]? = some y → VRel old μ x y) : VRel old μ (.agg xs) (.agg ys)
  | tuple (xs ys : Array Value) (hs : xs.size = ys.size) (h : ∀ (i : Nat) (x y : Value), xs[i]? = some x → ys[i]? = some y → VRel old μ x y) : VRel old μ (.tuple xs) (.tuple ys)
  | func (fn : Fn) (f1 f2 c1 c2 : Array Value) (hs : f1.size = f2.size) (h : ∀ (i : Nat) (x y : Value), f1[i]? = some x → f2[i]? = some y → VRel old μ x y)
      (hs' : c1.size = c2.size) (h' : ∀ (i : Nat) (x y : Value), c1[i]? = some x → c2[i]? = some y → VRel old μ x y) : VRel old μ (.func fn f1 c1) (.func fn f2 c2)

theorem ARel.known {old : Nat} {μ : Mu} {a c : Addr} (h : ARel old μ a c) : a.block < old ∨ ∃ p, μ a.block = some p := by
  obtain ⟨_, _, ⟨q, _⟩ | ⟨_, p, hp, _⟩⟩ := h
  · exact .inl q
  · exact .inr ⟨p, hp⟩
/-- Row by row. -/
def LRel (old : Nat) (μ : Mu) (l l' : List Value) : Prop :=
  l.length = l'.length ∧ ∀ (i : Nat) (x y : Value), l[i]? = some x → l'[i]? = some y → VRel old μ x y

def Le (μ μ' : Mu) : Prop := ∀ a p, μ a = some p → μ' a = some p

theorem Le.refl (μ : Mu) : Le μ μ := fun _ _ h => h
theorem Le.trans {a b c : Mu} (h : Le a b) (k : Le b c) : Le a c := fun x p hx => k x p (h x p hx)

theorem ARel.mono {old : Nat} {μ μ' : Mu} (hl : Le μ μ') {a c : Addr} (h : ARel old μ a c) : ARel old μ' a c := by
  obtain ⟨h1, h2, h3⟩ := h
  refine ⟨h1, h2, h3.imp id ?_⟩
  rintro ⟨ho, p, hp, hc⟩
  exact ⟨ho, p, hl _ _ hp, hc⟩

theorem SRel.mono {old : Nat} {μ μ' : Mu} (hl : Le μ μ') {a c : Addr} {len cap ccap : Nat} (h : SRel old μ a c len cap ccap) : SRel old μ' a c len cap ccap := by
  refine h.imp (fun ⟨q1, q2, q3, q4, q5⟩ => ⟨q1, q2, q3, q4, q5.imp id fun ⟨p, hp⟩ => ⟨p, hl _ _ hp⟩⟩) ?_
  rintro ⟨ha, h⟩
  refine ⟨ha.mono hl, h.imp id ?_⟩
  rintro ⟨ho, hc, p, hp, r⟩
  exact ⟨ho, hc, p, hl _ _ hp, r⟩

theorem VRel.mono {old : Nat} {μ μ' : Mu} (hl : Le μ μ') {v v' : Value} (h : VRel old μ v v') : VRel old μ' v v' := by
  induction h with
  | flat v h => exact .flat v h
  | pointer a c h => exact .pointer a c (h.mono hl)
  | slice a c len cap ccap h => exact .slice a c len cap ccap (h.mono hl)
  | agg xs ys hs _ ih => exact .agg xs ys hs ih
  | tuple xs ys hs _ ih => exact .tuple xs ys hs ih
  | func fn f1 f2 c1 c2 hs _ hs' _ ih ih' => exact .func fn f1 f2 c1 c2 hs ih hs' ih'

theorem LRel.mono {old : Nat} {μ μ' : Mu} (hl : Le μ μ') {v v' : List Value} (h : LRel old μ v v') : LRel old μ' v v' :=
  ⟨h.1, fun i x y hx hy => (h.2 i x y hx hy).mono hl⟩

theorem VRel.undef (old : Nat) (μ : Mu) : VRel old μ undef undef := .tuple #[] #[] rfl (by intro i x y h; simp at h)

theorem VRel.flat_eq {old : Nat} {μ : Mu} {v v' : Value} (h : VRel old μ v v') (hf : flatS v = true) : v' = v := by
  cases h <;> first | rfl | (simp [flatS] at hf)

theorem list_eq_of {l l' : List Value} (hs : l.length = l'.length) (h : ∀ (i : Nat) (x y : Value), l[i]? = some x → l'[i]? = some y → y = x) : l' = l := by
  apply List.ext_getElem?
  intro i
  by_cases hi : i < l.length
  · have hi' : i < l'.length := by omega
    have := h i l[i] l'[i] (by simp [hi]) (by simp [hi'])
    simp [hi, hi', this]
  · rw [List.getElem?_eq_none (by omega), List.getElem?_eq_none (by omega)]

theorem VRel.scalar_eq {old : Nat} {μ : Mu} {v v' : Value} (h : VRel old μ v v') (hf : scalar v = true) : v' = v := by
  cases h with
  | agg xs ys hs h =>
    have he : ys.toList = xs.toList := by
      refine list_eq_of (by simpa using hs) ?_
      intro i x y hx hy
      have hx' : xs[i]? = some x := by simpa using hx
      have hy' : ys[i]? = some y := by simpa using hy
      refine (h i x y hx' hy').flat_eq ?_
      simp only [scalar, List.all_eq_true] at hf
      exact hf x (List.mem_of_getElem? hx)
    have : ys = xs := by
      apply Array.ext'
      exact he
    rw [this]
  | flat v h => rfl
  | pointer a c h => simp [scalar, flatS] at hf
  | slice a c len cap ccap h => simp [scalar, flatS] at hf
  | tuple xs ys hs h => simp [scalar, flatS] at hf
  | func fn f1 f2 c1 c2 hs h hs' h' => simp [scalar, flatS] at hf

theorem VRel.of_flat {old : Nat} {μ : Mu} {v : Value} (hf : flatS v = true) : VRel old μ v v := .flat v hf

theorem VRel.of_scalar {old : Nat} {μ : Mu} {v : Value} (hf : scalar v = true) : VRel old μ v v := by
  cases v with
  | agg cs =>
    refine .agg _ _ rfl ?_
    intro i x y hx hy
    rw [hx] at hy
    cases hy
    simp only [scalar, List.all_eq_true] at hf
    exact .flat _ (hf x (by simpa using Array.mem_of_getElem? hx))
  | _ => exact .flat _ (by simpa [scalar] using hf)

theorem VRel.of_old {old : Nat} {μ : Mu} {v : Value} (hf : oldV old v = true) : VRel old μ v v := by
  cases v with
  | pointer a =>
    cases a with
    | none => exact .flat _ rfl
    | some a =>
      simp [oldV] at hf
      exact .pointer _ _ ⟨hf.2, hf.2, .inl ⟨hf.1, rfl⟩⟩
  | slice a n c =>
    cases a with
    | none => exact .flat _ (by simpa [oldV] using hf)
    | some a =>
      simp [oldV] at hf
      exact .slice _ _ _ _ _ (.inr ⟨⟨hf.2, hf.2, .inl ⟨hf.1, rfl⟩⟩, .inl rfl⟩)
  | _ => exact .flat _ (by simpa [oldV] using hf)

theorem VRel.oneCell {old : Nat} {μ : Mu} {v v' : Value} (h : VRel old μ v v') (hf : oneCell v = true) : v'.oneCell' = true := by
  cases h with
  | flat v h => cases v <;> simp_all [Ab.oneCell, Value.oneCell', flatS]
  | pointer a c h => rfl
  | slice a c len cap ccap h => rfl
  | agg xs ys hs h => simp [Ab.oneCell] at hf
  | tuple xs ys hs h => simp [Ab.oneCell] at hf
  | func fn f1 f2 c1 c2 hs h hs' h' => rfl

/-- No cell of the block is frozen. -/
def NoFz (fz : Nat × Nat) (n : Nat) : Prop := fz.2 ≤ fz.1 ∨ n ≤ fz.1

def BRel (E : Env) (μ : Mu) (p : Pl) (w : World) : Blk → Prop
  | .cells l e x => p.n = l.length ∧ p.ex = x ∧ (x = false → sizeT E.P e = some p.sz) ∧
      ∃ (C : Array Value) (fz : Nat × Nat), w.heap[p.c]? = some (.cells C e fz) ∧ C.size = p.tot ∧ p.st + p.n ≤ C.size ∧ (x = true → p.st + p.n = C.size) ∧ NoFz fz C.size ∧
        (∀ i v, l[i]? = some v → ∃ v', C[p.st + i]? = some v' ∧ VRel E.old μ v v') ∧ (∀ j v, x = false → p.st + p.n ≤ j → C[j]? = some v → flatS v = true) ∧ (E.P.underlying e ≠ some (.int .u8) → fz.2 ≤ fz.1)

structure Rel (E : Env) (w0 : World) (μ : Mu) (σ : St) (w : World) : Prop where
  below : Below w0.heap.size w0 w
  old_le : E.old ≤ w0.heap.size
  old_next : E.old ≤ σ.next
  base : ∀ a v, a.spot = none → a.block < E.old → E.base a = some v → w0.cell? a = some v
  dom : ∀ a p, μ a = some p → a < σ.next ∧ E.old ≤ a
  blk : ∀ a b, σ.heap.get a = some b → ∃ p, μ a = some p ∧ BRel E μ p w b
  new : ∀ a p, μ a = some p → w0.heap.size ≤ p.c ∧ p.c < w.heap.size
  inj : ∀ a a' b b' p p', σ.heap.get a = some b → σ.heap.get a' = some b' → μ a = some p → μ a' = some p' → p.c = p'.c → a = a'

theorem BRel.mono {E : Env} {μ μ' : Mu} (hl : Le μ μ') {p : Pl} {w : World} {b : Blk} (h : BRel E μ p w b) : BRel E μ' p w b := by
  cases b with
  | cells l e x =>
    obtain ⟨h1, h2, h3, C, fz, h4, h5, h6, h7, h8, h9, h10⟩ := h
    refine ⟨h1, h2, h3, C, fz, h4, h5, h6, h7, h8, fun i v hv => ?_, h10⟩
    obtain ⟨v', ha, hb⟩ := h9 i v hv
    exact ⟨v', ha, hb.mono hl⟩

theorem BRel.world {E : Env} {μ : Mu} {p : Pl} {w w' : World} {b : Blk} (h : BRel E μ p w b) (hw : w'.heap[p.c]? = w.heap[p.c]?) : BRel E μ p w' b := by
  cases b with
  | cells l e x =>
    obtain ⟨h1, h2, h3, C, fz, h4, h5⟩ := h
    exact ⟨h1, h2, h3, C, fz, hw.trans h4, h5⟩

theorem add_off (a : Addr) (i : Nat) (h : a.spot = none) : a.add i = ⟨a.block, a.off + i, none⟩ := by
  cases a with
  | mk b o s =>
    simp at h
    subst h
    unfold Addr.add
    split <;> simp_all

theorem rdOld_spec {E : Env} {w0 w : World} {μ : Mu} {σ : St} (hr : Rel E w0 μ σ w) (b : Nat) (hb : b < E.old) : ∀ (n off : Nat) (l : List Value), rdOld E b off n = some l →
    l.length = n ∧ ∀ i v, l[i]? = some v → w.cell? ⟨b, off + i, none⟩ = some v ∧ VRel E.old μ v v := by
  intro n
  induction n with
  | zero => intro off l h; simp [rdOld] at h; subst h; simp
  | succ n ih =>
    intro off l h
    simp only [rdOld] at h
    cases hv : E.base ⟨b, off, none⟩ with
    | none => simp [hv] at h
    | some v =>
      simp only [hv] at h
      split at h
      · rename_i hov
        cases hl : rdOld E b (off + 1) n with
        | none => simp [hl] at h
        | some l' =>
          simp only [hl, Option.some.injEq] at h
          subst h
          obtain ⟨h1, h2⟩ := ih (off + 1) l' hl
          refine ⟨by simp [h1], ?_⟩
          intro i x hx
          cases i with
          | zero =>
            simp at hx
            subst hx
            have hc := hr.base ⟨b, off, none⟩ v rfl hb hv
            refine ⟨?_, .of_old hov⟩
            rw [← hc]
            exact hr.below.cell (p := ⟨b, off, none⟩) (by have := hr.old_le; show b < _; omega)
          | succ i =>
            simp at hx
            have := h2 i x hx
            rw [show off + 1 + i = off + (i + 1) by omega] at this
            exact this
      · cases h

/-- What is read is there. -/
theorem rd_spec {E : Env} {w0 w : World} {μ : Mu} {σ : St} (hr : Rel E w0 μ σ w) {a c : Addr} (ha : ARel E.old μ a c) {n : Nat} {l : List Value} (h : rd E σ.heap.get a n = some l) :
    ∃ l', LRel E.old μ l l' ∧ l'.length = n ∧ ∀ j v, l'[j]? = some v → w.cell? (c.add j) = some v := by
  obtain ⟨hs, hcs, ha⟩ := ha
  unfold rd at h
  rw [hs] at h
  simp only [Option.isSome_none, Bool.false_eq_true, if_false] at h
  rcases ha with ⟨hlt, rfl⟩ | ⟨hge, p, hp, hcb, hco⟩
  · rw [if_pos hlt] at h
    obtain ⟨h1, h2⟩ := rdOld_spec hr _ hlt n _ l h
    refine ⟨l, ⟨rfl, fun i x y hx hy => ?_⟩, h1, fun j v hv => ?_⟩
    · rw [hx] at hy; cases hy; exact (h2 i x hx).2
    · rw [add_off _ _ hcs]; exact (h2 j v hv).1
  · rw [if_neg (by omega)] at h
    cases hb : σ.heap.get a.block with
    | none => simp [hb] at h
    | some b =>
      cases b with
      | cells cs e x =>
        simp only [hb] at h
        split at h
        · rename_i hfit
          cases h
          obtain ⟨p', hp', h1, h2, h3, C, fz, h4, h5, h6, h7, h8, h9, h10⟩ := hr.blk _ _ hb
          rw [hp] at hp'
          cases hp'
          have hl : ((cs.drop a.off).take n).length = n := by simp; omega
          refine ⟨(List.range n).map fun j => (C[p.st + (a.off + j)]?).getD undef, ⟨by simp; omega, ?_⟩, by simp, ?_⟩
          · intro i x y hx hy
            have hi : i < n := by
              have := (List.getElem?_eq_some_iff.1 hx).1
              omega
            have hx' : cs[a.off + i]? = some x := by
              simpa [List.getElem?_take, hi, List.getElem?_drop] using hx
            obtain ⟨v', hv1, hv2⟩ := h9 _ _ hx'
            simp [hi, hv1] at hy
            subst hy
            exact hv2
          · intro j v hv
            have hj : j < n := by
              have := (List.getElem?_eq_some_iff.1 hv).1
              simpa using this
            have hx' : cs[a.off + j]? = some (cs[a.off + j]'(by omega)) := by simp
            obtain ⟨v', hv1, hv2⟩ := h9 _ _ hx'
            simp [hj, hv1] at hv
            subst hv
            rw [add_off _ _ hcs]
            simp only [World.cell?, hcb, h4]
            simp only [Option.isSome_none, Bool.false_eq_true, if_false]
            rw [hco, show p.st + a.off + j = p.st + (a.off + j) by omega]
            exact hv1
        · cases h

theorem run_store_fz (P : Program) (g o : Nat) (t : TypeId) (fz : Nat × Nat) : ∀ (vs : List Value) (i : Nat) (cur : Array Value) (w : World), w.heap[g]? = some (.cells cur t fz) → NoFz fz cur.size → o + i + vs.length ≤ cur.size → (∀ v ∈ vs, v.oneCell' = true) →
    (storeCells ⟨g, o, none⟩ vs i).run P w = .ok () (w.setRow g (cur.toList.take (o + i) ++ vs ++ cur.toList.drop (o + i + vs.length)).toArray)
  | [], i, cur, w, hg, _, _, _ => by
    simp only [storeCells, List.append_nil, List.length_nil, Nat.add_zero, List.take_append_drop, Array.toArray_toList]
    rw [setRow_self w g cur t fz hg]
    rfl
  | v :: rest, i, cur, w, hg, hfz, hl, h1 => by
    have hi : o + i < cur.size := by simp at hl; omega
    have hadd : (⟨g, o, none⟩ : Addr).add i = ⟨g, o + i, none⟩ := add_off _ _ rfl
    have hcell : w.cell? ⟨g, o + i, none⟩ = some cur[o + i] := by simp [World.cell?, hg, hi]
    have hfro : w.frozen? ⟨g, o + i, none⟩ = false := by
      obtain ⟨lo, hi'⟩ := fz
      simp only [World.frozen?, hg, Bool.and_eq_false_iff, decide_eq_false_iff_not]
      unfold NoFz at hfz
      simp only at hfz
      omega
    have hst : (store ((⟨g, o, none⟩ : Addr).add i) v).run P w = .ok () (w.setRow g (cur.setIfInBounds (o + i) v)) := by
      rw [hadd, run_store P w _ v _ (h1 v (by simp)), hcell]
      simp [hfro, setCell_eq_setRow w g (o + i) cur t fz v hg]
    have ih := run_store_fz P g o t fz rest (i + 1) (cur.setIfInBounds (o + i) v) (w.setRow g (cur.setIfInBounds (o + i) v)) (setRow_heap w g cur _ t _ hg) (by simpa using hfz) (by simp at hl ⊢; omega) (fun x hx => h1 x (by simp [hx]))
    simp only [storeCells, Sem.run_bind, hst, Result.andThen_ok, ih, setRow_setRow]
    congr 3
    have e := list_seg_step cur.toList (o + i) v rest (by simp at hl ⊢; omega)
    simpa [Array.toList_setIfInBounds, Nat.add_assoc] using e

/-- What is written is written; nothing else. -/
theorem wr_spec {E : Env} {w0 w : World} {μ : Mu} {σ : St} (hr : Rel E w0 μ σ w) {a c : Addr} (ha : ARel E.old μ a c) {vs vs' : List Value} (hv : LRel E.old μ vs vs') {u : Nat × Option Blk}
    (h : wr E σ.heap.get a vs = some u) :
    ∃ w', (storeCells c vs').run E.P w = .ok () w' ∧ Rel E w0 μ ⟨upds σ.heap [u], σ.next⟩ w' := by
  obtain ⟨hs, hcs, ha⟩ := ha
  unfold wr at h
  split at h
  · cases h
  · rename_i hno
    simp only [Bool.or_eq_true, decide_eq_true_eq, Bool.not_eq_true', not_or, Bool.not_eq_false] at hno
    obtain ⟨⟨_, hnlt⟩, hone⟩ := hno
    rcases ha with ⟨hlt, _⟩ | ⟨hge, p, hp, hcb, hco⟩
    · exact absurd hlt hnlt
    · cases hb : σ.heap.get a.block with
      | none => simp [hb] at h
      | some b =>
        cases b with
        | cells cs e x =>
          simp only [hb] at h
          split at h
          · rename_i hfit
            cases h
            obtain ⟨p', hp', h1, h2, h3, C, fz, h4, h5, h6, h7, h8, h9, h10⟩ := hr.blk _ _ hb
            rw [hp] at hp'
            cases hp'
            have hlen := hv.1
            have hc : c = ⟨p.c, p.st + a.off, none⟩ := by
              cases c; simp at hcs hcb hco; simp [hcs, hcb, hco]
            have hone' : ∀ v ∈ vs', v.oneCell' = true := by
              intro v hm
              obtain ⟨i, hi⟩ := List.getElem?_of_mem hm
              have hil : i < vs.length := by have := (List.getElem?_eq_some_iff.1 hi).1; omega
              refine (hv.2 i vs[i] v (by simp [hil]) hi).oneCell ?_
              exact List.all_eq_true.1 hone _ (by simp)
            have hrun := run_store_fz E.P p.c (p.st + a.off) e fz vs' 0 C w h4 h8 (by omega) hone'
            refine ⟨_, by rw [hc]; exact hrun, ?_⟩
            generalize hC' : (C.toList.take (p.st + a.off + 0) ++ vs' ++ C.toList.drop (p.st + a.off + 0 + vs'.length)).toArray = C'
            have hCs : C'.size = C.size := by
              rw [← hC']; simp; omega
            have hcg : ∀ k, k ≠ p.c → (w.setRow p.c C').heap[k]? = w.heap[k]? := fun k hk => setRow_other w p.c k C' hk
            have hsz : (w.setRow p.c C').heap.size = w.heap.size := by simp [World.setRow]
            have hnew := hr.new _ _ hp
            refine ⟨?_, hr.old_le, hr.old_next, hr.base, hr.dom, ?_, fun a p hp => ?_, ?_⟩
            · refine hr.below.trans ⟨rfl, rfl, rfl, by omega, fun k hk => hcg k (by omega)⟩
            · intro k b hk
              simp only [upds] at hk
              rw [T.get_set] at hk
              split at hk
              · rename_i hka
                subst hka
                cases hk
                refine ⟨p, hp, by simp [wrList]; omega, h2, h3, C', fz, setRow_heap w p.c C C' e fz h4, by omega, by omega, by rw [hCs]; exact h7, by rw [hCs]; exact h8, ?_, ?_⟩
                rotate_left
                · refine ⟨?_, h10.2⟩
                  intro j v hx hj hv
                  refine h10.1 j v hx hj ?_
                  rw [← hv, ← hC']
                  simp only [Nat.add_zero, List.getElem?_toArray, List.getElem?_append, List.length_append, List.length_take, List.getElem?_take, List.getElem?_drop, Array.length_toList, Array.getElem?_toList]
                  have hmin : min (p.st + a.off) C.size = p.st + a.off := by omega
                  have hj1 : ¬ j < p.st + a.off := by omega
                  have hj2 : ¬ j < p.st + a.off + vs'.length := by omega
                  rw [hmin]
                  simp only [hj1, hj2, if_false]
                  congr 1
                  omega
                intro i v hi
                have hil : i < cs.length := by
                  have := (List.getElem?_eq_some_iff.1 hi).1
                  simp [wrList] at this
                  omega
                have hCi : ∀ j, C'[j]? = if j < p.st + a.off then C[j]? else if j < p.st + a.off + vs'.length then vs'[j - (p.st + a.off)]? else C[j]? := by
                  intro j
                  rw [← hC']
                  simp only [Nat.add_zero, List.getElem?_toArray, List.getElem?_append, List.length_append, List.length_take, List.getElem?_take, List.getElem?_drop, Array.length_toList, Array.getElem?_toList]
                  have hmin : min (p.st + a.off) C.size = p.st + a.off := by omega
                  rw [hmin]
                  by_cases hj : j < p.st + a.off
                  · simp [hj]; intro hx; omega
                  · by_cases hj2 : j < p.st + a.off + vs'.length
                    · simp [hj, hj2]
                    · simp only [hj, hj2, if_false]
                      congr 1
                      omega
                have hwi : (wrList cs a.off vs)[i]? = if i < a.off then cs[i]? else if i < a.off + vs.length then vs[i - a.off]? else cs[i]? := by
                  unfold wrList
                  simp only [List.getElem?_append, List.length_take, List.getElem?_take, List.getElem?_drop]
                  have hmin : min a.off cs.length = a.off := by omega
                  rw [hmin]
                  by_cases hj : i < a.off
                  · simp [hj]
                  · by_cases hj2 : i < a.off + vs.length
                    · have : i - a.off < vs.length := by omega
                      simp [hj, hj2, this]
                    · have : ¬ (i - a.off < vs.length) := by omega
                      simp only [hj, hj2, this, if_false]
                      congr 1
                      omega
                rw [hwi] at hi
                rw [hCi]
                by_cases hj : i < a.off
                · rw [if_pos hj] at hi
                  rw [if_pos (by omega)]
                  exact h9 i v hi
                · rw [if_neg hj] at hi
                  rw [if_neg (by omega)]
                  by_cases hj2 : i < a.off + vs.length
                  · rw [if_pos hj2] at hi
                    rw [if_pos (by omega), show p.st + i - (p.st + a.off) = i - a.off by omega]
                    have hlt : i - a.off < vs'.length := by omega
                    exact ⟨vs'[i - a.off], by simp [hlt], hv.2 _ _ _ hi (by simp [hlt])⟩
                  · rw [if_neg hj2] at hi
                    rw [if_neg (by omega)]
                    exact h9 i v hi
              · rename_i hka
                obtain ⟨q, hq, hbq⟩ := hr.blk k b hk
                refine ⟨q, hq, hbq.world (hcg _ ?_)⟩
                intro e
                exact hka (hr.inj k a.block b _ q p hk hb hq hp e)
            · have := hr.new _ _ hp
              omega
            · intro k k' b b' q q' hk hk' hq hq' hcc
              simp only [upds] at hk hk'
              rw [T.get_set] at hk hk'
              have hl : ∀ k b, (if k = a.block then some (Blk.cells (wrList cs a.off vs) e x) else σ.heap.get k) = some b → ∃ b', σ.heap.get k = some b' := by
                intro k b hk
                split at hk
                · rename_i hka; exact ⟨_, hka ▸ hb⟩
                · exact ⟨b, hk⟩
              obtain ⟨b1, hb1⟩ := hl k b hk
              obtain ⟨b2, hb2⟩ := hl k' b' hk'
              exact hr.inj k k' b1 b2 q q' hb1 hb2 hq hq' hcc
          · cases h
end Go.Ab
