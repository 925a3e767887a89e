/- Each operation of the abstract evaluator is what the model does: values, addresses, reading, writing. -/
import Derived.Test.YtllffogcdeempaaFwB
import Derived.Great.BuildSlice
set_option linter.all false
open Go.RowKit
namespace Go.Ab

theorem pureRun_sound {α : Type} (P : Program) (s : Sem α) : ∀ (a : α), pureRun P s = some a → ∀ w, s.run P w = .ok a w := by
  induction s with
  | pure x => intro a h w; simp [pureRun] at h; subst h; rfl
  | program k ih => intro a h w; exact ih P a h w
  | _ => intro a h; simp [pureRun] at h

theorem VRel.inv_pointer {old : Nat} {μ : Mu} {a : Addr} {v' : Value} (h : VRel old μ (.pointer (some a)) v') : ∃ c, v' = .pointer (some c) ∧ ARel old μ a c := by
  cases h with
  | flat v h => simp [flatS] at h
  | pointer a c h => exact ⟨c, rfl, h⟩

theorem VRel.inv_slice {old : Nat} {μ : Mu} {a : Addr} {n k : Nat} {v' : Value} (h : VRel old μ (.slice (some a) n k) v') : ∃ c ck, v' = .slice (some c) n ck ∧ SRel old μ a c n k ck := by
  cases h with
  | flat v h => simp [flatS] at h
  | slice a c len cap ccap h => exact ⟨c, ccap, rfl, h⟩

theorem VRel.inv_nil {old : Nat} {μ : Mu} {n k : Nat} {v' : Value} (h : VRel old μ (.slice none n k) v') : n = 0 ∧ k = 0 ∧ v' = .slice none 0 0 := by
  cases h with
  | flat v h => unfold flatS at h; split at h <;> simp_all

theorem VRel.inv_agg {old : Nat} {μ : Mu} {xs : Array Value} {v' : Value} (h : VRel old μ (.agg xs) v') :
    ∃ ys, v' = .agg ys ∧ xs.size = ys.size ∧ ∀ (i : Nat) (x y : Value), xs[i]? = some x → ys[i]? = some y → VRel old μ x y := by
  cases h with
  | flat v h => simp [flatS] at h
  | agg xs ys hs h => exact ⟨ys, rfl, hs, h⟩

theorem VRel.inv_tuple {old : Nat} {μ : Mu} {xs : Array Value} {v' : Value} (h : VRel old μ (.tuple xs) v') :
    ∃ ys, v' = .tuple ys ∧ xs.size = ys.size ∧ ∀ (i : Nat) (x y : Value), xs[i]? = some x → ys[i]? = some y → VRel old μ x y := by
  cases h with
  | flat v h => simp [flatS] at h
  | tuple xs ys hs h => exact ⟨ys, rfl, hs, h⟩

theorem VRel.inv_func {old : Nat} {μ : Mu} {fn : Fn} {f1 c1 : Array Value} {v' : Value} (h : VRel old μ (.func fn f1 c1) v') :
    ∃ f2 c2, v' = .func fn f2 c2 ∧ LRel old μ f1.toList f2.toList ∧ LRel old μ c1.toList c2.toList := by
  cases h with
  | flat v h => simp [flatS] at h
  | func fn f1 f2 c1 c2 hs h hs' h' => exact ⟨f2, c2, rfl, ⟨by simpa using hs, by simpa using h⟩, ⟨by simpa using hs', by simpa using h'⟩⟩

theorem VRel.cells {old : Nat} {μ : Mu} {v v' : Value} (h : VRel old μ v v') : LRel old μ v.cells.toList v'.cells.toList := by
  have one : ∀ (a b : Value), VRel old μ a b → LRel old μ [a] [b] := by
    intro a b h
    refine ⟨rfl, fun i x y hx hy => ?_⟩
    cases i with
    | zero => simp at hx hy; subst hx; subst hy; exact h
    | succ i => simp at hx
  cases h with
  | agg xs ys hs h => exact ⟨by simpa [Value.cells] using hs, by simpa [Value.cells] using h⟩
  | flat v h => cases v <;> first | (simp [flatS] at h; done) | exact one _ _ (.flat _ h)
  | pointer a c h => exact one _ _ (.pointer a c h)
  | slice a c len cap ccap h => exact one _ _ (.slice a c len cap ccap h)
  | tuple xs ys hs h => exact one _ _ (.tuple xs ys hs h)
  | func fn f1 f2 c1 c2 hs h hs' h' => exact one _ _ (.func fn f1 f2 c1 c2 hs h hs' h')

theorem LRel.agg {old : Nat} {μ : Mu} {l l' : List Value} (h : LRel old μ l l') : VRel old μ (.agg l.toArray) (.agg l'.toArray) :=
  .agg _ _ (by simpa using h.1) (fun i x y hx hy => h.2 i x y (by simpa using hx) (by simpa using hy))

theorem LRel.append {old : Nat} {μ : Mu} {a a' b b' : List Value} (h : LRel old μ a a') (k : LRel old μ b b') : LRel old μ (a ++ b) (a' ++ b') := by
  refine ⟨by simp [h.1, k.1], fun i x y hx hy => ?_⟩
  rw [List.getElem?_append] at hx hy
  rw [← h.1] at hy
  split at hx
  · rename_i hlt; rw [if_pos hlt] at hy; exact h.2 i x y hx hy
  · rename_i hlt; rw [if_neg hlt] at hy; exact k.2 _ x y hx hy

theorem LRel.refl_of {old : Nat} {μ : Mu} {l : List Value} (h : ∀ v ∈ l, flatS v = true) : LRel old μ l l :=
  ⟨rfl, fun i x y hx hy => by rw [hx] at hy; cases hy; exact .flat _ (h x (List.mem_of_getElem? hx))⟩

/-- What an operation must come to in the model. -/
def OpS (E : Env) (w0 : World) (μ : Mu) (σ : St) (w : World) (nid : Nat) (e : Eff) (s : Sem Next) : Prop :=
  ∃ r v' w' μ', s.run E.P w = .ok r w' ∧ (r = .value v' ∨ (r = .skip ∧ v' = undef)) ∧ VRel E.old μ' e.val v' ∧
    Rel E w0 μ' ⟨upds σ.heap e.upd, σ.next⟩ w' ∧ ∀ a, a ≠ nid → μ' a = μ a

section
variable {E : Env} {w0 w : World} {μ : Mu} {σ : St} {nid : Nat}

theorem OpS.val (hr : Rel E w0 μ σ w) {v v' : Value} {rds : List Nat} {s : Sem Value} (hs : s.run E.P w = .ok v' w) (hv : VRel E.old μ v v') :
    OpS E w0 μ σ w nid ⟨v, [], rds⟩ (do pure (.value (← s))) :=
  ⟨.value v', v', w, μ, by simp [hs], .inl rfl, hv, by simpa [upds] using hr, fun _ _ => rfl⟩

theorem run_isAgg {P : Program} {t : TypeId} {b : Bool} (h : isAggT P t = some b) (w : World) : (isAgg t).run P w = .ok b w := by
  unfold isAggT at h
  cases hu : P.underlying t with
  | none => simp [hu] at h
  | some d =>
    rw [hu] at h
    unfold isAgg
    simp only [Sem.run_bind, run_underlying hu, Result.andThen_ok]
    cases d <;> simp at h <;> subst h <;> rfl

theorem run_sizeOf {P : Program} {t : TypeId} {n : Nat} (h : sizeT P t = some n) (w : World) : (sizeOf t).run P w = .ok n w := by
  unfold sizeT at h
  cases hi : P.info? t with
  | none => simp [hi] at h
  | some i => simp [hi] at h; subst h; simp [sizeOf, typeInfo, hi]

theorem load_spec (hr : Rel E w0 μ σ w) {a c : Addr} (ha : ARel E.old μ a c) {t : TypeId} {e : Eff} (h : evLoad E σ.heap.get t (.pointer (some a)) = some e) :
    ∃ v', (loadVar t c).run E.P w = .ok v' w ∧ VRel E.old μ e.val v' ∧ e.upd = [] := by
  unfold evLoad at h
  simp only at h
  cases hg : isAggT E.P t with
  | none => simp [hg] at h
  | some b =>
    cases b with
    | true =>
      simp only [hg] at h
      cases hz : sizeT E.P t with
      | none => simp [hz] at h
      | some n =>
        simp only [hz] at h
        cases hl : rd E σ.heap.get a n with
        | none => simp [hl] at h
        | some l =>
          simp only [hl, Option.some.injEq] at h
          subst h
          obtain ⟨l', h1, h2, h3⟩ := rd_spec hr ha hl
          refine ⟨.agg l'.toArray, ?_, h1.agg, rfl⟩
          have := run_loadCells_list (P := E.P) w c l' h3
          rw [h2] at this
          simp [loadVar, run_isAgg hg, run_sizeOf hz, this]
    | false =>
      simp only [hg] at h
      cases hl : rd E σ.heap.get a 1 with
      | none => simp [hl] at h
      | some l =>
        obtain ⟨l', h1, h2, h3⟩ := rd_spec hr ha hl
        match l, l', h1, h2, h with
        | [v], [v'], h1, _, h =>
          simp only [hl, Option.some.injEq] at h
          subst h
          refine ⟨v', ?_, h1.2 0 _ _ rfl rfl, rfl⟩
          have hc := h3 0 v' rfl
          rw [add_off _ _ ha.2.1] at hc
          have hcc : (⟨c.block, c.off + 0, none⟩ : Addr) = c := by
            have := ha.2.1
            cases c; simp at this; simp [this]
          rw [hcc] at hc
          simp [loadVar, run_isAgg hg, hc]
        | [], _, _, _, h => simp [hl] at h
        | _ :: _ :: _, _, _, _, h => simp [hl] at h

theorem op_load (hr : Rel E w0 μ σ w) {t : TypeId} {x x' : Value} (hx : VRel E.old μ x x') {e : Eff} (h : evLoad E σ.heap.get t x = some e) :
    OpS E w0 μ σ w nid e (do pure (.value (← Instr.loadAt t x'))) := by
  have h0 := h
  unfold evLoad at h0
  split at h0
  · rename_i a
    obtain ⟨c, rfl, ha⟩ := hx.inv_pointer
    obtain ⟨v', h1, h2, h3⟩ := load_spec hr ha h
    obtain ⟨v, u, r⟩ := e
    simp only at h3
    subst h3
    exact .val hr (by simp [Instr.loadAt, Instr.sureAddr, h1]) h2
  · cases h0

theorem op_store (hr : Rel E w0 μ σ w) {t : TypeId} {x x' v v' : Value} (hx : VRel E.old μ x x') (hv : VRel E.old μ v v') {e : Eff} (h : evStore E σ.heap.get t x v = some e) :
    OpS E w0 μ σ w nid e (do Instr.storeAt t x' v'; pure .skip) := by
  unfold evStore at h
  split at h
  · rename_i a
    obtain ⟨c, rfl, ha⟩ := hx.inv_pointer
    split at h
    · rename_i hsz
      split at h
      · rename_i u hu
        cases h
        have hc := hv.cells
        obtain ⟨w', h1, h2⟩ := wr_spec hr ha hc hu
        have hcs : v'.cells.size = v.cells.size := by have := hc.1; simpa using this.symm
        refine ⟨.skip, undef, w', μ, ?_, .inr ⟨rfl, rfl⟩, .undef _ _, h2, fun _ _ => rfl⟩
        simp [Instr.storeAt, Instr.sureAddr, storeVar, run_sizeOf hsz, hcs, h1]
      · cases h
    · cases h
  · cases h

/-- A new block. -/
theorem Rel.allocW (hr : Rel E w0 μ σ w) (ho : E.old ≤ nid) (hn : nid < σ.next) (hm : μ nid = none) {l l' : List Value} (hl : LRel E.old μ l l') (rest : List Value) (e : TypeId) (x : Bool) (sz : Nat)
    (hsz : x = false → sizeT E.P e = some sz) (hx : x = true → rest = []) (hrest : ∀ v ∈ rest, flatS v = true) (fz : Nat × Nat) (hfx : E.P.underlying e ≠ some (.int .u8) → fz.2 ≤ fz.1) (hfz : NoFz fz (l'.length + rest.length)) (w' : World)
    (hw : w'.heap.size = w.heap.size + 1) (hat : w'.heap[w.heap.size]? = some (.cells (l' ++ rest).toArray e fz)) (hold : ∀ k, k < w.heap.size → w'.heap[k]? = w.heap[k]?) (hos : w'.os = w.os) (htp : w'.tape = w.tape) (hou : w'.output = w.output) :
    Rel E w0 (fun k => if k = nid then some ⟨w.heap.size, 0, l.length, x, sz, l'.length + rest.length⟩ else μ k) ⟨σ.heap.set nid (some (.cells l e x)), σ.next⟩ w' ∧
      Le μ (fun k => if k = nid then some ⟨w.heap.size, 0, l.length, x, sz, l'.length + rest.length⟩ else μ k) := by
  have hle : Le μ (fun k => if k = nid then some ⟨w.heap.size, 0, l.length, x, sz, l'.length + rest.length⟩ else μ k) := by
    intro a p hp
    by_cases ha : a = nid
    · subst ha; rw [hm] at hp; cases hp
    · simp [ha, hp]
  have hwz : w0.heap.size ≤ w.heap.size := hr.below.size
  refine ⟨⟨?_, hr.old_le, hr.old_next, hr.base, ?_, ?_, ?_, ?_⟩, hle⟩
  · exact hr.below.trans ⟨hos, htp, hou, by simp [hw], fun k hk => hold k (by omega)⟩
  · intro a p hp
    by_cases ha : a = nid
    · subst ha; exact ⟨hn, ho⟩
    · simp [ha] at hp; exact hr.dom a p hp
  · intro a b hb
    simp only at hb
    rw [T.get_set] at hb
    split at hb
    · rename_i ha
      subst ha
      cases hb
      refine ⟨_, by simp; rfl, rfl, rfl, hsz, (l' ++ rest).toArray, fz, hat, by simp, by simp [hl.1], ?_, by simpa using hfz, ?_, ?_⟩
      rotate_left 2
      · refine ⟨?_, hfx⟩
        intro j v _ hj hv
        simp only [Nat.zero_add] at hj
        have hj' : l'.length ≤ j := by rw [← hl.1]; exact hj
        simp only [List.getElem?_toArray] at hv
        rw [List.getElem?_append_right hj'] at hv
        exact hrest v (List.mem_of_getElem? hv)
      · intro hx'; simp [hx hx', hl.1]
      · intro i v hi
        have hil : i < l.length := (List.getElem?_eq_some_iff.1 hi).1
        have hil' : i < l'.length := by rw [← hl.1]; exact hil
        refine ⟨l'[i], ?_, (hl.2 i v _ hi (by simp [hil'])).mono hle⟩
        simp [List.getElem?_append, hil']
    · rename_i ha
      obtain ⟨p, hp, hbp⟩ := hr.blk a b hb
      refine ⟨p, by simp [ha, hp], (hbp.world (hold _ ?_)).mono hle⟩
      exact (hr.new a p hp).2
  · intro a p hp
    by_cases ha : a = nid
    · simp [ha] at hp; subst hp; simp [hw]; exact hwz
    · simp [ha] at hp
      have := hr.new a p hp
      simp [hw]
      omega
  · intro a a' b b' p p' hb hb' hp hp' hc
    simp only at hb hb'
    rw [T.get_set] at hb hb'
    by_cases ha : a = nid <;> by_cases ha' : a' = nid
    · omega
    · simp [ha] at hp; simp [ha'] at hp'
      have := (hr.new a' p' hp').2
      subst hp; simp at hc; omega
    · simp [ha] at hp; simp [ha'] at hp'
      have := (hr.new a p hp).2
      subst hp'; simp at hc; omega
    · simp [ha] at hp hb; simp [ha'] at hp' hb'
      exact hr.inj a a' b b' p p' hb hb' hp hp' hc

theorem Rel.alloc (hr : Rel E w0 μ σ w) (ho : E.old ≤ nid) (hn : nid < σ.next) (hm : μ nid = none) {l l' : List Value} (hl : LRel E.old μ l l') (rest : List Value) (e : TypeId) (x : Bool) (sz : Nat)
    (hsz : x = false → sizeT E.P e = some sz) (hx : x = true → rest = []) (hrest : ∀ v ∈ rest, flatS v = true) (C : Array Value) (hC : C.toList = l' ++ rest) :
    Rel E w0 (fun k => if k = nid then some ⟨w.heap.size, 0, l.length, x, sz, l'.length + rest.length⟩ else μ k) ⟨σ.heap.set nid (some (.cells l e x)), σ.next⟩ (w.alloc (.cells C e)) := by
  have hC' : C = (l' ++ rest).toArray := by apply Array.ext'; simp [hC]
  refine (hr.allocW ho hn hm hl rest e x sz hsz hx hrest (0, 0) (fun _ => Nat.le_refl _) (.inl (Nat.le_refl _)) (w.alloc (.cells C e)) (by simp) ?_ ?_ rfl rfl rfl).1
  · subst hC'; show (w.heap.push _)[w.heap.size]? = _; simp
  · intro k hk; exact Below.heap_alloc w _ k hk

theorem ARel.new {old : Nat} {μ : Mu} {nid c n sz tot : Nat} {x : Bool} (ho : old ≤ nid) : ARel old (fun k => if k = nid then some ⟨c, 0, n, x, sz, tot⟩ else μ k) ⟨nid, 0, none⟩ ⟨c, 0, none⟩ :=
  ⟨rfl, rfl, .inr ⟨ho, _, if_pos rfl, rfl, rfl⟩⟩

theorem op_box (hr : Rel E w0 μ σ w) (ho : E.old ≤ nid) (hn : nid < σ.next) (hm : μ nid = none) {t : TypeId} {x x' : Value} (hx : VRel E.old μ x x') :
    OpS E w0 μ σ w nid ⟨.pointer (some ⟨nid, 0, none⟩), [(nid, some (.cells x.cells.toList t true))], []⟩ (do pure (.value (← Instr.box t x'))) := by
  have h1 := hr.alloc ho hn hm hx.cells [] t true 0 (by simp) (by simp) (by simp) x'.cells (by simp)
  refine ⟨.value (.pointer (some ⟨w.heap.size, 0, none⟩)), _, w.alloc (.cells x'.cells t), _, by simp [Instr.box, newVar, newRow], .inl rfl, ?_, h1, fun a ha => by simp [ha]⟩
  exact .pointer _ _ (ARel.new ho)

theorem zero_spec {P : Program} {t : TypeId} {z : Array Value} (h : zeroCells? P t = some z) (w : World) : ∃ v i, P.info? t = some i ∧ i.zero = some v ∧ v.cells = z ∧ scalar v = true ∧ (zeroValue t).run P w = .ok v w := by
  unfold zeroCells? at h
  cases hi : P.info? t with
  | none => simp [hi] at h
  | some i =>
    cases hz : i.zero with
    | none => simp [hi, hz] at h
    | some v =>
      simp only [hi, hz, Option.bind_some] at h
      split at h
      · rename_i hs
        cases h
        exact ⟨v, i, rfl, hz, rfl, hs, by simp [zeroValue, typeInfo, hi, hz]⟩
      · cases h

theorem scalar_cells {v : Value} (h : scalar v = true) : ∀ x ∈ v.cells.toList, flatS x = true := by
  intro x hx
  cases v with
  | agg cs => simp only [Value.cells] at hx; simp only [scalar, List.all_eq_true] at h; exact h x hx
  | _ => simp only [Value.cells, List.mem_singleton] at hx; subst hx; simpa [scalar] using h

theorem op_alloc (hr : Rel E w0 μ σ w) (ho : E.old ≤ nid) (hn : nid < σ.next) (hm : μ nid = none) {t : TypeId} {z : Array Value} (hz : zeroCells? E.P t = some z) :
    OpS E w0 μ σ w nid ⟨.pointer (some ⟨nid, 0, none⟩), [(nid, some (.cells z.toList t true))], []⟩ (do pure (.value (← Instr.alloc t true (.tuple #[])))) := by
  obtain ⟨v, i, _, _, rfl, hs, hzr⟩ := zero_spec hz w
  have hl : LRel E.old μ v.cells.toList v.cells.toList := .refl_of (scalar_cells hs)
  have h1 := hr.alloc ho hn hm hl [] t true 0 (by simp) (by simp) (by simp) v.cells (by simp)
  refine ⟨.value (.pointer (some ⟨w.heap.size, 0, none⟩)), _, w.alloc (.cells v.cells t), _, by simp [Instr.alloc, hzr, newVar, newRow], .inl rfl, ?_, h1, fun a ha => by simp [ha]⟩
  exact .pointer _ _ (ARel.new ho)

/-- Parts of a literal. -/
def PRel (old : Nat) (μ : Mu) (l l' : List (Nat × Value)) : Prop :=
  l.length = l'.length ∧ ∀ (i : Nat) (x y : Nat × Value), l[i]? = some x → l'[i]? = some y → x.1 = y.1 ∧ VRel old μ x.2 y.2

theorem foldl_set_toList (vs : List Value) : ∀ (k off : Nat) (cs : Array Value), off + (k + vs.length) ≤ cs.size →
    ((vs.zipIdx k).foldl (fun cs x => cs.setIfInBounds (off + x.2) x.1) cs).toList = wrList cs.toList (off + k) vs := by
  induction vs with
  | nil => intro k off cs h; simp [wrList]
  | cons v vs ih =>
    intro k off cs h
    simp only [List.zipIdx_cons, List.foldl_cons]
    rw [ih (k + 1) off _ (by simp at h ⊢; omega)]
    simp only [Array.toList_setIfInBounds]
    have := list_seg_step cs.toList (off + k) v vs (by simp at h ⊢; omega)
    simp only [wrList, List.length_cons]
    rw [← Nat.add_assoc] at *
    simpa [Nat.add_assoc] using this

theorem wrList_get (cs vs : List Value) (off i : Nat) (h : off + vs.length ≤ cs.length) :
    (wrList cs off vs)[i]? = if i < off then cs[i]? else if i < off + vs.length then vs[i - off]? else cs[i]? := by
  unfold wrList
  simp only [List.getElem?_append, List.length_take, List.getElem?_take, List.getElem?_drop]
  have hmin : min off cs.length = off := by omega
  rw [hmin]
  by_cases hj : i < off
  · simp [hj]
  · by_cases hj2 : i < off + vs.length
    · have : i - off < vs.length := by omega
      simp [hj, hj2, this]
    · have : ¬ (i - off < vs.length) := by omega
      simp only [hj, hj2, this, if_false]
      congr 1
      omega

theorem wrList_length (cs vs : List Value) (off : Nat) (h : off + vs.length ≤ cs.length) : (wrList cs off vs).length = cs.length := by
  simp [wrList]; omega

theorem LRel.wr {old : Nat} {μ : Mu} {cs cs' vs vs' : List Value} (hc : LRel old μ cs cs') (hv : LRel old μ vs vs') (off : Nat) (h : off + vs.length ≤ cs.length) :
    LRel old μ (wrList cs off vs) (wrList cs' off vs') := by
  have h' : off + vs'.length ≤ cs'.length := by rw [← hc.1, ← hv.1]; exact h
  refine ⟨by rw [wrList_length _ _ _ h, wrList_length _ _ _ h', hc.1], fun i x y hx hy => ?_⟩
  rw [wrList_get _ _ _ _ h] at hx
  rw [wrList_get _ _ _ _ h', ← hv.1] at hy
  by_cases h1 : i < off
  · rw [if_pos h1] at hx hy; exact hc.2 i x y hx hy
  · rw [if_neg h1] at hx hy
    by_cases h2 : i < off + vs.length
    · rw [if_pos h2] at hx hy; exact hv.2 _ x y hx hy
    · rw [if_neg h2] at hx hy; exact hc.2 i x y hx hy

theorem fill_rel {old : Nat} {μ : Mu} (place : Nat → Option (Nat × Nat)) : ∀ (ps ps' : List (Nat × Value)) (cs cs' r : Array Value), PRel old μ ps ps' → LRel old μ cs.toList cs'.toList →
    Instr.fill place cs ps = some r → ∃ r', Instr.fill place cs' ps' = some r' ∧ LRel old μ r.toList r'.toList
  | [], [], cs, cs', r, _, hc, h => by simp [Instr.fill] at h; subst h; exact ⟨cs', rfl, hc⟩
  | [], _ :: _, _, _, _, hp, _, _ => by simp [PRel] at hp
  | _ :: _, [], _, _, _, hp, _, _ => by simp [PRel] at hp
  | (i, v) :: ps, (i', v') :: ps', cs, cs', r, hp, hc, h => by
    obtain ⟨rfl, hv⟩ := hp.2 0 (i, v) (i', v') rfl rfl
    have hp' : PRel old μ ps ps' := ⟨by have := hp.1; simpa using this, fun j x y hx hy => hp.2 (j + 1) x y (by simpa using hx) (by simpa using hy)⟩
    simp only [Instr.fill] at h ⊢
    cases hpl : place i with
    | none => simp [hpl] at h
    | some os =>
      obtain ⟨off, size⟩ := os
      simp only [hpl] at h ⊢
      have hvc := hv.cells
      have hsz : v'.cells.size = v.cells.size := by have := hvc.1; simpa using this.symm
      have hcz : cs'.size = cs.size := by have := hc.1; simpa using this.symm
      rw [hsz, hcz]
      split at h
      · cases h
      · rename_i hno
        rw [if_neg hno]
        have hfit : off + v.cells.toList.length ≤ cs.toList.length := by
          simp at hno
          simp
          omega
        refine fill_rel place ps ps' _ _ r hp' ?_ h
        have e1 := foldl_set_toList v.cells.toList 0 off cs (by simpa using hfit)
        have e2 := foldl_set_toList v'.cells.toList 0 off cs' (by simp [hsz, hcz]; simpa using hfit)
        have f1 : (v.cells.zipIdx.foldl (fun cs (c, j) => cs.setIfInBounds (off + j) c) cs).toList = wrList cs.toList off v.cells.toList := by
          rw [← Array.foldl_toList, Array.toList_zipIdx]
          simpa using e1
        have f2 : (v'.cells.zipIdx.foldl (fun cs (c, j) => cs.setIfInBounds (off + j) c) cs').toList = wrList cs'.toList off v'.cells.toList := by
          rw [← Array.foldl_toList, Array.toList_zipIdx]
          simpa using e2
        rw [f1, f2]
        exact hc.wr hvc off hfit

theorem built_rel {P : Program} {old : Nat} {μ : Mu} {t : TypeId} {ps ps' : List (Nat × Value)} (hp : PRel old μ ps ps') {z : Array Value} (hz : zeroCells? P t = some z) {r : Array Value} (h : P.built t ps = some r) :
    ∃ r', P.built t ps' = some r' ∧ LRel old μ r.toList r'.toList := by
  obtain ⟨v, i, hi, hiz, rfl, hs, _⟩ := zero_spec hz default
  have hl : LRel old μ v.cells.toList v.cells.toList := .refl_of (scalar_cells hs)
  unfold Program.built at h ⊢
  rw [hi] at h ⊢
  cases hu : P.underlying t with
  | none => simp [hu] at h
  | some d =>
    rw [hu] at h
    cases d <;> simp only [hiz] at h ⊢ <;> first | (cases h; done) | skip
    case array n e =>
      cases he : P.info? e with
      | none => simp [he] at h
      | some ie => simp only [he] at h ⊢; exact fill_rel _ _ _ _ _ _ hp hl h
    case struct fields =>
      cases hm : fields.toList.mapM (fun f => (P.info? f.type).map fun i => (f.offset, i.size)) with
      | none => simp [hm] at h
      | some pl => simp only [hm] at h ⊢; exact fill_rel _ _ _ _ _ _ hp hl h

theorem op_build (hr : Rel E w0 μ σ w) {t : TypeId} {ps : List (Nat × Value)} {ps' : Array (Nat × Value)} (hp : PRel E.old μ ps ps'.toList) {v : Value} (h : evBuild E.P t ps = some v) :
    OpS E w0 μ σ w nid ⟨v, [], []⟩ (do pure (.value (← Instr.build t ps'))) := by
  unfold evBuild at h
  cases hz : zeroCells? E.P t with
  | none => simp [hz] at h
  | some z =>
    simp only [hz] at h
    cases hb : E.P.built t ps with
    | none => simp [hb] at h
    | some r =>
      simp only [hb, Option.map_some, Option.some.injEq] at h
      subst h
      obtain ⟨r', h1, h2⟩ := built_rel hp hz hb
      refine .val hr (run_build w t ps' r' h1) ?_
      have := h2.agg
      simpa using this
end
end Go.Ab
