/- Entries of the table that are shown of the model itself: slices.overlaps, slices.Insert. -/
import Derived.Test.YtllffogcdeempaaFwZG
import Derived.Lib.Overlaps
set_option linter.all false
open Go.RowKit
namespace Go.Ab

theorem ARel.restrict {old : Nat} {μ μf : Mu} {a c1 : Addr} (hk : a.block < old ∨ ∃ p, μ a.block = some p) (h1 : ARel old μf a c1) (hle : Le μ μf) : ARel old μ a c1 := by
  obtain ⟨q1, q2, q3⟩ := h1
  refine ⟨q1, q2, ?_⟩
  rcases q3 with q | ⟨ho, p, hp, r⟩
  · exact .inl q
  · rcases hk with h | ⟨p0, h0⟩
    · omega
    · have := hle _ _ h0
      rw [hp] at this; cases this
      exact .inr ⟨ho, p, h0, r⟩
theorem SRel.known {old : Nat} {μ : Mu} {a c : Addr} {len cap ccap : Nat} (h : SRel old μ a c len cap ccap) : a.block < old ∨ ∃ p, μ a.block = some p := by
  rcases h with ⟨_, _, _, _, h⟩ | ⟨h, _⟩
  · exact h
  · exact h.known
theorem SRel.restrict {old : Nat} {μ μf : Mu} {a c1 : Addr} {len cap ccap : Nat} (hk : a.block < old ∨ ∃ p, μ a.block = some p) (h1 : SRel old μf a c1 len cap ccap) (hle : Le μ μf) : SRel old μ a c1 len cap ccap := by
  rcases h1 with ⟨q1, q2, q3, q4, _⟩ | ⟨ha, h⟩
  · exact .inl ⟨q1, q2, q3, q4, hk⟩
  · refine .inr ⟨ha.restrict hk hle, h.imp id ?_⟩
    rintro ⟨ho, hc, p, hp, r⟩
    rcases hk with h | ⟨p0, h0⟩
    · omega
    · have := hle _ _ h0
      rw [hp] at this; cases this
      exact ⟨ho, hc, p, h0, r⟩
theorem VRel.restrict {old : Nat} {μ μf : Mu} {v v0 : Value} (h0 : VRel old μ v v0) (hle : Le μ μf) : ∀ {v1 : Value}, VRel old μf v v1 → VRel old μ v v1 := by
  induction h0 with
  | flat v h => intro v1 h1; rw [h1.flat_eq h]; exact .flat v h
  | pointer a c h =>
    intro v1 h1
    obtain ⟨c1, rfl, h2⟩ := h1.inv_pointer
    exact .pointer _ _ (ARel.restrict h.known h2 hle)
  | slice a c len cap ccap h =>
    intro v1 h1
    obtain ⟨c1, k1, rfl, h2⟩ := h1.inv_slice
    exact .slice _ _ _ _ _ (SRel.restrict h.known h2 hle)
  | agg xs ys hs hrel ih =>
    intro v1 h1
    cases h1 with
    | flat _ hf => simp [flatS] at hf
    | agg _ zs hs2 h2 =>
      refine .agg xs zs hs2 fun i x z hx hz => ?_
      have hi : i < ys.size := by have := (Array.getElem?_eq_some_iff.1 hx).1; omega
      exact ih i x ys[i] hx (by simp [hi]) (h2 i x z hx hz)
  | tuple xs ys hs hrel ih =>
    intro v1 h1
    cases h1 with
    | flat _ hf => simp [flatS] at hf
    | tuple _ zs hs2 h2 =>
      refine .tuple xs zs hs2 fun i x z hx hz => ?_
      have hi : i < ys.size := by have := (Array.getElem?_eq_some_iff.1 hx).1; omega
      exact ih i x ys[i] hx (by simp [hi]) (h2 i x z hx hz)
  | func fn f1 f2 c1 c2 hs hrel hs' hrel' ih ih' =>
    intro v1 h1
    cases h1 with
    | flat _ hf => simp [flatS] at hf
    | func _ _ g2 _ d2 hs2 h2 hs2' h2' =>
      refine .func fn f1 g2 c1 d2 hs2 (fun i x z hx hz => ?_) hs2' fun i x z hx hz => ?_
      · have hi : i < f2.size := by have := (Array.getElem?_eq_some_iff.1 hx).1; omega
        exact ih i x f2[i] hx (by simp [hi]) (h2 i x z hx hz)
      · have hi : i < c2.size := by have := (Array.getElem?_eq_some_iff.1 hx).1; omega
        exact ih' i x c2[i] hx (by simp [hi]) (h2' i x z hx hz)
theorem BRel.restrict {E : Env} {μ μf : Mu} {p : Pl} {w wf : World} {b : Blk} (h0 : BRel E μ p w b) (hle : Le μ μf) (h1 : BRel E μf p wf b) : BRel E μ p wf b := by
  cases b with
  | cells l e x =>
    obtain ⟨_, _, _, C0, fz0, _, _, _, _, _, g0, _⟩ := h0
    obtain ⟨q1, q2, q3, C, fz, q4, q5, q6, q7, q8, q9, q10⟩ := h1
    refine ⟨q1, q2, q3, C, fz, q4, q5, q6, q7, q8, fun i v hv => ?_, q10⟩
    obtain ⟨v0, _, r0⟩ := g0 i v hv
    obtain ⟨v1, s1, r1⟩ := q9 i v hv
    exact ⟨v1, s1, r0.restrict hle r1⟩
/-- The state told anew: one block struck, one under a new number; what came in between is forgotten. -/
theorem Rel.reab {E : Env} {w0 w wf : World} {μ μf : Mu} {σ σf : St} (hr : Rel E w0 μ σ w) (hf : Rel E w0 μf σf wf) (hle : ∀ k, k < σ.next → μf k = μ k) (A B : Nat) {bB : Blk} (hB : σf.heap.get B = some bB) (hB2 : ∀ k bk, k ≠ A → σ.heap.get k = some bk → B ≠ k)
    (hoth : ∀ k bk, k ≠ A → σ.heap.get k = some bk → σf.heap.get k = some bk) {q pB : Pl} (hpB : μf B = some pB) (hq : q.c = pB.c) {bN : Blk} (hN : BRel E μ q wf bN) :
    Rel E w0 (fun k => if k = σ.next then some q else if k < σ.next then μ k else none) ⟨(σ.heap.set A none).set σ.next (some bN), σ.next + 1⟩ wf := by
  have hL : Le μ μf := fun a p hp => by rw [hle a (hr.dom a p hp).1]; exact hp
  have hL2 : Le μ (fun k => if k = σ.next then some q else if k < σ.next then μ k else none) := fun a p hp => by
    have := (hr.dom a p hp).1
    simp only [show a ≠ σ.next by omega, this, if_false, if_true]; exact hp
  have hget : ∀ k, (((σ.heap.set A none).set σ.next (some bN)).get k) = if k = σ.next then some bN else if k = A then none else σ.heap.get k := fun k => by rw [T.get_set, T.get_set]
  have hlt : ∀ k bk, σ.heap.get k = some bk → k < σ.next := fun k bk h => by
    obtain ⟨p, hp, _⟩ := hr.blk k bk h
    exact (hr.dom k p hp).1
  refine ⟨hf.below, hr.old_le, by have := hr.old_next; simp only; omega, hr.base, ?_, ?_, ?_, ?_⟩
  · intro a p hp
    simp only at hp ⊢
    split at hp
    · rename_i h; subst h; exact ⟨by omega, hr.old_next⟩
    · split at hp
      · have := hr.dom a p hp; exact ⟨by omega, this.2⟩
      · cases hp
  · intro k bk hk
    replace hk : (((σ.heap.set A none).set σ.next (some bN)).get k) = some bk := hk
    rw [hget] at hk
    split at hk
    · rename_i h
      cases hk
      exact ⟨q, by simp [h], hN.mono hL2⟩
    · rename_i h
      split at hk
      · cases hk
      · rename_i hA
        obtain ⟨p, hp, hb⟩ := hr.blk k bk hk
        have hkl := (hr.dom k p hp).1
        obtain ⟨p', hp', hb'⟩ := hf.blk k bk (hoth k bk hA hk)
        rw [hle k hkl, hp] at hp'; cases hp'
        exact ⟨p, by simp [h, hkl, hp], (hb.restrict hL hb').mono hL2⟩
  · intro k p hp
    replace hp : (if k = σ.next then some q else if k < σ.next then μ k else none) = some p := hp
    split at hp
    · cases hp; rw [hq]; exact hf.new B pB hpB
    · split at hp
      · rename_i hkl
        exact hf.new k p (by rw [hle k hkl]; exact hp)
      · cases hp
  · intro k k' bk bk' p p' hk hk' hp hp' hc
    replace hk : (((σ.heap.set A none).set σ.next (some bN)).get k) = some bk := hk
    replace hk' : (((σ.heap.set A none).set σ.next (some bN)).get k') = some bk' := hk'
    replace hp : (if k = σ.next then some q else if k < σ.next then μ k else none) = some p := hp
    replace hp' : (if k' = σ.next then some q else if k' < σ.next then μ k' else none) = some p' := hp'
    rw [hget] at hk hk'
    by_cases h1 : k = σ.next <;> by_cases h2 : k' = σ.next
    · omega
    · simp [h1] at hp; simp [h2] at hk' hp'
      obtain ⟨hkl, hp'⟩ := hp'
      have := hf.inj B k' _ _ pB p' hB (hoth k' bk' hk'.1 hk'.2) hpB (by rw [hle k' hkl]; exact hp') (by rw [← hq, hp]; exact hc)
      exact absurd this (hB2 k' bk' hk'.1 hk'.2)
    · simp [h1] at hk hp; simp [h2] at hp'
      obtain ⟨hkl, hp⟩ := hp
      have := hf.inj k B _ _ p pB (hoth k bk hk.1 hk.2) hB (by rw [hle k hkl]; exact hp) hpB (by rw [hc, ← hp', hq])
      exact absurd this.symm (hB2 k bk hk.1 hk.2)
    · simp [h1] at hk hp; simp [h2] at hk' hp'
      exact hr.inj k k' bk bk' p p' hk.2 hk'.2 hp.2 hp'.2 hc

def isU8 (P : Program) (e : TypeId) : Bool := match P.underlying e with | some (.int .u8) => true | _ => false
theorem isU8_f {P : Program} {e : TypeId} (h : isU8 P e = false) : P.underlying e ≠ some (.int .u8) := by
  intro h2; unfold isU8 at h; rw [h2] at h; cases h
/-- slices.overlaps at two blocks of one's own. -/
def sOv (P : Program) (args : List Value) (σ : St) : Option (Value × St) :=
  match args with
  | [.slice (some a) la _, .slice (some b) lb _] =>
    if a.block = b.block ∨ la = 0 ∨ lb = 0 then none else
    match σ.heap.get a.block, σ.heap.get b.block with
    | some (.cells _ e _), some (.cells cb _ _) => if cb.length = 0 ∨ isU8 P e = true then none else some (.bool false, σ)
    | _, _ => none
  | _ => none
theorem sOv_mono (P : Program) : FnMono (sOv P) := by
  intro args σ v σ' n x hn hlt h
  have hget : ∀ {k : Nat} {b : Blk}, σ.heap.get k = some b → (σ.heap.set n x).get k = some b := fun hk => set_ext hn _ _ hk
  unfold sOv at h ⊢
  split at h
  case h_2 => cases h
  split at h
  · cases h
  rename_i hc
  simp only [if_neg hc]
  split at h
  case h_2 => cases h
  rename_i h1 h2
  simp only [hget h1, hget h2]
  split at h
  · cases h
  rename_i hc
  cases h
  exact ⟨hn, Nat.le_refl _, by rw [if_neg hc]⟩
theorem ov_ok {E : Env} {f : FuncId} {fn : Func} {tS tR el : TypeId} {size : Nat} (hf : E.P.funcs[f]? = some fn) (hname : (fn.name == "runtime.NumGoroutine") = false) (hb : fn.body.isNone = true) (hn : Extern.findNext fn = none) (he : Extern.find fn = some (Extern.SlicesOverlaps.overlaps #[tS, tS] #[tR]))
    (ht : E.P.underlying tS = some (.slice el)) (hz : sizeT E.P el = some size) (hs0 : size ≠ 0) : FnOK E f (sOv E.P) := by
  refine ⟨?_, sOv_mono _⟩
  intro w0 args σ v σ' h
  unfold sOv at h
  split at h
  case h_2 => cases h
  rename_i a la ca b lb cb
  split at h
  · cases h
  rename_i hne
  simp only [not_or] at hne
  obtain ⟨hne, hla, hlb⟩ := hne
  split at h
  case h_2 => cases h
  rename_i l1 e1 x1 l2 e2 x2 h1 h2
  split at h
  · cases h
  rename_i hc
  cases h
  simp only [not_or, Bool.not_eq_true] at hc
  refine .inr ⟨rfl, ⟨fn, hf, by simpa using hb⟩, fun μ w args' hr hl => ?_⟩
  obtain ⟨x, y, hxy, hx, hy⟩ := hl.two
  have hargs : args' = #[x, y] := arr2 hxy
  obtain ⟨c1, k1, rfl, s1⟩ := hx.inv_slice
  obtain ⟨c2, k2, rfl, s2⟩ := hy.inv_slice
  refine ⟨.bool false, ?_, .flat _ rfl⟩
  rw [hargs, run_callFunc_extern hf hname hb hn he]
  have hz' : ∀ w, (sizeOf el).run E.P w = .ok size w := fun w => by
    unfold sizeT at hz
    cases hi : E.P.info? el with
    | none => simp [hi] at hz
    | some i => simp [hi] at hz; simp [sizeOf, typeInfo, hi, hz]
  have key : (Extern.SlicesOverlaps.overlaps #[tS, tS] #[tR] #[.slice (some c1) la k1, .slice (some c2) lb k2]).run E.P w = .ok (.bool false) w := by
    obtain ⟨p1, hp1, _, _, _, C1, fz1, g1, _, _, _, _, _, g7⟩ := hr.blk _ _ h1
    obtain ⟨p2, hp2, q1, _, _, C2, fz2, g2, _, g3, _⟩ := hr.blk _ _ h2
    have hC2 : C2.size ≠ 0 := by have := hc.1; omega
    have a1 := (hr.dom _ _ hp1).2
    have a2 := (hr.dom _ _ hp2).2
    rcases s1 with ⟨z, _⟩ | ⟨⟨_, _, r1⟩, _⟩
    · omega
    rcases s2 with ⟨z, _⟩ | ⟨⟨_, _, r2⟩, _⟩
    · omega
    rcases r1 with ⟨z, _⟩ | ⟨_, p1', hp1', r1, _⟩
    · omega
    rcases r2 with ⟨z, _⟩ | ⟨_, p2', hp2', r2, _⟩
    · omega
    rw [hp1] at hp1'; cases hp1'
    rw [hp2] at hp2'; cases hp2'
    have hcc : c1.block ≠ c2.block := by
      rw [r1, r2]
      intro e
      exact hne (hr.inj _ _ _ _ _ _ h1 h2 hp1 hp2 e)
    have hfz := g7.2 (isU8_f hc.2)
    exact Lib.run_overlaps_apart w tS tR el ht size hz' c1 c2 la k1 lb k2 hcc e1 e2 C1.size C2.size (by simp [World.shape?, r1, g1]) (by simp [World.shape?, r2, g2]) hC2
      (by simp [World.frozen?, r1, g1]; exact fun h => Nat.le_trans hfz h) (by simp [World.frozen?, r1, g1]; exact fun h => Nat.le_trans hfz h)
  rw [key]; rfl
end Go.Ab
