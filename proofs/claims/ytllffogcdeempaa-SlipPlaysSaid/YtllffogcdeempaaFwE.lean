/- Slicing, append, copy, clear, make, conversions. -/
import Derived.Test.YtllffogcdeempaaFwD
set_option linter.all false
open Go.RowKit
namespace Go.Ab

def ORel (old : Nat) (μ : Mu) (x x' : Option Value) : Prop :=
  (x = none ∧ x' = none) ∨ ∃ v v', x = some v ∧ x' = some v' ∧ VRel old μ v v'

section
variable {E : Env} {w0 w : World} {μ : Mu} {σ : St} {nid : Nat}

theorem bounds_spec' {P : Program} {old : Nat} {lo hi lo' hi' : Option Value} (hl : ORel old μ lo lo') (hh : ORel old μ hi hi') {len cap cap' h l : Nat} (hc : cap ≤ cap')
    (e1 : bound? hi len cap = some h) (e2 : bound? lo 0 h = some l) (isS : Bool) (hlen : len ≤ cap) (w : World) :
    l ≤ h ∧ h ≤ cap ∧ (Instr.sliceBounds isS len cap' lo' hi' none).run P w = .ok (l, h, cap') w := by
  refine bounds_spec (μ := μ) (old := old) ?_ ?_ ?_ ?_ hc e1 e2 isS hlen w
  · intro x hx; rcases hl with ⟨rfl, _⟩ | ⟨v, v', rfl, rfl, h⟩
    · cases hx
    · cases hx; exact ⟨v', rfl, h⟩
  · intro hx; rcases hl with ⟨_, rfl⟩ | ⟨v, v', rfl, rfl, h⟩
    · rfl
    · cases hx
  · intro x hx; rcases hh with ⟨rfl, _⟩ | ⟨v, v', rfl, rfl, h⟩
    · cases hx
    · cases hx; exact ⟨v', rfl, h⟩
  · intro hx; rcases hh with ⟨_, rfl⟩ | ⟨v, v', rfl, rfl, h⟩
    · rfl
    · cases hx

theorem op_slice (hr : Rel E w0 μ σ w) {t : TypeId} {x x' : Value} (hx : VRel E.old μ x x') {lo lo' hi hi' mx mx' : Option Value} (hlo : ORel E.old μ lo lo') (hhi : ORel E.old μ hi hi') (hmx : ORel E.old μ mx mx')
    {e : Eff} (h : evSlice E σ.heap.get t x lo hi mx = some e) : OpS E w0 μ σ w nid e (do pure (.value (← Instr.sliceAt t x' lo' hi' mx'))) := by
  unfold evSlice at h
  split at h
  · rename_i s hu
    have := hx.flat_eq rfl
    subst this
    split at h
    · rename_i hh' e1
      split at h
      · rename_i l e2
        cases h
        have hmx' : mx' = none := by rcases hmx with ⟨_, h⟩ | ⟨v, v', h, _⟩; exact h; cases h
        subst hmx'
        obtain ⟨h1, h2, h3⟩ := bounds_spec' (P := E.P) hlo hhi (Nat.le_refl _) e1 e2 false (Nat.le_refl _) w
        refine .val hr (v' := .string (s.extract l hh')) ?_ (.flat _ rfl)
        simp [Instr.sliceAt, Instr.slice, run_underlying hu, h3]
      · cases h
    · cases h
  · rename_i el hu
    have := hx.flat_eq rfl
    subst this
    split at h
    · rename_i a b e1 e2
      split at h
      · rename_i n hz
        cases h
        have hmx' : mx' = none := by rcases hmx with ⟨_, h⟩ | ⟨v, v', h, _⟩; exact h; cases h
        subst hmx'
        have e2' : bound? lo 0 a = some b := by
          have ha : a = 0 := by
            unfold bound? at e1
            split at e1
            · cases e1; rfl
            · split at e1
              · cases e1; omega
              · cases e1
            · cases e1
          rw [ha]; exact e2
        obtain ⟨h1, h2, h3⟩ := bounds_spec' (P := E.P) hlo hhi (Nat.le_refl 0) e1 e2' true (Nat.le_refl _) w
        have hb : b = 0 := by omega
        have ha : a = 0 := by omega
        subst hb; subst ha
        refine .val hr (v' := .slice none 0 0) ?_ (.flat _ rfl)
        simp [Instr.sliceAt, Instr.slice, run_underlying hu, h3, run_sizeOf hz]
      · cases h
    · rename_i m a b e1 e2
      split at h
      · rename_i hv mm n em hz
        cases h
        rcases hmx with ⟨h0, _⟩ | ⟨mv, mv', hmv, rfl, hmr⟩
        · cases h0
        cases hmv
        rcases hhi with ⟨h0, _⟩ | ⟨hv1, hv1', hhv, rfl, hhr⟩
        · cases h0
        cases hhv
        have b1 := bound_spec (P := E.P) hmr em 0 (Nat.le_refl _) .slice3Acap w
        have hmm : mm = 0 := by omega
        subst hmm
        have b2 := bound_spec (P := E.P) hhr e1 0 (Nat.le_refl _) .slice3B w
        have ha : a = 0 := by omega
        subst ha
        have b3 : b ≤ 0 ∧ (match lo' with | some v => Instr.sliceBound v 0 .slice3C | none => pure 0).run E.P w = .ok b w := by
          rcases hlo with ⟨rfl, rfl⟩ | ⟨lv, lv', rfl, rfl, hlr⟩
          · simp [bound?] at e2; subst e2; exact ⟨Nat.zero_le _, rfl⟩
          · exact bound_spec hlr e2 0 (Nat.le_refl _) .slice3C w
        have hb : b = 0 := by omega
        subst hb
        have hrun : (Instr.sliceBounds true 0 0 lo' (some hv1') (some mv')).run E.P w = .ok (0, 0, 0) w := by
          unfold Instr.sliceBounds
          cases lo' with
          | none => have := b3.2; simp at this; simp [b1.2, b2.2]
          | some y => have := b3.2; simp at this; simp [b1.2, b2.2, this]
        refine .val hr (v' := .slice none 0 0) ?_ (.flat _ rfl)
        simp [Instr.sliceAt, Instr.slice, run_underlying hu, hrun, run_sizeOf hz]
      · cases h
    · cases h
  · rename_i el a len cap hu
    obtain ⟨c, ck, rfl, hsr⟩ := hx.inv_slice
    split at h
    · rename_i n hz
      split at h
      · rename_i hsz
        split at h
        · rename_i hh' e1
          split at h
          · rename_i l e2
            cases h
            have hmx' : mx' = none := by rcases hmx with ⟨_, h⟩ | ⟨v, v', h, _⟩; exact h; cases h
            subst hmx'
            obtain ⟨h1, h2, h3⟩ := bounds_spec' (P := E.P) hlo hhi hsr.cap_le e1 e2 true hsz.2 w
            have hs := hsr.sub (n := n) h1 h2 (szOk_spec hr hsz.1)
            refine .val hr (v' := .slice (some (if ck = l then c else c.add (l * n))) (hh' - l) (ck - l)) ?_ (.slice _ _ _ _ _ hs)
            simp [Instr.sliceAt, Instr.slice, run_underlying hu, h3, run_sizeOf hz]
            split <;> rfl
          · cases h
        · cases h
      · cases h
    · rename_i n m hz
      split at h
      · rename_i hsz
        split at h
        · rename_i hv mm em
          split at h
          · rename_i hh' e1
            split at h
            · rename_i l e2
              cases h
              rcases hmx with ⟨h0, _⟩ | ⟨mv, mv', hmv, rfl, hmr⟩
              · cases h0
              cases hmv
              rcases hhi with ⟨h0, _⟩ | ⟨hv1, hv1', hhv, rfl, hhr⟩
              · cases h0
              cases hhv
              have b1 := bound_spec (P := E.P) hmr em ck hsr.cap_le .slice3Acap w
              have b2 := bound_spec (P := E.P) hhr e1 mm (Nat.le_refl _) .slice3B w
              have b3 : l ≤ hh' ∧ (match lo' with | some v => Instr.sliceBound v hh' .slice3C | none => pure 0).run E.P w = .ok l w := by
                rcases hlo with ⟨rfl, rfl⟩ | ⟨lv, lv', rfl, rfl, hlr⟩
                · simp [bound?] at e2; subst e2; exact ⟨Nat.zero_le _, rfl⟩
                · exact bound_spec hlr e2 hh' (Nat.le_refl _) .slice3C w
              have hrun : (Instr.sliceBounds true len ck lo' (some hv1') (some mv')).run E.P w = .ok (l, hh', mm) w := by
                unfold Instr.sliceBounds
                cases lo' with
                | none => have := b3.2; simp at this; simp [b1.2, b2.2, this]
                | some y => have := b3.2; simp at this; simp [b1.2, b2.2, this]
              refine .val hr (v' := .slice (some (if mm = l then c else c.add (l * n))) (hh' - l) (mm - l)) ?_ (.slice _ _ _ _ _ ?_)
              · simp [Instr.sliceAt, Instr.slice, run_underlying hu, hrun, run_sizeOf hz]
                split <;> rfl
              · have q1 := b1.1; have q2 := b2.1; have q3 := b3.1
                rcases hsr with ⟨e1, e2, e3, e4, e5⟩ | ⟨ha, _⟩
                · exact .inl ⟨by omega, by omega, by omega, rfl, e5⟩
                · by_cases e : mm = l
                  · exact .inl ⟨by omega, by omega, by omega, rfl, ha.known⟩
                  · rw [if_neg e]; exact .inr ⟨ha.move _, .inl rfl⟩
            · cases h
          · cases h
        · cases h
      · cases h
    · cases h
  · rename_i n el a hu
    obtain ⟨c, rfl, ha⟩ := hx.inv_pointer
    split at h
    · rename_i z hh' hz e1
      split at h
      · rename_i l e2
        cases h
        have hmx' : mx' = none := by rcases hmx with ⟨_, h⟩ | ⟨v, v', h, _⟩; exact h; cases h
        subst hmx'
        obtain ⟨h1, h2, h3⟩ := bounds_spec' (P := E.P) hlo hhi (Nat.le_refl _) e1 e2 false (Nat.le_refl _) w
        refine .val hr (v' := .slice (some (if n = l then c else c.add (l * z))) (hh' - l) (n - l)) ?_ (.slice _ _ _ _ _ ?_)
        · simp [Instr.sliceAt, run_underlying hu, Instr.sureAddr, h3, run_sizeOf hz]
        · by_cases e : n = l
          · exact .inl ⟨by omega, by omega, by omega, rfl, ha.known⟩
          · rw [if_neg e]; exact .inr ⟨ha.move _, .inl rfl⟩
      · cases h
    · cases h
  · cases h

theorem Rel.drew (hr : Rel E w0 μ σ w) : Rel E w0 μ σ w.drew :=
  ⟨hr.below.drew, hr.old_le, hr.old_next, hr.base, hr.dom, fun a b h => let ⟨p, hp, hb⟩ := hr.blk a b h; ⟨p, hp, hb.world rfl⟩, hr.new, hr.inj⟩

theorem lenV_spec {P : Program} {old : Nat} {x x' : Value} (hx : VRel old μ x x') {n : Nat} (h : lenV x = some n) (w : World) : (Builtin.lenOf x').run P w = .ok n w := by
  unfold lenV at h
  split at h
  · cases h
    obtain ⟨_, _, rfl⟩ := hx.inv_nil
    rfl
  · cases h
    obtain ⟨c, ck, rfl, _⟩ := hx.inv_slice
    rfl
  · cases h
    have := hx.flat_eq rfl
    subst this
    rfl
  · cases h

theorem rdRow_spec (hr : Rel E w0 μ σ w) {x x' : Value} (hx : VRel E.old μ x x') {size n : Nat} {l : List Value} (h : rdRow E σ.heap.get size n x = some l) :
    ∃ l', LRel E.old μ l l' ∧ (Builtin.firstCells size n x').run E.P w = .ok l'.toArray w := by
  unfold rdRow at h
  split at h
  · obtain ⟨_, _, rfl⟩ := hx.inv_nil
    split at h
    · cases h
      exact ⟨[], ⟨rfl, fun i x y hx _ => by simp at hx⟩, by simp [Builtin.firstCells]⟩
    · cases h
  · rename_i a len cap
    obtain ⟨c, ck, rfl, hsr⟩ := hx.inv_slice
    split at h
    · rename_i hn0
      cases h
      subst hn0
      exact ⟨[], ⟨rfl, fun i x y hx _ => by simp at hx⟩, by simp [Builtin.firstCells, loadCells, loadCellsFrom]⟩
    split at h
    · rename_i hle
      rcases hsr with ⟨e1, e2, e3, e4, e5⟩ | ⟨ha, _⟩
      · have hn : n = 0 := by omega
        subst hn
        have hl : l = [] := by
          unfold rd at h
          rw [e4] at h
          simp only [Option.isSome_none, Bool.false_eq_true, if_false, Nat.zero_mul] at h
          split at h
          · simp [rdOld] at h; exact h
          · split at h
            · split at h
              · simpa using h
              · cases h
            · cases h
        subst hl
        exact ⟨[], ⟨rfl, fun i x y hx _ => by simp at hx⟩, by simp [Builtin.firstCells, loadCells, loadCellsFrom]⟩
      · obtain ⟨l', h1, h2, h3⟩ := rd_spec hr ha h
        refine ⟨l', h1, ?_⟩
        have := run_loadCells_list (P := E.P) w c l' h3
        rw [h2] at this
        simp [Builtin.firstCells, this]
    · cases h
  · rename_i s
    have := hx.flat_eq rfl
    subst this
    split at h
    · cases h
      refine ⟨_, .refl_of (l := ((s.extract 0 n).data.map fun b => Value.int .u8 b.toNat).toList) ?_, ?_⟩
      · intro v hv
        rw [Array.toList_map] at hv
        obtain ⟨b, _, rfl⟩ := List.mem_map.1 hv
        rfl
      · show Result.ok _ w = _
        rw [Array.toArray_toList]
    · cases h
  · cases h

theorem rd_length {g : Nat → Option Blk} {a : Addr} {n : Nat} {l : List Value} (h : rd E g a n = some l) : l.length = n := by
  unfold rd at h
  split at h
  · cases h
  · split at h
    · have : ∀ (n off : Nat) (l : List Value), rdOld E a.block off n = some l → l.length = n := by
        intro n
        induction n with
        | zero => intro off l h; simp [rdOld] at h; subst h; rfl
        | succ n ih =>
          intro off l h
          simp only [rdOld] at h
          split at h
          · split at h
            · split at h
              · rename_i l' hl; cases h; simp [ih _ _ hl]
              · cases h
            · cases h
          · cases h
      exact this _ _ _ h
    · split at h
      · split at h
        · cases h; simp; omega
        · cases h
      · cases h

theorem rdRow_length {g : Nat → Option Blk} {x : Value} {size n : Nat} (hs : ∀ s, x = .string s → size = 1) {l : List Value} (h : rdRow E g size n x = some l) : l.length = n * size := by
  unfold rdRow at h
  split at h
  · split at h
    · rename_i h0; cases h; simp [h0]
    · cases h
  · split at h
    · rename_i h0; cases h; simp [h0]
    split at h
    · exact rd_length h
    · cases h
  · rename_i s
    have := hs s rfl
    subst this
    split at h
    · rename_i hle
      cases h
      simp
      omega
    · cases h
  · cases h
end
end Go.Ab
