/- Each operation of the abstract evaluator is what the model does: slices, append, copy, make, conversions; all of them. -/
import Derived.Test.YtllffogcdeempaaFwC
import Derived.Lib.ConvBytes
import Derived.Laws.BytesString
import Derived.IntWalk
set_option linter.all false
open Go.RowKit
namespace Go.Ab
section
variable {E : Env} {w0 w : World} {μ : Mu} {σ : St} {nid : Nat}

theorem elemT_spec {P : Program} {t e : TypeId} (h : elemT P t = some e) : P.underlying t = some (.slice e) := by
  unfold elemT at h
  split at h
  · rename_i e' hu; cases h; exact hu
  · cases h

theorem ARel.move {old : Nat} {a c : Addr} (h : ARel old μ a c) (k : Nat) : ARel old μ ⟨a.block, a.off + k, none⟩ (c.add k) := by
  obtain ⟨h1, h2, h3⟩ := h
  rw [add_off c k h2]
  refine ⟨rfl, rfl, ?_⟩
  rcases h3 with ⟨hlt, rfl⟩ | ⟨hge, p, hp, hb, ho⟩
  · exact .inl ⟨hlt, rfl⟩
  · exact .inr ⟨hge, p, hp, hb, by simp [ho]; omega⟩

theorem ARel.move' {old : Nat} {a c : Addr} (h : ARel old μ a c) (k : Nat) : ARel old μ ⟨a.block, a.off + k, none⟩ ⟨c.block, c.off + k, none⟩ := by
  have := h.move k
  rwa [add_off c k h.2.1] at this

theorem op_buildSlice (hr : Rel E w0 μ σ w) (ho : E.old ≤ nid) (hn : nid < σ.next) (hm : μ nid = none) {t : TypeId} {len : Nat} {ps : List (Nat × Value)} {ps' : Array (Nat × Value)} (hp : PRel E.old μ ps ps'.toList)
    {e : Eff} (h : evBuildSlice E.P nid t len ps = some e) : OpS E w0 μ σ w nid e (do pure (.value (← Instr.buildSlice t len ps'))) := by
  unfold evBuildSlice at h
  cases het : elemT E.P t with
  | none => simp [het] at h
  | some el =>
    simp only [het] at h
    cases hz : sizeT E.P el with
    | none => simp [hz] at h
    | some size =>
      cases hzc : zeroCells? E.P el with
      | none => simp [hz, hzc] at h
      | some z =>
        simp only [hz, hzc] at h
        split at h
        · rename_i hc
          obtain ⟨hle, hzp⟩ := hc
          split at h
          · rename_i cs hf
            cases h
            obtain ⟨v, i, hi, hiz, rfl, hs, hzr⟩ := zero_spec hzc w
            have hsz : i.size = size := by simpa [sizeT, hi] using hz
            subst hsz
            have hrow : (zeroRow v.cells (len * i.size)) = ((Array.range (len * i.size)).map (v.cells[· % v.cells.size]!)).toList := by
              unfold zeroRow
              split
              · rename_i h1
                apply List.ext_getElem?
                intro j
                by_cases hj : j < len * i.size
                · simp [hj, h1, Nat.mod_one, getElem!_def, Array.getD]
                · simp [hj]
              · simp
            have hflat : ∀ x ∈ zeroRow v.cells (len * i.size), flatS x = true := by
              intro x hx
              rw [hrow] at hx
              simp at hx
              obtain ⟨j, _, rfl⟩ := hx
              have hlt : j % v.cells.size < v.cells.size := Nat.mod_lt _ hzp
              have : v.cells[j % v.cells.size]! = v.cells[j % v.cells.size] := by simp [getElem!_def, hlt]
              rw [this]
              exact scalar_cells hs _ (by simp)
            have hl : LRel E.old μ (zeroRow v.cells (len * i.size)).toArray.toList (zeroRow v.cells (len * i.size)).toArray.toList := by
              simpa using LRel.refl_of hflat
            obtain ⟨r', hf', hrel⟩ := fill_rel _ _ _ _ _ _ hp hl hf
            have h1 := hr.alloc ho hn hm hrel [] el true 0 (by simp) (by simp) (by simp) r' (by simp)
            have hrun : (Instr.buildSlice t len ps').run E.P w = .ok (.slice (some ⟨w.heap.size, 0, none⟩) len len) (w.alloc (.cells r' el)) := by
              have hf'' : Instr.fill (fun i_1 => some (i_1 * i.size, i.size)) ((Array.range (len * i.size)).map (v.cells[· % v.cells.size]!)) ps'.toList = some r' := by
                rw [← hf', hrow]
              have hng : ¬ (16777216 < len * i.size) := by omega
              by_cases h0 : len * i.size = 0
              · have he : ∀ f : Nat → Value, (Array.range (len * i.size)).map f = #[] := by
                  intro f; rw [h0]; apply Array.ext'; simp
                rw [he] at hf''
                simp only [Instr.buildSlice, Sem.run_bind, run_underlying (elemT_spec het), Result.andThen_ok, run_sizeOf hz, he]
                simp [h0, newRow, he, hf'']
              · exact run_buildSlice w t el len ps' r' i v (elemT_spec het) hi hiz (by simpa using hng) h0 hf''
            refine ⟨.value (.slice (some ⟨w.heap.size, 0, none⟩) len len), _, w.alloc (.cells r' el), _, by simp [hrun], .inl rfl, ?_, h1, fun a ha => by simp [ha]⟩
            exact .slice _ _ _ _ _ (.inr ⟨ARel.new ho, .inl rfl⟩)
          · cases h
        · cases h

theorem op_fieldAddr (hr : Rel E w0 μ σ w) {t : TypeId} {x x' : Value} (hx : VRel E.old μ x x') {f : Nat} {v : Value} (h : evFieldAddr E.P t x f = some v) :
    OpS E w0 μ σ w nid ⟨v, [], []⟩ (do pure (.value (← Instr.fieldAt t x' f))) := by
  unfold evFieldAddr at h
  split at h
  · rename_i fields a hu
    obtain ⟨c, rfl, ha⟩ := hx.inv_pointer
    cases hf : fields[f]? with
    | none => simp [hf] at h
    | some fd =>
      simp only [hf] at h
      cases hz : sizeT E.P fd.type with
      | none => simp [hz] at h
      | some n =>
        simp only [hz] at h
        split at h
        · cases h
        · rename_i hno
          cases h
          have hn0 : n ≠ 0 := fun e => hno (.inl e)
          refine .val hr (v' := .pointer (some (c.add fd.offset))) ?_ (.pointer _ _ (ha.move _))
          simp [Instr.fieldAt, run_underlying hu, hf, Instr.sureAddr, fieldPlace, run_sizeOf hz, hn0]
  · cases h

theorem part_spec {P : Program} {t : TypeId} {n : Nat} {old : Nat} {xs ys : Array Value} (hs : xs.size = ys.size) (hrel : ∀ (i : Nat) (x y : Value), xs[i]? = some x → ys[i]? = some y → VRel old μ x y)
    (hz : sizeT P t = some n) (off : Nat) (w : World) :
    (isAggT P t = some true → ∃ v', (part t ys off).run P w = .ok v' w ∧ VRel old μ (.agg (xs.extract off (off + n))) v') ∧
    (isAggT P t = some false → ∀ v, xs[off]? = some v → ∃ v', (part t ys off).run P w = .ok v' w ∧ VRel old μ v v') := by
  constructor
  · intro hg
    refine ⟨.agg (ys.extract off (off + n)), by simp [part, run_isAgg hg, run_sizeOf hz], .agg _ _ (by simp [hs]) ?_⟩
    intro i x y hx hy
    rw [Array.getElem?_extract] at hx hy
    rw [← hs] at hy
    split at hx
    · rename_i hlt
      rw [if_pos hlt] at hy
      exact hrel _ x y hx hy
    · cases hx
  · intro hg v hv
    have hlt : off < ys.size := by have := (Array.getElem?_eq_some_iff.1 hv).1; omega
    refine ⟨ys[off], by simp [part, run_isAgg hg, hlt], hrel off v _ hv (by simp [hlt])⟩

theorem op_field (hr : Rel E w0 μ σ w) {t : TypeId} {x x' : Value} (hx : VRel E.old μ x x') {f : Nat} {v : Value} (h : evField E.P t x f = some v) :
    OpS E w0 μ σ w nid ⟨v, [], []⟩ (do pure (.value (← Instr.field t x' f))) := by
  unfold evField at h
  split at h
  · rename_i fields cs hu
    obtain ⟨ys, rfl, hs, hrel⟩ := hx.inv_agg
    cases hf : fields[f]? with
    | none => simp [hf] at h
    | some fd =>
      simp only [hf] at h
      have hrun : ∀ v', (part fd.type ys fd.offset).run E.P w = .ok v' w → (Instr.field t (.agg ys) f).run E.P w = .ok v' w := by
        intro v' hv'
        simp [Instr.field, run_underlying hu, hf, asAgg, hv']
      cases hg : isAggT E.P fd.type with
      | none => simp [hg] at h
      | some b =>
        cases b with
        | true =>
          simp only [hg] at h
          cases hz : sizeT E.P fd.type with
          | none => simp [hz] at h
          | some n =>
            simp only [hz, Option.some.injEq] at h
            subst h
            obtain ⟨v', h1, h2⟩ := (part_spec hs hrel hz fd.offset w).1 hg
            exact .val hr (hrun _ h1) h2
        | false =>
          simp only [hg] at h
          have hlt : fd.offset < ys.size := by have := (Array.getElem?_eq_some_iff.1 h).1; omega
          exact .val hr (v' := ys[fd.offset]) (hrun _ (by simp [part, run_isAgg hg, hlt])) (hrel _ v _ h (by simp [hlt]))
  · cases h

theorem op_indexAddr (hr : Rel E w0 μ σ w) {t : TypeId} {x x' i i' : Value} (hx : VRel E.old μ x x') (hi : VRel E.old μ i i') {v : Value} (h : evIndexAddr E.P t x i = some v) :
    OpS E w0 μ σ w nid ⟨v, [], []⟩ (do pure (.value (← Instr.indexAt t x' i'))) := by
  unfold evIndexAddr at h
  split at h
  · rename_i len el a k n hu
    obtain ⟨c, rfl, ha⟩ := hx.inv_pointer
    have := hi.flat_eq rfl
    subst this
    cases hz : sizeT E.P el with
    | none => simp [hz] at h
    | some sz =>
      simp only [hz] at h
      split at h
      · rename_i hc
        cases h
        refine .val hr (v' := .pointer (some (c.add (n.toNat * sz)))) ?_ (.pointer _ _ (ha.move _))
        simp [Instr.indexAt, asIntOf, run_underlying hu, Instr.sureAddr, hc.1, hc.2.1, run_sizeOf hz]
      · cases h
  · rename_i el a len cap k n hu
    obtain ⟨c, ck, rfl, hsr⟩ := hx.inv_slice
    have := hi.flat_eq rfl
    subst this
    cases hz : sizeT E.P el with
    | none => simp [hz] at h
    | some sz =>
      simp only [hz] at h
      split at h
      · rename_i hc
        cases h
        rcases hsr with ⟨h0, _⟩ | ⟨ha, _⟩
        · omega
        · refine .val hr (v' := .pointer (some (c.add (n.toNat * sz)))) ?_ (.pointer _ _ (ha.move _))
          simp [Instr.indexAt, asIntOf, run_underlying hu, hc.1, hc.2.1, run_sizeOf hz]
      · cases h
  · cases h

theorem op_index (hr : Rel E w0 μ σ w) {t : TypeId} {x x' i i' : Value} (hx : VRel E.old μ x x') (hi : VRel E.old μ i i') {v : Value} (h : evIndex E.P t x i = some v) :
    OpS E w0 μ σ w nid ⟨v, [], []⟩ (do pure (.value (← Instr.index t x' i'))) := by
  unfold evIndex at h
  split at h
  · rename_i len el cs k n hu
    obtain ⟨ys, rfl, hs, hrel⟩ := hx.inv_agg
    have := hi.flat_eq rfl
    subst this
    have hrun : ∀ v' sz, sizeT E.P el = some sz → 0 ≤ n ∧ n < len → (part el ys (n.toNat * sz)).run E.P w = .ok v' w → (Instr.index t (.agg ys) (.int k n)).run E.P w = .ok v' w := by
      intro v' sz hz hc hv'
      simp [Instr.index, asIntOf, run_underlying hu, hc.1, hc.2, run_sizeOf hz, hv']
    split at h
    · rename_i sz hz hg
      split at h
      · rename_i hc
        cases h
        obtain ⟨v', h1, h2⟩ := (part_spec hs hrel hz (n.toNat * sz) w).1 hg
        exact .val hr (hrun _ sz hz hc h1) h2
      · cases h
    · rename_i sz hz hg
      split at h
      · rename_i hc
        obtain ⟨v', h1, h2⟩ := (part_spec hs hrel hz (n.toNat * sz) w).2 hg v h
        exact .val hr (hrun _ sz hz hc h1) h2
      · cases h
    · cases h
  · rename_i s k n hu
    have := hx.flat_eq rfl
    subst this
    have := hi.flat_eq rfl
    subst this
    split at h
    · rename_i hc
      cases h
      have hlt : n.toNat < s.size := by omega
      refine .val hr (v' := .int .u8 (s[n.toNat]!).toNat) ?_ (.flat _ rfl)
      have he : s[n.toNat]? = some (s[n.toNat]!) := by simp [getElem?_def, getElem!_def, hlt]
      simp [Instr.index, asIntOf, run_underlying hu, hc.1, he]
    · cases h
  · cases h

theorem bound_spec {P : Program} {old : Nat} {x x' : Value} (hx : VRel old μ x x') {d y n : Nat} (h : bound? (some x) d y = some n) (y' : Nat) (hy : y ≤ y') (code : BoundsCode) (w : World) :
    n ≤ y ∧ (Instr.sliceBound x' y' code).run P w = .ok n w := by
  unfold bound? at h
  split at h
  · rename_i he
    cases he
  · rename_i k i hxx
    cases hxx
    have := hx.flat_eq rfl
    subst this
    split at h
    · rename_i hc
      cases h
      refine ⟨by omega, ?_⟩
      have : i ≤ (y' : Int) := by omega
      simp [Instr.sliceBound, asIntOf, hc.1, this]
    · cases h
  · cases h

theorem bounds_spec {P : Program} {old : Nat} {lo hi : Option Value} {lo' hi' : Option Value} (hl : ∀ x, lo = some x → ∃ x', lo' = some x' ∧ VRel old μ x x') (hl0 : lo = none → lo' = none)
    (hh : ∀ x, hi = some x → ∃ x', hi' = some x' ∧ VRel old μ x x') (hh0 : hi = none → hi' = none) {len cap cap' h l : Nat} (hc : cap ≤ cap')
    (e1 : bound? hi len cap = some h) (e2 : bound? lo 0 h = some l) (isS : Bool) (hlen : len ≤ cap) (w : World) :
    l ≤ h ∧ h ≤ cap ∧ (Instr.sliceBounds isS len cap' lo' hi' none).run P w = .ok (l, h, cap') w := by
  have A : ∀ code, h ≤ cap ∧ (match hi' with | some v => Instr.sliceBound v cap' code | none => pure len).run P w = .ok h w := by
    intro code
    cases hi with
    | none => rw [hh0 rfl]; simp [bound?] at e1; subst e1; exact ⟨hlen, rfl⟩
    | some x =>
      obtain ⟨x', rfl, hx⟩ := hh x rfl
      exact bound_spec hx e1 cap' hc code w
  have B : ∀ code, l ≤ h ∧ (match lo' with | some v => Instr.sliceBound v h code | none => pure 0).run P w = .ok l w := by
    intro code
    cases lo with
    | none => rw [hl0 rfl]; simp [bound?] at e2; subst e2; exact ⟨Nat.zero_le _, rfl⟩
    | some x =>
      obtain ⟨x', rfl, hx⟩ := hl x rfl
      exact bound_spec hx e2 h (Nat.le_refl _) code w
  refine ⟨(B .sliceB).1, (A .sliceB).1, ?_⟩
  unfold Instr.sliceBounds
  cases hi' with
  | none =>
    have a := (A .sliceB).2
    cases lo' with
    | none =>
      have b := (B .sliceB).2
      simp at a b
      simp [a, b]
    | some y =>
      have b := (B .sliceB).2
      simp at a b
      simp [a, b]
  | some y0 =>
    have a := (A (if isS then .sliceAcap else .sliceAlen)).2
    cases lo' with
    | none =>
      have b := (B .sliceB).2
      simp at a b
      simp [a, b]
    | some y =>
      have b := (B .sliceB).2
      simp at a b
      simp [a, b]

theorem SRel.cap_le {old : Nat} {a c : Addr} {len cap ccap : Nat} (h : SRel old μ a c len cap ccap) : cap ≤ ccap := by
  rcases h with ⟨_, h1, h2, _⟩ | ⟨_, h | ⟨_, h, _⟩⟩ <;> omega

/-- A slice of a slice. -/
theorem SRel.sub {old : Nat} {a c : Addr} {len cap ccap : Nat} (h : SRel old μ a c len cap ccap) {l hh n : Nat} (h1 : l ≤ hh) (h2 : hh ≤ cap)
    (hz : ∀ p, old ≤ a.block → μ a.block = some p → p.ex = false → p.sz = n) :
    SRel old μ ⟨a.block, a.off + l * n, none⟩ (if ccap = l then c else c.add (l * n)) (hh - l) (cap - l) (ccap - l) := by
  rcases h with ⟨e1, e2, e3, e4, e5⟩ | ⟨ha, h⟩
  · exact .inl ⟨by omega, by omega, by omega, rfl, e5⟩
  · by_cases e : ccap = l
    · rw [if_pos e]
      have : cap ≤ ccap := by rcases h with h | ⟨_, h, _⟩ <;> omega
      refine .inl ⟨by omega, by omega, by omega, rfl, ?_⟩
      obtain ⟨_, _, ⟨q, _⟩ | ⟨_, p, hp, _⟩⟩ := ha
      · exact .inl q
      · exact .inr ⟨p, hp⟩
    · rw [if_neg e]
      refine .inr ⟨ha.move _, ?_⟩
      rcases h with h | ⟨ho, hc, p, hp, hx, h3, h4⟩
      · exact .inl (by omega)
      · have hs := hz p ho hp hx
        subst hs
        refine .inr ⟨ho, by omega, p, hp, hx, ?_, ?_⟩
        · simp only
          have : cap * p.sz = l * p.sz + (cap - l) * p.sz := by rw [← Nat.add_mul]; congr 1; omega
          omega
        · simp only
          have : ccap * p.sz = l * p.sz + (ccap - l) * p.sz := by rw [← Nat.add_mul]; congr 1; omega
          omega

theorem szOk_spec (hr : Rel E w0 μ σ w) {a : Addr} {n : Nat} (h : szOk E σ.heap.get a n = true) : ∀ p, E.old ≤ a.block → μ a.block = some p → p.ex = false → p.sz = n := by
  intro p ho hp hx
  unfold szOk at h
  rw [if_neg (by omega)] at h
  split at h
  · rename_i cs e x hb
    obtain ⟨p', hp', h1, h2, h3, _⟩ := hr.blk _ _ hb
    rw [hp] at hp'
    cases hp'
    have hx' : x = false := by rw [← h2]; exact hx
    subst hx'
    simp at h
    have := h3 rfl
    rw [h] at this
    cases this
    rfl
  · cases h
end
end Go.Ab
