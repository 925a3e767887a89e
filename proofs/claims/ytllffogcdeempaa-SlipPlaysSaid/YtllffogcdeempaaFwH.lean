/- All operations that are no calls: one theorem; what they hang on. -/
import Derived.Test.YtllffogcdeempaaFwG
set_option linter.all false
open Go.RowKit
namespace Go.Ab
section
variable {E : Env} {w0 w : World} {μ : Mu} {σ : St} {nid : Nat}

theorem LRel.map {old : Nat} {ρ ρ' : Operand → Value} (l : List Operand) (h : ∀ x ∈ l, VRel old μ (ρ x) (ρ' x)) : LRel old μ (l.map ρ) (l.map ρ') := by
  refine ⟨by simp, fun i x y hx hy => ?_⟩
  simp only [List.getElem?_map, Option.map_eq_some_iff] at hx hy
  obtain ⟨a, ha, rfl⟩ := hx
  obtain ⟨b, hb, rfl⟩ := hy
  rw [ha] at hb
  cases hb
  exact h a (List.mem_of_getElem? ha)

theorem ORel.map {old : Nat} {ρ ρ' : Operand → Value} (x : Option Operand) (h : ∀ y ∈ x, VRel old μ (ρ y) (ρ' y)) : ORel old μ (x.map ρ) (x.map ρ') := by
  cases x with
  | none => exact .inl ⟨rfl, rfl⟩
  | some y => exact .inr ⟨_, _, rfl, rfl, h y rfl⟩

theorem PRel.map {old : Nat} {ρ ρ' : Operand → Value} (l : List (Nat × Operand)) (h : ∀ x ∈ l.map (·.2), VRel old μ (ρ x) (ρ' x)) : PRel old μ (l.map fun p => (p.1, ρ p.2)) (l.map fun p => (p.1, ρ' p.2)) := by
  refine ⟨by simp, fun i x y hx hy => ?_⟩
  simp only [List.getElem?_map, Option.map_eq_some_iff] at hx hy
  obtain ⟨a, ha, rfl⟩ := hx
  obtain ⟨b, hb, rfl⟩ := hy
  rw [ha] at hb
  cases hb
  exact ⟨rfl, h a.2 (List.mem_map.2 ⟨a, List.mem_of_getElem? ha, rfl⟩)⟩

theorem VRel.arr {old : Nat} {xs ys : Array Value} (h : LRel old μ xs.toList ys.toList) : xs.size = ys.size ∧ ∀ (i : Nat) (x y : Value), xs[i]? = some x → ys[i]? = some y → VRel old μ x y :=
  ⟨by simpa using h.1, fun i x y hx hy => h.2 i x y (by simpa using hx) (by simpa using hy)⟩

set_option maxHeartbeats 1000000 in
theorem op_sound (hr : Rel E w0 μ σ w) (ho : E.old ≤ nid) (hn : nid < σ.next) (hm : μ nid = none) {o : Oper} {ρ ρ' : Operand → Value} (hρ : ∀ x ∈ o.op.operands, VRel E.old μ (ρ x) (ρ' x))
    {e : Eff} (h : evOp E ρ nid σ.heap.get o = some e) : OpS E w0 μ σ w nid e (execOp ρ' o) := by
  obtain ⟨dst, op, ty, pos, after, guard⟩ := o
  cases op
  case move x =>
    replace h : (some ⟨ρ x, [], []⟩ : Option Eff) = some e := h
    cases h; exact ⟨.value (ρ' x), ρ' x, w, μ, rfl, .inl rfl, hρ x (by simp [Op.operands]), by simpa [upds] using hr, fun _ _ => rfl⟩
  case assign x =>
    replace h : (some ⟨ρ x, [], []⟩ : Option Eff) = some e := h
    cases h; exact ⟨.value (ρ' x), ρ' x, w, μ, rfl, .inl rfl, hρ x (by simp [Op.operands]), by simpa [upds] using hr, fun _ _ => rfl⟩
  case pick c a b =>
    replace h : (match ρ c with | .bool true => some ⟨ρ a, [], []⟩ | .bool false => some ⟨ρ b, [], []⟩ | _ => none : Option Eff) = some e := h
    have hc := hρ c (by simp [Op.operands])
    split at h
    · rename_i hcv
      cases h
      rw [hcv] at hc
      have := hc.flat_eq rfl
      exact ⟨.value (ρ' a), ρ' a, w, μ, by simp [execOp, this, asBool], .inl rfl, hρ a (by simp [Op.operands]), by simpa [upds] using hr, fun _ _ => rfl⟩
    · rename_i hcv
      cases h
      rw [hcv] at hc
      have := hc.flat_eq rfl
      exact ⟨.value (ρ' b), ρ' b, w, μ, by simp [execOp, this, asBool], .inl rfl, hρ b (by simp [Op.operands]), by simpa [upds] using hr, fun _ _ => rfl⟩
    · cases h
  case alloc t =>
    replace h : (match zeroCells? E.P t with | some z => some ⟨.pointer (some ⟨nid, 0, none⟩), [(nid, some (.cells z.toList t true))], []⟩ | none => none : Option Eff) = some e := h
    split at h
    · rename_i z hz
      cases h
      exact op_alloc hr ho hn hm hz
    · cases h
  case box t x =>
    replace h : (some ⟨.pointer (some ⟨nid, 0, none⟩), [(nid, some (.cells (ρ x).cells.toList t true))], []⟩ : Option Eff) = some e := h
    cases h; exact op_box hr ho hn hm (hρ x (by simp [Op.operands]))
  case build t parts =>
    replace h : Option.map (fun v => (⟨v, [], []⟩ : Eff)) (evBuild E.P t (parts.toList.map fun p => (p.1, ρ p.2))) = some e := h
    simp only [Option.map_eq_some_iff] at h
    obtain ⟨v, hv, rfl⟩ := h
    have hp := PRel.map (μ := μ) (old := E.old) (ρ := ρ) (ρ' := ρ') parts.toList (fun x hx => hρ x (by simpa [Op.operands] using hx))
    exact op_build (ps' := parts.map fun p => (p.1, ρ' p.2)) hr (by simpa using hp) hv
  case buildSlice t len parts =>
    have hp := PRel.map (μ := μ) (old := E.old) (ρ := ρ) (ρ' := ρ') parts.toList (fun x hx => hρ x (by simpa [Op.operands] using hx))
    replace h : evBuildSlice E.P nid t len (parts.toList.map fun p => (p.1, ρ p.2)) = some e := h
    have := op_buildSlice (ps' := parts.map fun p => (p.1, ρ' p.2)) hr ho hn hm (by simpa using hp) h
    exact this
  case load t a =>
    replace h : evLoad E σ.heap.get t (ρ a) = some e := h
    have hx := hρ a (by simp [Op.operands])
    have := op_load (nid := nid) hr hx h
    exact this
  case store t a x =>
    replace h : evStore E σ.heap.get t (ρ a) (ρ x) = some e := h
    have hx := hρ a (by simp [Op.operands])
    have hy := hρ x (by simp [Op.operands])
    have := op_store (nid := nid) hr hx hy h
    exact this
  case nilCheck x =>
    replace h : (match ρ x with | .pointer (some a) => some ⟨.pointer (some a), [], []⟩ | .func (.func f) xs ys => some ⟨.func (.func f) xs ys, [], []⟩ | _ => none : Option Eff) = some e := h
    have hx := hρ x (by simp [Op.operands])
    split at h
    · rename_i a hxa
      cases h
      rw [hxa] at hx
      obtain ⟨c, hc, ha⟩ := hx.inv_pointer
      exact ⟨.value (.pointer (some c)), _, w, μ, by simp [execOp, hc], .inl rfl, .pointer _ _ ha, by simpa [upds] using hr, fun _ _ => rfl⟩
    · rename_i f xs ys hxa
      cases h
      rw [hxa] at hx
      obtain ⟨f2, c2, hc, h1, h2⟩ := hx.inv_func
      refine ⟨.value (.func (.func f) f2 c2), _, w, μ, by simp [execOp, hc], .inl rfl, ?_, by simpa [upds] using hr, fun _ _ => rfl⟩
      rwa [hc] at hx
    · cases h
  case binOp op t x y t' =>
    replace h : Option.map (fun v => (⟨v, [], []⟩ : Eff)) (evBin E.P op t x y (ρ x) (ρ y)) = some e := h
    simp only [Option.map_eq_some_iff] at h
    obtain ⟨v, hv, rfl⟩ := h
    have hx := hρ x (by simp [Op.operands])
    have hy := hρ y (by simp [Op.operands])
    have := op_bin (nid := nid) hr hx hy hv
    exact this
  case unOp op t x =>
    replace h : (if scalar (ρ x) then Option.map (fun v => (⟨v, [], []⟩ : Eff)) (pureV E.P (Op.unary op (ρ x))) else none) = some e := h
    split at h
    case isFalse => cases h
    rename_i hs
    simp only [Option.map_eq_some_iff] at h
    obtain ⟨v, hv, rfl⟩ := h
    have := (hρ x (by simp [Op.operands])).scalar_eq hs
    obtain ⟨h1, h2⟩ := pureV_spec hv w
    refine OpS.val hr (s := Op.unary op (ρ' x)) ?_ (.flat _ h2)
    rw [this]; exact h1
  case convert src dst x =>
    replace h : evConvert E σ.heap.get nid src dst (ρ x) = some e := h
    have hx := hρ x (by simp [Op.operands])
    have := op_convert hr ho hn hm hx h
    exact this
  case makeFunc fn first captured =>
    replace h : (some ⟨.func fn (first.map ρ) (captured.map ρ), [], []⟩ : Option Eff) = some e := h
    cases h
    have h1 := VRel.arr (xs := first.map ρ) (ys := first.map ρ') (by simpa using LRel.map (μ := μ) (old := E.old) first.toList (fun x hx => hρ x (by simp at hx; simp [Op.operands, hx])))
    have h2 := VRel.arr (xs := captured.map ρ) (ys := captured.map ρ') (by simpa using LRel.map (μ := μ) (old := E.old) captured.toList (fun x hx => hρ x (by simp at hx; simp [Op.operands, hx])))
    exact ⟨.value (.func fn (first.map ρ') (captured.map ρ')), _, w, μ, by simp [execOp, Instr.makeFunc], .inl rfl, .func _ _ _ _ _ h1.1 h1.2 h2.1 h2.2, by simpa [upds] using hr, fun _ _ => rfl⟩
  case makeSlice t l c =>
    replace h : evMakeSlice E nid t (ρ l) (ρ c) = some e := h
    have hx := hρ l (by simp [Op.operands])
    have hy := hρ c (by simp [Op.operands])
    have := op_makeSlice hr ho hn hm hx hy h
    exact this
  case slice t x lo hi mx =>
    replace h : evSlice E σ.heap.get t (ρ x) (lo.map ρ) (hi.map ρ) (mx.map ρ) = some e := h
    have hx := hρ x (by simp [Op.operands])
    have h1 := ORel.map (μ := μ) (old := E.old) (ρ := ρ) (ρ' := ρ') lo (fun y hy => hρ y (by simp at hy; simp [Op.operands, hy]))
    have h2 := ORel.map (μ := μ) (old := E.old) (ρ := ρ) (ρ' := ρ') hi (fun y hy => hρ y (by simp at hy; simp [Op.operands, hy]))
    have h3 := ORel.map (μ := μ) (old := E.old) (ρ := ρ) (ρ' := ρ') mx (fun y hy => hρ y (by simp at hy; simp [Op.operands, hy]))
    have := op_slice (nid := nid) hr hx h1 h2 h3 h
    exact this
  case fieldAddr t x f =>
    replace h : Option.map (fun v => (⟨v, [], []⟩ : Eff)) (evFieldAddr E.P t (ρ x) f) = some e := h
    simp only [Option.map_eq_some_iff] at h
    obtain ⟨v, hv, rfl⟩ := h
    have hx := hρ x (by simp [Op.operands])
    have := op_fieldAddr (nid := nid) hr hx hv
    exact this
  case field t x f =>
    replace h : Option.map (fun v => (⟨v, [], []⟩ : Eff)) (evField E.P t (ρ x) f) = some e := h
    simp only [Option.map_eq_some_iff] at h
    obtain ⟨v, hv, rfl⟩ := h
    have hx := hρ x (by simp [Op.operands])
    have := op_field (nid := nid) hr hx hv
    exact this
  case indexAddr t x i =>
    replace h : Option.map (fun v => (⟨v, [], []⟩ : Eff)) (evIndexAddr E.P t (ρ x) (ρ i)) = some e := h
    simp only [Option.map_eq_some_iff] at h
    obtain ⟨v, hv, rfl⟩ := h
    have hx := hρ x (by simp [Op.operands])
    have hi := hρ i (by simp [Op.operands])
    have := op_indexAddr (nid := nid) hr hx hi hv
    exact this
  case index t x i =>
    replace h : Option.map (fun v => (⟨v, [], []⟩ : Eff)) (evIndex E.P t (ρ x) (ρ i)) = some e := h
    simp only [Option.map_eq_some_iff] at h
    obtain ⟨v, hv, rfl⟩ := h
    have hx := hρ x (by simp [Op.operands])
    have hi := hρ i (by simp [Op.operands])
    have := op_index (nid := nid) hr hx hi hv
    exact this
  case extract x i =>
    replace h : (match ρ x with | .tuple vs => Option.map (fun v => (⟨v, [], []⟩ : Eff)) (vs[i]?) | _ => none : Option Eff) = some e := h
    split at h
    · rename_i vs hxv
      simp only [Option.map_eq_some_iff] at h
      obtain ⟨v, hv, rfl⟩ := h
      have hx := hρ x (by simp [Op.operands])
      rw [hxv] at hx
      obtain ⟨ys, hys, hs, hrel⟩ := hx.inv_tuple
      have hlt : i < ys.size := by have := (Array.getElem?_eq_some_iff.1 hv).1; omega
      refine OpS.val hr (s := Instr.extract (ρ' x) i) (v' := ys[i]) ?_ (hrel i v _ hv (by simp [hlt]))
      simp [Instr.extract, hys, hlt]
    · cases h
  case call c =>
    obtain ⟨callee, args, argTypes⟩ := c
    cases callee with
    | builtin b =>
      have ha := LRel.map (μ := μ) (old := E.old) (ρ := ρ) (ρ' := ρ') args.toList (fun x hx => hρ x (by simp at hx; simp [Op.operands, Call.operands, hx]))
      replace h : evBuiltin E σ.heap.get nid b argTypes ty (args.toList.map ρ) = some e := h
      have := fun cs => op_builtin (args' := args.map ρ') (cs := cs) hr ho hn hm (by simpa using ha) h
      exact this _
    | value f => exact absurd h (by simp [evOp])
    | invoke r m => exact absurd h (by simp [evOp])
  all_goals exact absurd h (by simp [evOp])
end
end Go.Ab
