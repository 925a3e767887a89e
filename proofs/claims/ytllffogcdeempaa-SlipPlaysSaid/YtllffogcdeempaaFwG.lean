/- Every operation that is no call of a function. -/
import Derived.Test.YtllffogcdeempaaFwF
set_option linter.all false
open Go.RowKit
namespace Go.Ab
section
variable {E : Env} {w0 w : World} {μ : Mu} {σ : St} {nid : Nat}

theorem pureV_spec {P : Program} {s : Sem Value} {v : Value} (h : pureV P s = some v) (w : World) : s.run P w = .ok v w ∧ flatS v = true := by
  unfold pureV at h
  cases hp : pureRun P s with
  | none => simp [hp] at h
  | some u =>
    simp only [hp] at h
    split at h
    · rename_i hf
      cases h
      exact ⟨pureRun_sound P s _ hp w, hf⟩
    · cases h

theorem op_copy (hr : Rel E w0 μ σ w) {ts : Array TypeId} {ty : TypeId} {d d' x x' : Value} (hd : VRel E.old μ d d') (hx : VRel E.old μ x x')
    {e : Eff} (h : evCopy E σ.heap.get ts d x = some e) : OpS E w0 μ σ w nid e (do pure (.value (← Builtin.copy_ ts ty #[d', x']))) := by
  unfold evCopy at h
  cases ht0 : ts[0]? with
  | none => simp [ht0] at h
  | some t0 =>
  simp only [ht0, Option.bind_some] at h
  cases hel : elemT E.P t0 with
  | none => simp [hel] at h
  | some el =>
  simp only [hel] at h
  split at h
  case h_2 => cases h
  rename_i size base dLen dCap xl hz hlen
  split at h
  case h_2 => cases h
  rename_i l hl
  obtain ⟨l', hlr, hfc⟩ := rdRow_spec hr hx hl
  have hlx := lenV_spec (P := E.P) hx hlen w
  have hu0 := elemT_spec hel
  have hsz := run_sizeOf hz w
  have hd' : ∃ s2 ck, d' = .slice s2 dLen ck := by
    cases base with
    | none => obtain ⟨h1, h2, rfl⟩ := hd.inv_nil; subst h1; exact ⟨none, 0, rfl⟩
    | some a => obtain ⟨c, ck, rfl, _⟩ := hd.inv_slice; exact ⟨some c, ck, rfl⟩
  obtain ⟨s2, ck, rfl⟩ := hd'
  split at h
  · rename_i h0
    cases h
    rw [h0] at hfc
    have hempty : ∃ l2 : List Value, (Builtin.firstCells size 0 x').run E.P w = .ok l2.toArray w ∧ l2 = [] := by
      refine ⟨l', hfc, ?_⟩
      have h2 : l.length = 0 := by
        rw [h0] at hl
        unfold rdRow at hl
        split at hl
        · simp at hl; subst hl; rfl
        · simp at hl; subst hl; rfl
        · simp at hl; subst hl; simp
        · cases hl
      have := hlr.1
      exact List.length_eq_zero_iff.1 (by omega)
    obtain ⟨l2, hf2, rfl⟩ := hempty
    have h0' : Nat.min xl dLen = 0 := h0
    refine .val hr (v' := .int .i64 0) ?_ (.flat _ rfl)
    cases s2 with
    | none => simp [Builtin.copy_, ht0, run_underlying hu0, hlx, h0', hsz, hf2, goInt]
    | some c => simp [Builtin.copy_, ht0, run_underlying hu0, hlx, h0', hsz, hf2, goInt, storeCells]
  · rename_i h0
    split at h
    case h_2 => cases h
    rename_i a
    split at h
    case h_2 => cases h
    rename_i wu hwr
    cases h
    obtain ⟨c, ck', hcc, hsr⟩ := hd.inv_slice
    cases hcc
    rcases hsr with ⟨e1, _⟩ | ⟨ha, _⟩
    · exact absurd (by rw [e1]; exact Nat.min_zero _) h0
    obtain ⟨w', hst, hr'⟩ := wr_spec hr ha hlr hwr
    refine ⟨.value (.int .i64 (Nat.min xl dLen : Nat)), _, w', μ, ?_, .inl rfl, .flat _ rfl, hr', fun _ _ => rfl⟩
    simp [Builtin.copy_, ht0, run_underlying hu0, hlx, hsz, hfc, hst, goInt]

theorem op_clear (hr : Rel E w0 μ σ w) {ts : Array TypeId} {ty : TypeId} {d d' : Value} (hd : VRel E.old μ d d')
    {e : Eff} (h : evClear E σ.heap.get ts d = some e) : OpS E w0 μ σ w nid e (do pure (.value (← Builtin.clear_ ts ty #[d']))) := by
  unfold evClear at h
  cases ht0 : ts[0]? with
  | none => simp [ht0] at h
  | some t0 =>
  simp only [ht0, Option.bind_some] at h
  cases hel : elemT E.P t0 with
  | none => simp [hel] at h
  | some el =>
  have hu0 := elemT_spec hel
  simp only [hel] at h
  split at h
  · rename_i n k _
    cases h
    obtain ⟨_, _, rfl⟩ := hd.inv_nil
    refine .val hr (v' := .tuple #[]) ?_ (VRel.undef _ _)
    simp [Builtin.clear_, ht0, run_underlying hu0]
  · rename_i el' a n cap he
    cases he
    obtain ⟨c, ck, rfl, hsr⟩ := hd.inv_slice
    split at h
    · rename_i h0
      subst h0
      cases h
      refine .val hr (v' := .tuple #[]) ?_ (VRel.undef _ _)
      simp [Builtin.clear_, ht0, run_underlying hu0]
    · rename_i h0
      split at h
      case h_2 => cases h
      rename_i size z hz hzc
      split at h
      case isFalse => cases h
      rename_i hzz
      split at h
      case h_2 => cases h
      rename_i wu hwr
      cases h
      obtain ⟨v, i, hi, hiz, rfl, hsc, hzr⟩ := zero_spec hzc w
      have hpos : 0 < v.cells.size := by omega
      rcases hsr with ⟨e1, _⟩ | ⟨ha, _⟩
      · omega
      have hlr : LRel E.old μ (zeroRow v.cells (n * v.cells.size)) (zeroRow v.cells (n * v.cells.size)) := .refl_of (zeroRow_flat hsc hpos _)
      obtain ⟨w', hst, hr'⟩ := wr_spec hr ha hlr hwr
      rw [zeroCells_list _ _ hpos] at hst
      refine ⟨.value (.tuple #[]), _, w', μ, ?_, .inl rfl, VRel.undef _ _, hr', fun _ _ => rfl⟩
      obtain ⟨n, rfl⟩ : ∃ m, n = m + 1 := ⟨n - 1, by omega⟩
      simp [Builtin.clear_, ht0, run_underlying hu0, hzr, hst]
  · cases h

theorem op_makeSlice (hr : Rel E w0 μ σ w) (ho : E.old ≤ nid) (hn : nid < σ.next) (hm : μ nid = none) {t : TypeId} {l l' c c' : Value} (hl : VRel E.old μ l l') (hc : VRel E.old μ c c')
    {e : Eff} (h : evMakeSlice E nid t l c = some e) : OpS E w0 μ σ w nid e (do pure (.value (← Instr.makeSlice t l' c'))) := by
  unfold evMakeSlice at h
  split at h
  case h_2 => cases h
  rename_i el kl ln kc cn hel
  have := hl.flat_eq rfl
  subst this
  have := hc.flat_eq rfl
  subst this
  split at h
  case h_2 => cases h
  rename_i i z hi hzc
  split at h
  case isFalse => cases h
  rename_i hb
  obtain ⟨b1, b2, b3, b4, b5, b6⟩ := hb
  cases h
  obtain ⟨v, i', hi', hiz, rfl, hsc, hzr⟩ := zero_spec hzc w
  rw [hi] at hi'
  cases hi'
  have hpos : 0 < v.cells.size := by omega
  have hsz : (sizeOf el).run E.P w = .ok i.size w := by simp [sizeOf, typeInfo, hi]
  have hlr : LRel E.old μ (zeroRow v.cells (cn.toNat * i.size)) (zeroRow v.cells (cn.toNat * i.size)) := .refl_of (zeroRow_flat hsc hpos _)
  have hzl : zeroRow v.cells (cn.toNat * i.size) = ((Array.range (cn.toNat * i.size)).map (v.cells[· % v.cells.size]!)).toList := by
    have := zeroCells_list v.cells cn.toNat hpos
    rw [b5] at this
    rw [this]
    unfold Builtin.zeroCells
    rw [b5]
  have ha := hr.alloc ho hn hm hlr [] el true 0 (by simp) (by simp) (by simp) ((Array.range (cn.toNat * i.size)).map (v.cells[· % v.cells.size]!)) (by rw [hzl]; simp)
  have w1 : IntKind.i64.wrap ln = ln := IntWalk.i64_in _ (by omega)
  have w2 : IntKind.i64.wrap cn = cn := IntWalk.i64_in _ (by omega)
  have n1 : ¬ (cn < 0) := by omega
  have n2 : ¬ ((281474976710656 : Int) < i.bytes * cn) := by omega
  have n3 : ¬ (ln < 0) := by omega
  have n4 : ¬ (cn < ln) := by omega
  refine ⟨.value (.slice (some ⟨w.heap.size, 0, none⟩) ln.toNat cn.toNat), _, w.alloc (.cells ((Array.range (cn.toNat * i.size)).map (v.cells[· % v.cells.size]!)) el), _, ?_, .inl rfl, ?_, ha, fun a ha => by simp [ha]⟩
  · by_cases h0 : cn.toNat * i.size = 0
    · have he : ∀ f : Nat → Value, (Array.range (cn.toNat * i.size)).map f = #[] := by
        intro f; rw [h0]; apply Array.ext'; simp
      simp [Instr.makeSlice, run_underlying (elemT_spec hel), asInt, asIntOf, typeInfo, hi, w1, w2, n1, n2, n3, n4, hsz, h0, newRow, he]
      congr 2; apply Array.ext'; simp
    · simp [Instr.makeSlice, run_underlying (elemT_spec hel), asInt, asIntOf, typeInfo, hi, w1, w2, n1, n2, n3, n4, hsz, h0, newRow, hzr]
  · exact .slice _ _ _ _ _ (.inr ⟨ARel.new ho, .inl rfl⟩)

theorem bytes_foldl : ∀ (ns : List Int) (s : ByteArray), ns.foldl (fun r n => r.push (UInt8.ofNat n.toNat)) s = ⟨s.data ++ (ns.map fun n => UInt8.ofNat n.toNat).toArray⟩
  | [], s => by simp
  | n :: ns, s => by
    rw [List.foldl_cons, bytes_foldl ns]
    congr 1
    apply Array.ext'
    simp [ByteArray.push]

theorem op_convert (hr : Rel E w0 μ σ w) (ho : E.old ≤ nid) (hn : nid < σ.next) (hm : μ nid = none) {src dst : TypeId} {x x' : Value} (hx : VRel E.old μ x x')
    {e : Eff} (h : evConvert E σ.heap.get nid src dst x = some e) : OpS E w0 μ σ w nid e (do pure (.value (← convert src dst x'))) := by
  unfold evConvert at h
  split at h
  · rename_i el s hs hd
    have := hx.flat_eq rfl
    subst this
    split at h
    case h_2 => cases h
    rename_i hel
    split at h
    case isFalse => cases h
    rename_i hz
    cases h
    have hrun := Lib.run_convert_string_bytes w src dst el s hs hd hel
    have hge := grownCap_ge w s.size 0 el
    have hl : LRel E.old μ (s.data.map fun b => Value.int .u8 b.toNat).toList (s.data.map fun b => Value.int .u8 b.toNat).toList := by
      refine .refl_of ?_
      intro v hv
      rw [Array.toList_map] at hv
      obtain ⟨b, _, rfl⟩ := List.mem_map.1 hv
      rfl
    have hcells : Lib.bytesCells w el s = ((s.data.map fun (b : UInt8) => Value.int .u8 b.toNat).toList ++ List.replicate (grownCap w s.size 0 el - s.size) (Value.int .u8 0)).toArray := by
      apply Array.ext'; simp [Lib.bytesCells]
    have hlen : (s.data.map fun b => Value.int .u8 b.toNat).toList.length = s.size := by simp
    have ha := hr.allocW ho hn hm hl (List.replicate (grownCap w s.size 0 el - s.size) (.int .u8 0)) el false 1 (fun _ => hz) (fun h => by cases h) (fun x hx => by rw [List.eq_of_mem_replicate hx]; rfl)
      ((Lib.bytesCells w el s).size, (Lib.bytesCells w el s).size + 1) (fun h => absurd (by assumption) h) (.inr (by rw [hcells]; simp)) (Lib.bytesWorld w el s) (Lib.bytesWorld_size w el s)
      (by rw [← hcells]; exact Lib.bytesWorld_at_new w el s) (fun k hk => Lib.bytesWorld_at_old w el s k hk) rfl rfl rfl
    refine ⟨.value (.slice (some ⟨w.heap.size, 0, none⟩) s.size (grownCap w s.size 0 el)), _, Lib.bytesWorld w el s, _, by simp [hrun], .inl rfl, ?_, ha.1, fun a ha => by simp [ha]⟩
    refine .slice _ _ _ _ _ (.inr ⟨ARel.new ho, .inr ⟨ho, hge, _, if_pos rfl, rfl, ?_, ?_⟩⟩)
    · simp only [Nat.zero_add, Nat.mul_one]; rw [hlen]
    · simp only [Nat.zero_add, Nat.mul_one]; rw [hlen]; simp; omega
  · rename_i x el hs hd
    split at h
    · rename_i n k he
      cases h
      obtain ⟨_, _, rfl⟩ := hx.inv_nil
      refine .val hr (v' := .string .empty) ?_ (.flat _ rfl)
      simp [convert, run_underlying hs, run_underlying hd, run_underlying he, Conv.bytesToString]
    · rename_i a n k he
      obtain ⟨c, ck, rfl, hsr⟩ := hx.inv_slice
      split at h
      case h_2 => cases h
      rename_i l hl
      unfold bytesOf? at h
      split at h
      case isFalse => cases h
      rename_i hall
      cases h
      have hl2 : rdRow E σ.heap.get 1 n (.slice (some a) n k) = some l := by
        by_cases hn0 : n = 0
        · subst hn0
          have := rd_length hl
          have : l = [] := List.length_eq_zero_iff.1 this
          simp [rdRow, this]
        · simp [rdRow, hl, hn0]
      obtain ⟨l', hlr, hfc⟩ := rdRow_spec hr hx hl2
      have hll : l' = l := by
        refine list_eq_of hlr.1 ?_
        intro i x y hxi hyi
        refine (hlr.2 i x y hxi hyi).flat_eq ?_
        have := List.all_eq_true.1 hall x (List.mem_of_getElem? hxi)
        unfold isByte at this
        split at this
        · rfl
        · cases this
      subst hll
      have hints : ∃ ns : List Int, l' = ns.map (Value.int .u8) := by
        clear hfc hlr hl2 hl
        induction l' with
        | nil => exact ⟨[], rfl⟩
        | cons v r ih =>
          simp at hall
          obtain ⟨ns, hns⟩ := ih (by simpa using hall.2)
          have hv := hall.1
          unfold isByte at hv
          split at hv
          · rename_i m; exact ⟨m :: ns, by simp [hns]⟩
          · cases hv
      obtain ⟨ns, rfl⟩ := hints
      have hlc : (loadCells c n).run E.P w = .ok (ns.map (Value.int .u8)).toArray w := by
        simpa [Builtin.firstCells] using hfc
      have hb := run_bytesToString (P := E.P) w c n ck ns hlc
      refine .val hr (v' := .string _) (by rw [run_convert_bytes_string w src dst el _ _ _ hs he hd]; exact hb) ?_
      rw [bytes_foldl]
      have : (List.map byteV (List.map (Value.int IntKind.u8) ns)) = ns.map fun n => UInt8.ofNat n.toNat := by
        simp [byteV, Function.comp_def]
      rw [this]
      have e0 : ByteArray.empty.data = #[] := rfl
      rw [e0]
      simp only [Array.empty_append]
      exact .flat _ rfl
    · cases h
  · cases h
  · cases h
  · split at h
    case isFalse => cases h
    rename_i hsc
    have := hx.scalar_eq hsc
    subst this
    cases hp : pureV E.P (convert src dst x') with
    | none => simp [hp] at h
    | some v =>
      simp only [hp, Option.map_some, Option.some.injEq] at h
      subst h
      obtain ⟨h1, h2⟩ := pureV_spec hp w
      exact .val hr h1 (.flat _ h2)
  · cases h

theorem run_equalP {P : Program} {t e : TypeId} (hu : P.underlying t = some (.pointer e)) (a b : Option Addr) (h : a = none ∨ b = none) (w : World) : (Op.equal t (.pointer a) (.pointer b)).run P w = .ok (a.isNone && b.isNone) w := by
  unfold Op.equal
  rw [show Op.maxDepth = Nat.succ 9999 from rfl]
  unfold Op.equalIn
  simp only [Sem.run_bind, run_underlying hu, Result.andThen_ok]
  rcases h with rfl | rfl
  · cases b <;> rfl
  · cases a <;> rfl

theorem run_equalS {P : Program} {t e : TypeId} (hu : P.underlying t = some (.slice e)) (a b : Option Addr) (n k n' k' : Nat) (h : a = none ∨ b = none) (w : World) : (Op.equal t (.slice a n k) (.slice b n' k')).run P w = .ok (a.isNone && b.isNone) w := by
  unfold Op.equal
  rw [show Op.maxDepth = Nat.succ 9999 from rfl]
  unfold Op.equalIn
  simp only [Sem.run_bind, run_underlying hu, Result.andThen_ok]
  rcases h with rfl | rfl
  · cases b <;> rfl
  · cases a <;> rfl

theorem evNilP_spec {P : Program} {eq : Bool} {old : Nat} {t : TypeId} {x x' y y' v : Value} (ht : isPtr P t = true) (hx : VRel old μ x x') (hy : VRel old μ y y') (h : evNilP eq x y = some v) (xo yo : Operand) (w : World) :
    flatS v = true ∧ (do eqGuard (if eq then .eql else .neq) t xo yo x' y'; binOp (if eq then .eql else .neq) t x' y' : Sem Value).run P w = .ok v w := by
  have hd : ∃ e, P.underlying t = some (.pointer e) := by
    unfold isPtr at ht
    cases hu : P.underlying t with
    | none => simp [hu] at ht
    | some d => cases d <;> simp [hu] at ht ⊢
  obtain ⟨e, hu⟩ := hd
  have key : ∀ (a b : Option Addr) (v : Value), (a = none ∧ v = .bool (b.isNone == eq)) ∨ (b = none ∧ v = .bool (a.isNone == eq)) →
      flatS v = true ∧ (do eqGuard (if eq then .eql else .neq) t xo yo (.pointer a) (.pointer b); binOp (if eq then .eql else .neq) t (.pointer a) (.pointer b) : Sem Value).run P w = .ok v w := by
    intro a b v h
    have hab : a = none ∨ b = none := h.imp And.left And.left
    have hrun := run_equalP hu a b hab w
    have hv : v = .bool ((a.isNone && b.isNone) == eq) := by
      rcases h with ⟨rfl, rfl⟩ | ⟨rfl, rfl⟩ <;> simp
    subst hv
    refine ⟨rfl, ?_⟩
    cases eq <;> simp [eqGuard, binOp, hrun]
  unfold evNilP at h
  split at h
  · rename_i b
    cases h
    have := hx.flat_eq rfl
    subst this
    cases b with
    | none => have := hy.flat_eq rfl; subst this; exact key _ _ _ (.inl ⟨rfl, rfl⟩)
    | some b => obtain ⟨c, rfl, _⟩ := hy.inv_pointer; exact key _ _ _ (.inl ⟨rfl, rfl⟩)
  · rename_i a _
    cases h
    have := hy.flat_eq rfl
    subst this
    cases a with
    | none => have := hx.flat_eq rfl; subst this; exact key _ _ _ (.inr ⟨rfl, rfl⟩)
    | some b => obtain ⟨c, rfl, _⟩ := hx.inv_pointer; exact key _ _ _ (.inr ⟨rfl, rfl⟩)
  · cases h

theorem evNilS_spec {P : Program} {eq : Bool} {old : Nat} {t : TypeId} {x x' y y' v : Value} (ht : isSl P t = true) (hx : VRel old μ x x') (hy : VRel old μ y y') (h : evNilS eq x y = some v) (xo yo : Operand) (w : World) :
    flatS v = true ∧ (do eqGuard (if eq then .eql else .neq) t xo yo x' y'; binOp (if eq then .eql else .neq) t x' y' : Sem Value).run P w = .ok v w := by
  have hd : ∃ e, P.underlying t = some (.slice e) := by
    unfold isSl at ht
    cases hu : P.underlying t with
    | none => simp [hu] at ht
    | some d => cases d <;> simp [hu] at ht ⊢
  obtain ⟨e, hu⟩ := hd
  have key : ∀ (a b : Option Addr) (n k n' k' : Nat) (v : Value), (a = none ∧ v = .bool (b.isNone == eq)) ∨ (b = none ∧ v = .bool (a.isNone == eq)) →
      flatS v = true ∧ (do eqGuard (if eq then .eql else .neq) t xo yo (.slice a n k) (.slice b n' k'); binOp (if eq then .eql else .neq) t (.slice a n k) (.slice b n' k') : Sem Value).run P w = .ok v w := by
    intro a b n k n' k' v h
    have hab : a = none ∨ b = none := h.imp And.left And.left
    have hrun := run_equalS hu a b n k n' k' hab w
    have hv : v = .bool ((a.isNone && b.isNone) == eq) := by
      rcases h with ⟨rfl, rfl⟩ | ⟨rfl, rfl⟩ <;> simp
    subst hv
    refine ⟨rfl, ?_⟩
    cases eq <;> simp [eqGuard, binOp, hrun]
  unfold evNilS at h
  split at h
  · rename_i b _ _
    cases h
    obtain ⟨_, _, rfl⟩ := hx.inv_nil
    cases b with
    | none => obtain ⟨_, _, rfl⟩ := hy.inv_nil; exact key _ _ _ _ _ _ _ (.inl ⟨rfl, rfl⟩)
    | some b => obtain ⟨c, ck, rfl, _⟩ := hy.inv_slice; exact key _ _ _ _ _ _ _ (.inl ⟨rfl, rfl⟩)
  · rename_i a _ _ _ _ _
    cases h
    obtain ⟨_, _, rfl⟩ := hy.inv_nil
    cases a with
    | none => obtain ⟨_, _, rfl⟩ := hx.inv_nil; exact key _ _ _ _ _ _ _ (.inr ⟨rfl, rfl⟩)
    | some b => obtain ⟨c, ck, rfl, _⟩ := hx.inv_slice; exact key _ _ _ _ _ _ _ (.inr ⟨rfl, rfl⟩)
  · cases h

theorem op_bin (hr : Rel E w0 μ σ w) {op : BinOp} {t : TypeId} {xo yo : Operand} {x x' y y' : Value} (hx : VRel E.old μ x x') (hy : VRel E.old μ y y') {v : Value} (h : evBin E.P op t xo yo x y = some v) :
    OpS E w0 μ σ w nid ⟨v, [], []⟩ (do pure (.value (← (do eqGuard op t xo yo x' y'; binOp op t x' y' : Sem Value)))) := by
  unfold evBin at h
  split at h
  · rename_i ht
    split at h
    · obtain ⟨h1, h2⟩ := evNilP_spec ht hx hy h xo yo w
      exact .val hr h2 (.flat _ h1)
    · obtain ⟨h1, h2⟩ := evNilP_spec ht hx hy h xo yo w
      exact .val hr h2 (.flat _ h1)
    · cases h
  · split at h
    · rename_i ht
      split at h
      · obtain ⟨h1, h2⟩ := evNilS_spec ht hx hy h xo yo w
        exact .val hr h2 (.flat _ h1)
      · obtain ⟨h1, h2⟩ := evNilS_spec ht hx hy h xo yo w
        exact .val hr h2 (.flat _ h1)
      · cases h
    · split at h
      case isFalse => cases h
      rename_i hs
      simp only [Bool.and_eq_true] at hs
      have := hx.scalar_eq hs.1
      subst this
      have := hy.scalar_eq hs.2
      subst this
      obtain ⟨h1, h2⟩ := pureV_spec h w
      exact .val hr h1 (.flat _ h2)

theorem LRel.of_scalars {old : Nat} {l l' : List Value} (h : LRel old μ l l') (hs : l.all scalar = true) : l' = l :=
  list_eq_of h.1 fun i x y hx hy => (h.2 i x y hx hy).scalar_eq (List.all_eq_true.1 hs x (List.mem_of_getElem? hx))

theorem op_len (hr : Rel E w0 μ σ w) {ts : Array TypeId} {ty : TypeId} {x x' : Value} (hx : VRel E.old μ x x') {v : Value} (h : evLen E.P ts x = some v) :
    OpS E w0 μ σ w nid ⟨v, [], []⟩ (do pure (.value (← Builtin.len_ ts ty #[x']))) := by
  unfold evLen at h
  cases ht0 : ts[0]? with
  | none => simp [ht0] at h
  | some t0 =>
  simp only [ht0, Option.bind_some] at h
  split at h
  · rename_i hu
    split at h
    · rename_i s
      cases h
      have := hx.flat_eq rfl
      subst this
      exact .val hr (by simp [Builtin.len_, ht0, run_underlying hu, goInt]) (.flat _ rfl)
    · cases h
  · rename_i n e hu
    cases h
    exact .val hr (by simp [Builtin.len_, ht0, run_underlying hu, goInt]) (.flat _ rfl)
  · rename_i e hu
    split at h
    · rename_i a n k
      cases h
      cases a with
      | none => obtain ⟨rfl, rfl, rfl⟩ := hx.inv_nil; exact .val hr (by simp [Builtin.len_, ht0, run_underlying hu, goInt]) (.flat _ rfl)
      | some a => obtain ⟨c, ck, rfl, _⟩ := hx.inv_slice; exact .val hr (by simp [Builtin.len_, ht0, run_underlying hu, goInt]) (.flat _ rfl)
    · cases h
  · cases h

theorem arr1 {xs : Array Value} {a : Value} (h : xs.toList = [a]) : xs = #[a] := by apply Array.ext'; simp [h]
theorem arr2 {xs : Array Value} {a b : Value} (h : xs.toList = [a, b]) : xs = #[a, b] := by apply Array.ext'; simp [h]

theorem LRel.one {old : Nat} {a : Value} {l' : List Value} (h : LRel old μ [a] l') : ∃ b, l' = [b] ∧ VRel old μ a b := by
  match l', h with
  | [b], h => exact ⟨b, rfl, h.2 0 _ _ rfl rfl⟩
  | [], h => simp [LRel] at h
  | _ :: _ :: _, h => simp [LRel] at h

theorem LRel.two {old : Nat} {a b : Value} {l' : List Value} (h : LRel old μ [a, b] l') : ∃ c d, l' = [c, d] ∧ VRel old μ a c ∧ VRel old μ b d := by
  match l', h with
  | [c, d], h => exact ⟨c, d, rfl, h.2 0 _ _ rfl rfl, h.2 1 _ _ rfl rfl⟩
  | [], h => simp [LRel] at h
  | [_], h => simp [LRel] at h
  | _ :: _ :: _ :: _, h => simp [LRel] at h

theorem op_cap (hr : Rel E w0 μ σ w) {ts : Array TypeId} {ty : TypeId} {x x' : Value} (hx : VRel E.old μ x x') {e : Eff} (h : evCap E σ.heap.get ts x = some e) :
    OpS E w0 μ σ w nid e (do pure (.value (← Builtin.cap_ ts ty #[x']))) := by
  unfold evCap at h
  cases ht0 : ts[0]? with
  | none => simp [ht0] at h
  | some t0 =>
  simp only [ht0, Option.bind_some] at h
  split at h
  · rename_i el hel
    have hu0 : E.P.underlying t0 = some (.slice el) := by
      unfold elemT at hel
      split at hel
      · rename_i hh; cases hel; exact hh
      · cases hel
    cases h
    obtain ⟨_, _, rfl⟩ := hx.inv_nil
    exact .val hr (by simp [Builtin.cap_, ht0, run_underlying hu0, goInt]) (.flat _ rfl)
  · rename_i el a n c hel
    have hu0 : E.P.underlying t0 = some (.slice el) := by
      unfold elemT at hel
      split at hel
      · rename_i hh; cases hel; exact hh
      · cases hel
    split at h
    case h_2 => cases h
    rename_i sz hsz
    split at h
    case h_2 => cases h
    rename_i hop
    cases h
    obtain ⟨c', ck, rfl, hsr⟩ := hx.inv_slice
    have hck := (opens_spec hr hsz hsr hop).1 rfl
    subst hck
    exact .val hr (by simp [Builtin.cap_, ht0, run_underlying hu0, goInt]) (.flat _ rfl)
  · cases h

theorem op_builtin (hr : Rel E w0 μ σ w) (ho : E.old ≤ nid) (hn : nid < σ.next) (hm : μ nid = none) {b : Builtin} {ts : Array TypeId} {ty : TypeId} {cs : Array Bool} {args : List Value} {args' : Array Value} (ha : LRel E.old μ args args'.toList)
    {e : Eff} (h : evBuiltin E σ.heap.get nid b ts ty args = some e) : OpS E w0 μ σ w nid e (builtin b ts ty cs args') := by
  unfold evBuiltin at h
  split at h
  · obtain ⟨c, d, hcd, h1, h2⟩ := ha.two
    rw [arr2 hcd]
    exact op_append hr ho hn hm h1 h2 h
  · obtain ⟨c, d, hcd, h1, h2⟩ := ha.two
    rw [arr2 hcd]
    exact op_copy hr h1 h2 h
  · obtain ⟨c, hcd, h1⟩ := ha.one
    rw [arr1 hcd]
    exact op_clear hr h1 h
  · obtain ⟨c, hcd, h1⟩ := ha.one
    rw [arr1 hcd]
    rename_i x
    cases hl : evLen E.P ts x with
    | none => simp [hl] at h
    | some v =>
      simp only [hl, Option.map_some, Option.some.injEq] at h
      subst h
      exact op_len hr h1 hl
  · obtain ⟨c, hcd, h1⟩ := ha.one
    rw [arr1 hcd]
    exact op_cap hr h1 h
  · split at h
    case isFalse => cases h
    rename_i l hs
    have he := ha.of_scalars hs
    cases hp : pureV E.P (Builtin.min_ ts ty args.toArray) with
    | none => simp [hp] at h
    | some v =>
      simp only [hp, Option.map_some, Option.some.injEq] at h
      subst h
      obtain ⟨h1, h2⟩ := pureV_spec hp w
      have : args' = args.toArray := by apply Array.ext'; simp [he]
      rw [this]
      exact .val hr h1 (.flat _ h2)
  · split at h
    case isFalse => cases h
    rename_i l hs
    have he := ha.of_scalars hs
    cases hp : pureV E.P (Builtin.max_ ts ty args.toArray) with
    | none => simp [hp] at h
    | some v =>
      simp only [hp, Option.map_some, Option.some.injEq] at h
      subst h
      obtain ⟨h1, h2⟩ := pureV_spec hp w
      have : args' = args.toArray := by apply Array.ext'; simp [he]
      rw [this]
      exact .val hr h1 (.flat _ h2)
  · cases h
end
end Go.Ab
