/- More rules on what is owned: nil tests of rows, rows opened, pairs of operations. -/
import Derived.Test.YtllffogcdeempaaFwZA
set_option linter.all false
open Go.RowKit
namespace Go.Ab

theorem ba_beq (x y : ByteArray) : (x == y) = decide (x = y) := by
  cases x with | mk a => cases y with | mk b =>
  show ByteArray.beq _ _ = _
  unfold ByteArray.beq
  by_cases h : a = b <;> simp [h]
section
variable {E : Env} {call : CallF} {k : Nat} {fid : FuncId} {ops : List Oper} {base i : Nat} {o : Oper} {rest : List Oper} {fr fr' : List Value} {L L' R : List Res} {K : List Rec → List Value → St → Prop} {P : Program}

/-- A row is nil, or it isn't. -/
theorem ro_nilR {op : BinOp} {t ty : TypeId} {x y : Operand} {s : Value} {n : Nat} {c : List Value} {e : TypeId} {sz : Nat} (hw : Region.wanted o (yieldA ops fr) = true) (hop : o.op = .binOp op t x y ty) (hP : E.P = P) (h1 : isPtr P t = false) (h2 : isSl P t = true) (ho : op = .eql) (hx : Opd fr x = s) (hy : Opd fr y = .slice none 0 0) (hs : Sel L (.row 0 s n c e sz) R)
    (ht : s = .slice none 0 0 → n = 0 → RO E call ops base (i + 1) rest (put fr o.dst (.bool true)) L fun rs => K (.mem (fun g => evOp E (Opd fr) (base + i) g o) ⟨.bool true, [], []⟩ :: rs))
    (hf : s ≠ .slice none 0 0 → RO E call ops base (i + 1) rest (put fr o.dst (.bool false)) L fun rs => K (.mem (fun g => evOp E (Opd fr) (base + i) g o) ⟨.bool false, [], []⟩ :: rs)) : ROC E call ops base i o rest fr L K :=
  ro_mem (by unfold callOf; rw [hop]) hw fun σ r ho' => by
    subst hP ho
    have hr := ho'.tail.tail.row hs
    rcases hr.2 with ⟨rfl, rfl⟩ | ⟨b, p, m, j, xx, rfl, _⟩
    · exact ⟨_, L, ev_binL hop rfl hx hy (by simp only [slice_nil h1 h2, evNilS]; rfl), ho'.tail, ht rfl rfl⟩
    · exact ⟨_, L, ev_binL hop rfl hx hy (by simp only [slice_nil h1 h2, evNilS]; rfl), ho'.tail, hf (by simp)⟩

/-- An empty slice of one's own is a row. -/
theorem o_emptyrow {b : Nat} {e : TypeId} {x : Bool} {G : St → Prop} (sz : Nat) (hs : Sel L (.blk b [] e x) R) (hx : O E (.row 0 (.slice (some ⟨b, 0, none⟩) 0 0) 0 [] e sz :: R) G) : O E L G := by
  intro σ ho
  have h1 := ho.sel hs
  have h2 := h1.ok (.blk b [] e x) (by simp)
  simp only [Res.ok] at h2
  refine hx σ ?_
  have := Own.upd (A := [.blk b [] e x]) (A' := [.row 0 (.slice (some ⟨b, 0, none⟩) 0 0) 0 [] e sz]) (h' := σ.heap) h1 (by simp [idsL, Res.ids, rowBlk]) (by simp [idsL, Res.ids, rowBlk])
    (by
      simp only [List.mem_cons, List.not_mem_nil, or_false, forall_eq, Res.ok]
      exact ⟨by simp, .inr ⟨b, [], 0, [], x, rfl, by simp, by simpa using h2⟩⟩) (fun _ _ => rfl)
  exact this

/-- A block that a slice fills from end to end is a row. -/
theorem o_fullrow {b n m sz : Nat} {c d : List Value} {e : TypeId} {x : Bool} {G : St → Prop} (hs : Sel L (.blk b (c ++ d) e x) R) (hc : c.length = n * sz) (hd : d.length = m * sz) (hx : O E (.row 0 (.slice (some ⟨b, 0, none⟩) n (n + m)) n c e sz :: R) G) : O E L G := by
  intro σ ho
  have h1 := ho.sel hs
  have h2 := h1.ok (.blk b (c ++ d) e x) (by simp)
  simp only [Res.ok] at h2
  refine hx σ ?_
  have := Own.upd (A := [.blk b (c ++ d) e x]) (A' := [.row 0 (.slice (some ⟨b, 0, none⟩) n (n + m)) n c e sz]) (h' := σ.heap) h1 (by simp [idsL, Res.ids, rowBlk]) (by simp [idsL, Res.ids, rowBlk])
    (by
      simp only [List.mem_cons, List.not_mem_nil, or_false, forall_eq, Res.ok]
      exact ⟨hc, .inr ⟨b, [], m, d, x, rfl, hd, h2⟩⟩) (fun _ _ => rfl)
  exact this
theorem ro_emptyrow {b : Nat} {e : TypeId} {x : Bool} {rest : List Oper} (sz : Nat) (hs : Sel L (.blk b [] e x) R) (hx : RO E call ops base i rest fr (.row 0 (.slice (some ⟨b, 0, none⟩) 0 0) 0 [] e sz :: R) K) : RO E call ops base i rest fr L K :=
  o_emptyrow sz hs.tail (O.ent (.cons (.tail .head) (.cons .head .refl)) hx)

/-- A row opened: nil, or a block. -/
theorem o_openrow {s : Value} {n : Nat} {c : List Value} {e : TypeId} {sz : Nat} {G : St → Prop} (hs : Sel L (.row 0 s n c e sz) R)
    (h0 : s = .slice none 0 0 → n = 0 → c = [] → O E R G)
    (h1 : ∀ b p m j x, s = .slice (some ⟨b, p.length, none⟩) n (n + m) → c.length = n * sz → j.length = m * sz → O E (.blk b (p ++ (c ++ j)) e x :: R) G) : O E L G := by
  intro σ ho
  have ho1 := ho.sel hs
  obtain ⟨hc, hr⟩ := ho.row hs
  rcases hr with ⟨rfl, rfl⟩ | ⟨b, p, m, j, x, rfl, hj, hg⟩
  · exact h0 rfl rfl (List.length_eq_zero_iff.1 (by omega)) σ ho1.tail
  · refine h1 b p m j x rfl hc hj σ ?_
    have := Own.upd (A := [.row 0 (.slice (some ⟨b, p.length, none⟩) n (n + m)) n c e sz]) (A' := [.blk b (p ++ (c ++ j)) e x]) (h' := σ.heap) ho1 (by simp [idsL, Res.ids, rowBlk]) (by simp [idsL, Res.ids, rowBlk])
      (by simp only [List.mem_cons, List.not_mem_nil, or_false, forall_eq, Res.ok]; exact hg) (fun _ _ => rfl)
    exact this
/-- A part of a block is a row. -/
theorem o_partrow {b n m sz : Nat} {p c d : List Value} {e : TypeId} {x : Bool} {G : St → Prop} (hs : Sel L (.blk b (p ++ (c ++ d)) e x) R) (hc : c.length = n * sz) (hd : d.length = m * sz) (hx : O E (.row 0 (.slice (some ⟨b, p.length, none⟩) n (n + m)) n c e sz :: R) G) : O E L G := by
  intro σ ho
  have h1 := ho.sel hs
  have h2 := h1.ok (.blk b (p ++ (c ++ d)) e x) (by simp)
  simp only [Res.ok] at h2
  refine hx σ ?_
  have := Own.upd (A := [.blk b (p ++ (c ++ d)) e x]) (A' := [.row 0 (.slice (some ⟨b, p.length, none⟩) n (n + m)) n c e sz]) (h' := σ.heap) h1 (by simp [idsL, Res.ids, rowBlk]) (by simp [idsL, Res.ids, rowBlk])
    (by
      simp only [List.mem_cons, List.not_mem_nil, or_false, forall_eq, Res.ok]
      exact ⟨hc, .inr ⟨b, p, m, d, x, rfl, hd, h2⟩⟩) (fun _ _ => rfl)
  exact this

/-- A row is a slice. -/
theorem o_shape {kd : Nat} {s : Value} {n : Nat} {c : List Value} {e : TypeId} {sz : Nat} {G : St → Prop} (hs : Sel L (.row kd s n c e sz) R) (hx : ∀ a m, s = .slice a n m → O E L G) : O E L G := fun σ ho => by
  obtain ⟨a, m, h, _⟩ := (ho.row hs).shape
  exact hx a m h σ ho
/-- A row has as many cells as it should; it is nil only if it is empty. -/
theorem o_rowlen {kd : Nat} {s : Value} {n : Nat} {c : List Value} {e : TypeId} {sz : Nat} {G : St → Prop} (hs : Sel L (.row kd s n c e sz) R) (hx : c.length = n * sz → O E L G) : O E L G := fun σ ho => hx (ho.row hs).1 σ ho

/-- All that append asks of its types. -/
structure AppT (P : Program) (t0 t1 el : TypeId) (sz bytes : Nat) : Prop where
  elT : elemT P t0 = some el
  un : ∃ d, P.underlying t1 = some d ∧ isSlStr d = true
  szT : sizeT P el = some sz
  by_ : bytesT P el = some bytes
  ze : ∃ z, zeroCells? P el = some z ∧ z.size = sz
  ne : sz ≠ 0
theorem ro_app2 {x y : Operand} {ts : Array TypeId} {s ys : Value} {n m : Nat} {c new : List Value} {el : TypeId} {sz bytes : Nat} {t0 t1 : TypeId} (hw : Region.wanted o (yieldA ops fr) = true) (hop : o.op = .call { callee := .builtin .append, args := #[x, y], argTypes := ts }) (hts : ts = #[t0, t1]) (hP : E.P = P)
    (hx : Opd fr x = s) (hy : Opd fr y = ys) (hs : Sel L (.row 0 s n c el sz) R) (ht : AppT P t0 t1 el sz bytes)
    (hsrc : Src E R sz m ys new) (hfit : (n + m) * bytes ≤ 140737488355328) (h63 : n + m ≤ 9223372036854775807)
    (hk : ∀ a cap e', RO E call ops base (i + 1) rest (put fr o.dst (.slice a (n + m) cap)) (.row 0 (.slice a (n + m) cap) (n + m) (c ++ new) el sz :: R) fun rs => K (.mem (fun g => evOp E (Opd fr) (base + i) g o) e' :: rs)) : ROC E call ops base i o rest fr L K := by
  obtain ⟨d, hd1, hd2⟩ := ht.un
  obtain ⟨z, hz1, hz2⟩ := ht.ze
  exact ro_app hw hop hts hP hx hy hs ht.elT hd1 hd2 ht.szT ht.by_ hz1 hz2 ht.ne hsrc hfit h63 hk

/-- append to a slice that a block of one's own is, from end to end. -/
theorem ro_appF {x y : Operand} {ts : Array TypeId} {b : Nat} {ex : Bool} {ys : Value} {n m : Nat} {c new : List Value} {el : TypeId} {sz bytes : Nat} {t0 t1 : TypeId} (hw : Region.wanted o (yieldA ops fr) = true) (hop : o.op = .call { callee := .builtin .append, args := #[x, y], argTypes := ts }) (hts : ts = #[t0, t1]) (hP : E.P = P)
    (hx : Opd fr x = .slice (some ⟨b, 0, none⟩) n n) (hy : Opd fr y = ys) (hs : Sel L (.blk b c el ex) R) (ht : AppT P t0 t1 el sz bytes) (hc : c.length = n * sz)
    (hsrc : Src E R sz m ys new) (hfit : (n + m) * bytes ≤ 140737488355328) (h63 : n + m ≤ 9223372036854775807)
    (hk : ∀ a cap e', RO E call ops base (i + 1) rest (put fr o.dst (.slice a (n + m) cap)) (.row 0 (.slice a (n + m) cap) (n + m) (c ++ new) el sz :: R) fun rs => K (.mem (fun g => evOp E (Opd fr) (base + i) g o) e' :: rs)) : ROC E call ops base i o rest fr L K := by
  have h1 : ROC E call ops base i o rest fr (.row 0 (.slice (some ⟨b, 0, none⟩) n (n + 0)) n c el sz :: R) K := ro_app2 hw hop hts hP hx hy .head ht hsrc hfit h63 hk
  have h2 : Sel (RSV ops base i :: L) (.blk b (c ++ []) el ex) (RSV ops base i :: R) := by rw [List.append_nil]; exact hs.tail
  exact o_fullrow (d := []) (m := 0) h2 hc (by simp) (O.ent (.cons (.tail .head) (.cons .head .refl)) h1)

/-- What came in, as a row. -/
theorem rdOld_cat {E : Env} {b : Nat} : ∀ (m k o : Nat) (c d : List Value), rdOld E b o m = some c → rdOld E b (o + m) k = some d → rdOld E b o (m + k) = some (c ++ d) := by
  intro m
  induction m with
  | zero => intro k o c d h1 h2; simp only [rdOld, Option.some.injEq] at h1; subst h1; simpa using h2
  | succ m ih =>
    intro k o c d h1 h2
    simp only [rdOld] at h1
    split at h1
    case h_2 => cases h1
    rename_i v hv
    split at h1
    case isFalse => cases h1
    rename_i hold
    split at h1
    case h_2 => cases h1
    rename_i l hl
    cases h1
    have := ih k (o + 1) l d hl (by rw [← h2]; congr 1; omega)
    rw [show m + 1 + k = (m + k) + 1 by omega]
    simp only [rdOld, hv, hold, if_true, this, List.cons_append]
theorem rdOld_rows {E : Env} {b o k : Nat} {C : Nat → List Value} : ∀ (n : Nat), (∀ j, j < n → rdOld E b (o + j * k) k = some (C j)) → rdOld E b o (n * k) = some ((List.range n).flatMap C) := by
  intro n
  induction n with
  | zero => intro _; simp [rdOld]
  | succ n ih =>
    intro h
    rw [Nat.succ_mul, List.range_succ, List.flatMap_append]
    exact rdOld_cat _ _ _ _ _ (ih fun j hj => h j (by omega)) (by simpa using h n (by omega))
theorem rdOld_len {E : Env} {b : Nat} : ∀ (m o : Nat) (c : List Value), rdOld E b o m = some c → c.length = m := by
  intro m
  induction m with
  | zero => intro o c h; simp only [rdOld, Option.some.injEq] at h; subst h; rfl
  | succ m ih =>
    intro o c h
    simp only [rdOld] at h
    split at h
    case h_2 => cases h
    split at h
    case isFalse => cases h
    split at h
    case h_2 => cases h
    rename_i l hl
    cases h
    simp [ih _ _ hl]
theorem o_in {a : Option Addr} {n cap b o k : Nat} {C : Nat → List Value} {G : St → Prop} (e : TypeId) (ha : 0 < n → a = some ⟨b, o, none⟩ ∧ b < E.old) (hrd : ∀ j, j < n → rdOld E b (o + j * k) k = some (C j)) (hx : O E (.row 2 (.slice a n cap) n ((List.range n).flatMap C) e k :: L) G) : O E L G := by
  rcases Nat.eq_zero_or_pos n with rfl | h0
  · exact o_old (by simp) (.inl ⟨_, _, rfl, rfl⟩) hx
  · obtain ⟨rfl, hb⟩ := ha h0
    have := rdOld_rows n hrd
    exact o_old (rdOld_len _ _ _ this) (.inr ⟨b, o, cap, rfl, hb, this⟩) hx

/-! Pairs. -/
theorem disj_of {a b : List Nat} (h : ∀ x ∈ a, ∀ y ∈ b, x ≠ y) : disj a b = true := by
  unfold disj
  simp only [List.all_eq_true, Bool.not_eq_true', List.contains_eq_mem, decide_eq_false_iff_not]
  exact fun x hx hb => h x hx x hb rfl

/-- Ahead of a region: the blocks there are lie below those to come, and are unlike. -/
theorem o_regionQ {pr : FuncId → Nat → List (Nat × Nat)} {id : Nat} {ops : List Oper} {d : Bool} {Q : Ex → List Value → St → Prop} (ps : List (Nat × Nat)) (hpr : E.pairs = pr) (hp : pr fid id = ps) (hx : ∀ base, (∀ x ∈ idsL L, x < base) → (idsL L).Nodup → RO E call ops base 0 ops fr L fun rs fr σ => pairsOk rs ps = true ∧ Q .normal fr σ) : O E L fun σ => W E call k fid (.region id ops.toArray d) none fr σ Q := by
  intro σ ho
  subst hpr
  refine w_region_pairs ps hp (hx σ.next (fun x hx => (ho.lt x hx).2) ho.nodup _ ?_)
  have := ho.begin (m := ops.length)
  simpa [RSV] using this
theorem ro_allocQ {v : Nat → Value} {c : List Value} {el : TypeId} {ex : Bool} (hc : callOf o = none) (hw : Region.wanted o (yieldA ops fr) = true) (he : ∀ g nid, evOp E (Opd fr) nid g o = some ⟨v nid, [(nid, some (.cells c el ex))], []⟩)
    (hx : ∀ b, b = base + i → RO E call ops base (i + 1) rest (put fr o.dst (v b)) (.blk b c el ex :: L) fun rs => K (.mem (fun g => evOp E (Opd fr) (base + i) g o) ⟨v b, [(b, some (.cells c el ex))], []⟩ :: rs)) : ROC E call ops base i o rest fr L K :=
  ro_mem hc hw fun σ r ho => ⟨_, _, he _ _, ho.alloc, hx _ rfl⟩

/-- append writes the row it is given, or the block that is new; it reads that row, and what is appended. -/
theorem evAppend_eff {g : Nat → Option Blk} {nid : Nat} {ts : Array TypeId} {s y : Value} {e : Eff} (h : evAppend E g nid ts s y = some e) : (∀ u ∈ e.upd.map (·.1), u = nid ∨ rowBlk s = some u) ∧ ∀ u ∈ e.rds, rowBlk s = some u ∨ u ∈ blkOf y := by
  unfold evAppend at h
  split at h
  case h_2 => cases h
  split at h
  · unfold evAppendZ at h
    split at h
    case h_2 => cases h
    split at h
    case h_2 => cases h
    split at h
    · cases h
    split at h
    case h_2 => cases h
    cases h
    exact ⟨by simp, by simp [rowBlk]⟩
  split at h
  case h_2 => cases h
  split at h
  · cases h
  split at h
  case h_2 => cases h
  split at h
  · split at h
    · cases h; exact ⟨by simp, fun u hu => .inr hu⟩
    · split at h
      case h_2 => cases h
      split at h
      · cases h
      split at h
      case h_2 => cases h
      rename_i w hw
      cases h
      rename_i aa _ _
      have : w.1 = aa.block := by
        unfold wr at hw
        split at hw
        · cases hw
        split at hw
        case h_2 => cases hw
        split at hw
        · cases hw; rfl
        · cases hw
      simp [rowBlk, this]
      exact fun a h => .inr h
  · split at h
    case isFalse => cases h
    split at h
    · split at h
      · cases h; exact ⟨by simp, fun u hu => .inr hu⟩
      · cases h
    · split at h
      · split at h
        · cases h
        · cases h; simp [rowBlk]
          exact fun a h => .inr h
      · cases h; simp [rowBlk]
        exact fun a h => .inr h
      · cases h

theorem ro_appQ {x y : Operand} {ts : Array TypeId} {s ys : Value} {n m : Nat} {c new : List Value} {el : TypeId} {sz bytes : Nat} {t0 t1 : TypeId} (hw : Region.wanted o (yieldA ops fr) = true) (hop : o.op = .call { callee := .builtin .append, args := #[x, y], argTypes := ts }) (hts : ts = #[t0, t1]) (hP : E.P = P)
    (hx : Opd fr x = s) (hy : Opd fr y = ys) (hs : Sel L (.row 0 s n c el sz) R) (ht : AppT P t0 t1 el sz bytes)
    (hsrc : Src E R sz m ys new) (hfit : (n + m) * bytes ≤ 140737488355328) (h63 : n + m ≤ 9223372036854775807)
    (hk : ∀ a cap e', (∀ u ∈ e'.upd.map (·.1), u = base + i ∨ rowBlk s = some u) → (∀ u ∈ e'.rds, rowBlk s = some u ∨ u ∈ blkOf ys) → RO E call ops base (i + 1) rest (put fr o.dst (.slice a (n + m) cap)) (.row 0 (.slice a (n + m) cap) (n + m) (c ++ new) el sz :: R) fun rs => K (.mem (fun g => evOp E (Opd fr) (base + i) g o) e' :: rs)) : ROC E call ops base i o rest fr L K :=
  ro_mem (by unfold callOf; rw [hop]) hw fun σ r ho => by
    have h1 : Own E σ (.rsv (base + i) 1 :: r :: .row 0 s n c el sz :: R) := ho.perm ((hs.perm.cons r).cons _)
    obtain ⟨d, hd1, hd2⟩ := ht.un
    obtain ⟨z, hz1, hz2⟩ := ht.ze
    obtain ⟨e, s', he, ⟨a, cap, hv, rfl⟩, hown⟩ := row_append h1 hP ht.elT hd1 hd2 ht.szT ht.by_ hz1 hz2 ht.ne hsrc hfit h63
    subst hts
    obtain ⟨q1, q2⟩ := evAppend_eff he
    refine ⟨e, _, ?_, hown, by rw [hv]; exact hk a cap e q1 q2⟩
    unfold evOp
    simp only [hop, List.map_cons, List.map_nil, hx, hy, evBuiltin]
    exact he
theorem ev_load1O {nid : Nat} {σ : St} {t : TypeId} {x : Operand} {b off : Nat} {c : List Value} {el : TypeId} {ex : Bool} {v : Value} (ho : Own E σ L) (hop : o.op = .load t x) (hP : E.P = P) (ha : isAggT P t = some false) (hx : Opd fr x = .pointer (some ⟨b, off, none⟩)) (hs : Sel L (.blk b c el ex) R) (hv : c[off]? = some v) : evOp E (Opd fr) nid σ.heap.get o = some ⟨v, [], [b]⟩ :=
  ev_load1 hop hP ha hx (ho.get hs).1 (ho.get hs).2 hv
theorem ev_loadNO {nid : Nat} {σ : St} {t : TypeId} {x : Operand} {b off m : Nat} {c l : List Value} {el : TypeId} {ex : Bool} (ho : Own E σ L) (hop : o.op = .load t x) (hP : E.P = P) (ha : isAggT P t = some true) (hx : Opd fr x = .pointer (some ⟨b, off, none⟩)) (hs : Sel L (.blk b c el ex) R) (hm : sizeT P t = some m) (hle : off + m ≤ c.length) (hl : (c.drop off).take m = l) : evOp E (Opd fr) nid σ.heap.get o = some ⟨.agg l.toArray, [], [b]⟩ :=
  ev_loadN hop hP ha hx (ho.get hs).1 (ho.get hs).2 hm hle hl
theorem o_done {p : Prop} (h : p) : O E L fun _ => p := fun _ _ => h
def OBack (E : Env) (L : List Res) (call : CallF) (ops : List Oper) (base j : Nat) (rest : List Oper) (d : Option Tmp) (fr : List Value) (r : Res) (K0 : List Value → St → Prop) (v : Value) : Prop := O E L (BackK E call ops base j rest d fr r K0 v)
theorem g_back {j : Nat} {d : Option Tmp} {r : Res} {v : Value} {K0 : List Value → St → Prop} (h : OBack E L call ops base j rest d fr r K0 v) : O E L (BackK E call ops base j rest d fr r K0 v) := h
theorem gx_back {j : Nat} {d : Option Tmp} {r : Res} {v : Value} {K0 : List Value → St → Prop} (hs : Sel L r R) (hf : put fr d v = fr') (hx : RO E call ops base j rest fr' R fun _ => K0) : OBack E L call ops base j rest d fr r K0 v := o_back hs hf hx
def OBackP (E : Env) (L : List Res) (call : CallF) (ops : List Oper) (base j : Nat) (rest : List Oper) (d : Option Tmp) (fr : List Value) (r : Res) (σ0 : St) (K : List Rec → List Value → St → Prop) (v : Value) : Prop := O E L (BackP E call ops base j rest d fr r σ0 K v)
theorem g_backP {j : Nat} {d : Option Tmp} {r : Res} {v : Value} {σ0 : St} (h : OBackP E L call ops base j rest d fr r σ0 K v) : O E L (BackP E call ops base j rest d fr r σ0 K v) := h
theorem gx_backP {j : Nat} {d : Option Tmp} {r : Res} {v : Value} {σ0 : St} (hs : Sel L r R) (hf : put fr d v = fr') (hx : ∀ σ1, Own E σ1 R → RO E call ops base j rest fr' R fun rs => K (.call σ0 σ1 :: rs)) : OBackP E L call ops base j rest d fr r σ0 K v := o_backP hs hf hx
def OReg (E : Env) (L : List Res) (call : CallF) (k : Nat) (fid : FuncId) (id : Nat) (ops : List Oper) (d : Bool) (fr : List Value) (Q : Ex → List Value → St → Prop) : Prop := O E L fun σ => W E call k fid (.region id ops.toArray d) none fr σ Q
theorem g_region {id : Nat} {ops : List Oper} {d : Bool} {Q : Ex → List Value → St → Prop} (h : OReg E L call k fid id ops d fr Q) : O E L fun σ => W E call k fid (.region id ops.toArray d) none fr σ Q := h
theorem gx_region {pr : FuncId → Nat → List (Nat × Nat)} {id : Nat} {ops : List Oper} {d : Bool} {Q : Ex → List Value → St → Prop} (hpr : E.pairs = pr) (hp : pr fid id = []) (hx : ∀ base, RO E call ops base 0 ops fr L fun _ fr σ => Q .normal fr σ) : OReg E L call k fid id ops d fr Q := o_region hpr hp hx
theorem gx_regionQ {pr : FuncId → Nat → List (Nat × Nat)} {id : Nat} {ops : List Oper} {d : Bool} {Q : Ex → List Value → St → Prop} (ps : List (Nat × Nat)) (hpr : E.pairs = pr) (hp : pr fid id = ps) (hx : ∀ base, (∀ x ∈ idsL L, x < base) → (idsL L).Nodup → RO E call ops base 0 ops fr L fun rs fr σ => pairsOk rs ps = true ∧ Q .normal fr σ) : OReg E L call k fid id ops d fr Q := o_regionQ ps hpr hp hx
theorem of_O {g : FuncId} {t : Tbl} {k d : Nat} {args : List Value} {Q : Value → St → Prop} (h : O E L fun σ => WCall (evFunT E t k d) g args σ Q) : OFun g E t k d args L Q := h
/-- A join: whatever a piece of code has done, so much holds behind it. -/
theorem o_cut {c : Code} {Q : Ex → List Value → St → Prop} {K : List Value → St → Prop} (J : List Value → List Res → Prop) (h1 : O E L fun σ => W E call k fid c none fr σ (onward (fun fr σ => ∃ L', J fr L' ∧ Own E σ L') Q)) (h2 : ∀ fr L', J fr L' → O E L' (K fr)) : O E L fun σ => W E call k fid c none fr σ (onward K Q) := by
  intro σ ho
  refine (h1 σ ho).mono fun e fr σ he => ?_
  cases e with
  | normal => obtain ⟨L', hj, ho⟩ := he; exact h2 fr L' hj σ ho
  | _ => exact he
theorem o_join {J : List Res → Prop} (hj : J L') (he : Ent L L') : O E L fun σ => ∃ L', J L' ∧ Own E σ L' := fun σ ho => ⟨L', hj, he.own ho⟩
theorem o_loopE {c : Code} {Q : Ex → List Value → St → Prop} (J : Nat → List Value → List Res → Prop) (n : Nat) (hm : n < k) (h0 : J 0 fr L') (he : Ent L L')
    (step : ∀ i fr L, i ≤ n → J i fr L → O E L fun σ => W E call k fid c none fr σ (onward (fun fr σ => i < n ∧ ∃ L', J (i + 1) fr L' ∧ Own E σ L') Q)) : O E L fun σ => W E call k fid (.loop c) none fr σ Q := O.ent he (o_loop J n hm h0 step)
theorem shr_0 : (2 : Int) ^ min 0 IntKind.i64.bits = 1 := rfl
theorem shr_16 : (2 : Int) ^ min 16 IntKind.i64.bits = 65536 := rfl
theorem shr_24 : (2 : Int) ^ min 24 IntKind.i64.bits = 16777216 := rfl
theorem shr_8 : (2 : Int) ^ min 8 IntKind.i64.bits = 256 := rfl
theorem o_loopU {c : Code} {Q : Ex → List Value → St → Prop} (h : O E L fun σ => WLoop E call k fid c k fr σ Q) : O E L fun σ => W E call k fid (.loop c) none fr σ Q := fun σ ho => w_loop (h σ ho)
theorem wr_all {c l : List Value} (h : l.length = c.length) : wrList c 0 l = l := by unfold wrList; simp [h]
/-! Whether an operation is wanted. -/
theorem bq_t (b : Bool) : (b == true) = b := by cases b <;> rfl
theorem bq_f (b : Bool) : (b == false) = !b := by cases b <;> rfl
theorem want_is {j t : Nat} {b v : Bool} (hg : o.guard = some (j, b)) (hd : (ops[j]?).bind (·.dst) = some t) (hv : fr[t]? = some (.bool v)) : Region.wanted o (yieldA ops fr) = (v == b) := by
  unfold Region.wanted
  rw [hg]
  simp only [yieldA, hd, Option.bind_some, hv]
  cases v <;> cases b <;> rfl
/-- An operation that is wanted. -/
def ROCW (E : Env) (call : CallF) (ops : List Oper) (base i : Nat) (o : Oper) (rest : List Oper) (fr : List Value) (L : List Res) (K : List Rec → List Value → St → Prop) : Prop := Region.wanted o (yieldA ops fr) = true → ROC E call ops base i o rest fr L K
theorem ro_w (h : Region.wanted o (yieldA ops fr) = true → ROC E call ops base i o rest fr L K) : ROCW E call ops base i o rest fr L K := h
theorem ro_free (hg : o.guard = none) (h : ROCW E call ops base i o rest fr L K) : ROC E call ops base i o rest fr L K := h (by unfold Region.wanted; rw [hg])
section
variable {j t : Nat} {b v : Bool}
theorem ro_gT (hg : o.guard = some (j, b)) (hd : (ops[j]?).bind (·.dst) = some t) (hv : fr[t]? = some (.bool v)) (he : (v == b) = true) (h : ROCW E call ops base i o rest fr L K) : ROC E call ops base i o rest fr L K := h ((want_is hg hd hv).trans he)
theorem ro_gF (hg : o.guard = some (j, b)) (hd : (ops[j]?).bind (·.dst) = some t) (hv : fr[t]? = some (.bool v)) (he : (v == b) = false) (h : RO E call ops base (i + 1) rest (put fr o.dst undef) L fun rs => K (.quiet :: rs)) : ROC E call ops base i o rest fr L K := ro_off ((want_is hg hd hv).trans he) h
theorem ro_gB {x : Bool} (hg : o.guard = some (j, b)) (hd : (ops[j]?).bind (·.dst) = some t) (hv : fr[t]? = some (.bool v)) (he : (v == b) = x) (h1 : x = true → ROCW E call ops base i o rest fr L K) (h2 : x = false → RO E call ops base (i + 1) rest (put fr o.dst undef) L fun rs => K (.quiet :: rs)) : ROC E call ops base i o rest fr L K := by
  cases x
  · exact ro_gF hg hd hv he (h2 rfl)
  · exact ro_gT hg hd hv he (h1 rfl)
theorem ro_gP {p : Prop} [Decidable p] (hg : o.guard = some (j, b)) (hd : (ops[j]?).bind (·.dst) = some t) (hv : fr[t]? = some (.bool v)) (he : (v == b) = decide p) (h1 : p → ROCW E call ops base i o rest fr L K) (h2 : ¬ p → RO E call ops base (i + 1) rest (put fr o.dst undef) L fun rs => K (.quiet :: rs)) : ROC E call ops base i o rest fr L K :=
  ro_gB hg hd hv he (fun h => h1 (of_decide_eq_true h)) (fun h => h2 (of_decide_eq_false h))
theorem ro_gN {p : Prop} [Decidable p] (hg : o.guard = some (j, b)) (hd : (ops[j]?).bind (·.dst) = some t) (hv : fr[t]? = some (.bool v)) (he : (v == b) = !decide p) (h1 : ¬ p → ROCW E call ops base i o rest fr L K) (h2 : p → RO E call ops base (i + 1) rest (put fr o.dst undef) L fun rs => K (.quiet :: rs)) : ROC E call ops base i o rest fr L K :=
  ro_gB hg hd hv he (fun h => h1 (by simpa using h)) (fun h => h2 (by simpa using h))
end
/-- Bytes of one's own made a string. -/
theorem ro_convBS {s d e : TypeId} {x : Operand} {b off n m : Nat} {c : List Value} {el : TypeId} {ex : Bool} {bs : ByteArray} (hw : Region.wanted o (yieldA ops fr) = true) (hop : o.op = .convert s d x) (hP : E.P = P) (hu : P.underlying s = some (.slice e)) (hd : P.underlying d = some .string) (he : P.underlying e = some (.int .u8)) (hx : Opd fr x = .slice (some ⟨b, off, none⟩) n m) (hs : Sel L (.blk b c el ex) R) (hle : off + n ≤ c.length) (hl : bytesOf? ((c.drop off).take n) = some bs)
    (hk : RO E call ops base (i + 1) rest (put fr o.dst (.string bs)) L fun rs => K (.mem (fun g => evOp E (Opd fr) (base + i) g o) ⟨.string bs, [], [b]⟩ :: rs)) : ROC E call ops base i o rest fr L K :=
  ro_mem (by unfold callOf; rw [hop]) hw fun σ r ho => by
    have hg := ho.tail.tail.get hs
    exact ⟨_, L, ev_convBS hop hP hu hd he hx hg.1 hg.2 hle hl, ho.tail, hk⟩
end
end Go.Ab
