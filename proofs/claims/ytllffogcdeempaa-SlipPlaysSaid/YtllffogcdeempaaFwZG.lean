/- Appending and copying within a block that is known to its end. -/
import Derived.Test.YtllffogcdeempaaFwZF
set_option linter.all false
open Go.RowKit
namespace Go.Ab
section
variable {E : Env} {call : CallF} {ops : List Oper} {base i : Nat} {o : Oper} {rest : List Oper} {fr fr' : List Value} {L L' R : List Res} {K : List Rec → List Value → St → Prop} {P : Program}
/-- append where there is room. -/
theorem ro_appB {x y : Operand} {ts : Array TypeId} {t0 t1 el : TypeId} {sz bytes b off n cap m : Nat} {ys : Value} {c new : List Value} {e : TypeId} {ex : Bool} (hw : Region.wanted o (yieldA ops fr) = true) (hop : o.op = .call { callee := .builtin .append, args := #[x, y], argTypes := ts }) (hts : ts = #[t0, t1]) (hP : E.P = P) (ht : AppT P t0 t1 el sz bytes)
    (hx : Opd fr x = .slice (some ⟨b, off, none⟩) n cap) (hy : Opd fr y = ys) (hs : Sel L (.blk b c e ex) R) (hsrc : Src E R sz m ys new) (hm : 0 < m) (hroom : n + m ≤ cap) (hle : off + cap * sz ≤ c.length)
    (hk : ∀ e', RO E call ops base (i + 1) rest (put fr o.dst (.slice (some ⟨b, off, none⟩) (n + m) cap)) (.blk b (wrList c (off + n * sz) new) e ex :: R) fun rs => K (.mem (fun g => evOp E (Opd fr) (base + i) g o) e' :: rs)) : ROC E call ops base i o rest fr L K :=
  ro_mem (by unfold callOf; rw [hop]) hw fun σ r ho => by
    subst hP
    have h1 : Own E σ (.blk b c e ex :: r :: R) := (ho.tail.perm (hs.perm.cons r)).perm (List.Perm.swap _ _ _)
    have hg := h1.get .head
    obtain ⟨hylen, hystr, hnew⟩ := hsrc.rd σ h1.tail.tail
    obtain ⟨d, hd1, hd2⟩ := ht.un
    obtain ⟨z, hz1, hz2⟩ := ht.ze
    obtain ⟨ti, hi⟩ : ∃ i, E.P.info? el = some i := by
      have := ht.szT
      unfold sizeT at this
      cases hi : E.P.info? el with
      | none => simp [hi] at this
      | some i => exact ⟨i, rfl⟩
    have hisz : ti.size = sz := by simpa [sizeT, hi] using ht.szT
    subst hisz
    have hmul : (n + m) * ti.size ≤ cap * ti.size := Nat.mul_le_mul_right _ hroom
    rw [Nat.add_mul] at hmul
    have hwr : wr E σ.heap.get ⟨b, off + n * ti.size, none⟩ new = some (b, some (.cells (wrList c (off + n * ti.size) new) e ex)) := by
      have hh : ¬ (((⟨b, off + n * ti.size, none⟩ : Addr).spot.isSome || decide (b < E.old)) || !new.all oneCell) = true := by simp [hg.1]; simpa using hsrc.one
      unfold wr
      rw [if_neg hh]
      simp only [hg.2]
      rw [if_pos (by rw [hsrc.ln]; omega)]
    have hc0 : ¬ (ti.size = 0 ∨ z.size ≠ ti.size ∨ strOk ys ti.size = false) := by
      have := ht.ne
      simp [this, hz2, hystr]
    refine ⟨⟨.slice (some ⟨b, off, none⟩) (n + m) cap, [(b, some (.cells (wrList c (off + n * ti.size) new) e ex))], b :: blkOf ys⟩, _, ?_, (h1.write (c' := wrList c (off + n * ti.size) new)).perm (List.Perm.swap _ _ _), hk _⟩
    unfold evOp
    simp only [hop, hts, List.map_cons, List.map_nil, hx, hy, evBuiltin]
    unfold evAppend
    simp only [List.getElem?_toArray, List.getElem?_cons_zero, List.getElem?_cons_succ, Option.bind_some, ht.elT, hd1, hd2, hi, hz1, hylen, hc0, hnew, Bool.not_true, Bool.false_eq_true, if_false, if_pos hroom, if_neg (show ¬ m = 0 by omega), Option.isSome_none, hwr]
/-- append where there is none, to a block that is known to its end. -/
theorem ro_appG {x y : Operand} {ts : Array TypeId} {t0 t1 el : TypeId} {sz bytes b off n cap m : Nat} {ys : Value} {c old new : List Value} {e : TypeId} (hw : Region.wanted o (yieldA ops fr) = true) (hop : o.op = .call { callee := .builtin .append, args := #[x, y], argTypes := ts }) (hts : ts = #[t0, t1]) (hP : E.P = P) (ht : AppT P t0 t1 el sz bytes)
    (hx : Opd fr x = .slice (some ⟨b, off, none⟩) n cap) (hy : Opd fr y = ys) (hs : Sel L (.blk b c e true) R) (hsrc : Src E R sz m ys new) (hroom : cap < n + m) (hn : 0 < n) (hle : off + n * sz ≤ c.length) (hold : (c.drop off).take (n * sz) = old) (hfit : (n + m) * bytes ≤ 140737488355328) (h63 : n + m ≤ 9223372036854775807)
    (hk : ∀ b' e', RO E call ops base (i + 1) rest (put fr o.dst (.slice (some ⟨b', 0, none⟩) (n + m) (n + m))) (.blk b' (old ++ new) el false :: .blk b c e true :: R) fun rs => K (.mem (fun g => evOp E (Opd fr) (base + i) g o) e' :: rs)) : ROC E call ops base i o rest fr L K :=
  ro_mem (by unfold callOf; rw [hop]) hw fun σ r ho => by
    subst hP hold
    have h0 : Own E σ (.blk b c e true :: .rsv (base + i) 1 :: r :: R) := (ho.perm ((hs.perm.cons r).cons _)).perm (((List.Perm.swap _ _ _).cons _).trans (List.Perm.swap _ _ _))
    have hg := h0.get .head
    obtain ⟨hylen, hystr, hnew⟩ := hsrc.rd σ h0.tail.tail.tail
    obtain ⟨d, hd1, hd2⟩ := ht.un
    obtain ⟨z, hz1, hz2⟩ := ht.ze
    obtain ⟨ti, hi⟩ : ∃ i, E.P.info? el = some i := by
      have := ht.szT
      unfold sizeT at this
      cases hi : E.P.info? el with
      | none => simp [hi] at this
      | some i => exact ⟨i, rfl⟩
    have hisz : ti.size = sz := by simpa [sizeT, hi] using ht.szT
    subst hisz
    have hby : ti.bytes = bytes := by have := ht.by_; simpa [bytesT, hi] using this
    subst hby
    have hrd : rdRow E σ.heap.get ti.size n (.slice (some ⟨b, off, none⟩) n cap) = some ((c.drop off).take (n * ti.size)) := by
      simp only [rdRow, (show n ≠ 0 by omega), if_false, Nat.le_refl, if_true, rd, Option.isSome_none, Bool.false_eq_true, hg.1, hg.2]
      rw [if_pos hle]
    have hop2 : opens E σ.heap.get ⟨b, off, none⟩ cap el ti.size = some false := by
      simp only [opens, hg.1, if_false, hg.2, if_true]
    have hc0 : ¬ (ti.size = 0 ∨ z.size ≠ ti.size ∨ strOk ys ti.size = false) := by
      have := ht.ne
      simp [this, hz2, hystr]
    refine ⟨⟨.slice (some ⟨base + i, 0, none⟩) (n + m) (n + m), [(base + i, some (.cells ((c.drop off).take (n * ti.size) ++ new) el false))], b :: blkOf ys⟩, .blk (base + i) ((c.drop off).take (n * ti.size) ++ new) el false :: .blk b c e true :: R, ?_, ?_, hk _ _⟩
    · unfold evOp
      simp only [hop, hts, List.map_cons, List.map_nil, hx, hy, evBuiltin]
      unfold evAppend
      simp only [List.getElem?_toArray, List.getElem?_cons_zero, List.getElem?_cons_succ, Option.bind_some, ht.elT, hd1, hd2, hi, hz1, hylen, hc0, hnew, Bool.not_true, Bool.false_eq_true, if_false, if_neg (show ¬ n + m ≤ cap by omega), if_pos (And.intro hfit h63), hrd, hop2]
    · have h2 : Own E σ (.rsv (base + i) 1 :: r :: .blk b c e true :: R) := h0.perm ((List.Perm.swap _ _ _).trans ((List.Perm.swap _ _ _).cons _))
      exact (h2.alloc (c := (c.drop off).take (n * ti.size) ++ new) (el := el) (ex := false)).perm (.refl _)
/-- append of zeros where there is no room. -/
theorem ro_appZ {x y : Operand} {ts : Array TypeId} {t0 t1 el : TypeId} {ki kn : IntKind} {q : Int} {sz bytes b off n cap m : Nat} {z : Array Value} {c old : List Value} {e : TypeId} (hw : Region.wanted o (yieldA ops fr) = true) (hop : o.op = .call { callee := .builtin .append, args := #[x, y], argTypes := ts }) (hts : ts = #[t0, t1]) (hP : E.P = P) (hel : elemT P t0 = some el) (hu : P.underlying t1 = some (.int kn)) (hsz : sizeT P el = some sz) (hby : bytesT P el = some bytes) (hz : zeroCells? P el = some z) (hzs : z.size = sz) (h0 : sz ≠ 0)
    (hx : Opd fr x = .slice (some ⟨b, off, none⟩) n cap) (hy : Opd fr y = .int ki q) (hq : q = (m : Int)) (hs : Sel L (.blk b c e true) R) (hm : 0 < m) (hroom : cap < n + m) (hle : off + n * sz ≤ c.length) (hold : (c.drop off).take (n * sz) = old) (hfit : (n + m) * bytes ≤ 140737488355328) (h63 : n + m ≤ 9223372036854775807)
    (hk : ∀ b' e', RO E call ops base (i + 1) rest (put fr o.dst (.slice (some ⟨b', 0, none⟩) (n + m) (n + m))) (.blk b' (old ++ zeroRow z (m * sz)) el false :: .blk b c e true :: R) fun rs => K (.mem (fun g => evOp E (Opd fr) (base + i) g o) e' :: rs)) : ROC E call ops base i o rest fr L K :=
  ro_mem (by unfold callOf; rw [hop]) hw fun σ r ho => by
    subst hP hold hq
    have h1 : Own E σ (.blk b c e true :: .rsv (base + i) 1 :: r :: R) := (ho.perm ((hs.perm.cons r).cons _)).perm (((List.Perm.swap _ _ _).cons _).trans (List.Perm.swap _ _ _))
    have hg := h1.get .head
    obtain ⟨ti, hi⟩ : ∃ i, E.P.info? el = some i := by
      unfold sizeT at hsz
      cases hi : E.P.info? el with
      | none => simp [hi] at hsz
      | some i => exact ⟨i, rfl⟩
    have hisz : ti.size = sz := by simpa [sizeT, hi] using hsz
    subst hisz
    have hby2 : ti.bytes = bytes := by simpa [bytesT, hi] using hby
    subst hby2
    have hrd : rdRow E σ.heap.get ti.size n (.slice (some ⟨b, off, none⟩) n cap) = some ((c.drop off).take (n * ti.size)) := by
      by_cases hn : n = 0
      · subst hn; simp [rdRow]
      simp only [rdRow, hn, if_false, Nat.le_refl, if_true, rd, Option.isSome_none, Bool.false_eq_true, hg.1, hg.2]
      rw [if_pos hle]
    have hop2 : opens E σ.heap.get ⟨b, off, none⟩ cap el ti.size = some false := by
      simp only [opens, hg.1, if_false, hg.2, if_true]
    refine ⟨⟨.slice (some ⟨base + i, 0, none⟩) (n + m) (n + m), [(base + i, some (.cells ((c.drop off).take (n * ti.size) ++ zeroRow z (m * ti.size)) el false))], [b]⟩, .blk (base + i) ((c.drop off).take (n * ti.size) ++ zeroRow z (m * ti.size)) el false :: .blk b c e true :: R, ?_, ?_, hk _ _⟩
    · unfold evOp
      simp only [hop, hts, List.map_cons, List.map_nil, hx, hy, evBuiltin]
      unfold evAppend
      simp only [List.getElem?_toArray, List.getElem?_cons_zero, List.getElem?_cons_succ, Option.bind_some, hel, hu, isSlStr, Bool.not_false, if_true]
      unfold evAppendZ
      simp only [hi, hz, Int.toNat_natCast, hrd, hop2]
      rw [if_neg (by
        simp only [not_or]
        exact ⟨h0, by simp [hzs], by omega, by omega, by omega, by omega⟩)]
    · have h2 : Own E σ (.rsv (base + i) 1 :: r :: .blk b c e true :: R) := h1.perm ((List.Perm.swap _ _ _).trans ((List.Perm.swap _ _ _).cons _))
      exact (h2.alloc (c := (c.drop off).take (n * ti.size) ++ zeroRow z (m * ti.size)) (el := el) (ex := false)).perm (.refl _)
/-- copy within one block. -/
theorem ro_copyS {x y : Operand} {ts : Array TypeId} {t0 t1 el : TypeId} {b off dn dc soff sn sc m sz : Nat} {c new : List Value} {e : TypeId} {ex : Bool} (hw : Region.wanted o (yieldA ops fr) = true) (hop : o.op = .call { callee := .builtin .copy, args := #[x, y], argTypes := ts }) (hts : ts = #[t0, t1]) (hP : E.P = P) (hel : elemT P t0 = some el) (hsz : sizeT P el = some sz)
    (hx : Opd fr x = .slice (some ⟨b, off, none⟩) dn dc) (hy : Opd fr y = .slice (some ⟨b, soff, none⟩) sn sc) (hs : Sel L (.blk b c e ex) R) (hm : min sn dn = m) (h0 : 0 < m) (hle : off + m * sz ≤ c.length) (hsl : soff + m * sz ≤ c.length) (hnew : (c.drop soff).take (m * sz) = new) (hone : new.all oneCell = true)
    (hk : ∀ e', RO E call ops base (i + 1) rest (put fr o.dst (.int .i64 m)) (.blk b (wrList c off new) e ex :: R) fun rs => K (.mem (fun g => evOp E (Opd fr) (base + i) g o) e' :: rs)) : ROC E call ops base i o rest fr L K :=
  ro_mem (by unfold callOf; rw [hop]) hw fun σ r ho => by
    subst hP
    have h1 : Own E σ (.blk b c e ex :: r :: R) := (ho.tail.perm (hs.perm.cons r)).perm (List.Perm.swap _ _ _)
    have hg := h1.get .head
    have hlen : new.length = m * sz := by rw [← hnew, List.length_take, List.length_drop]; omega
    have hmin : Nat.min sn dn = m := hm
    have hms : m ≤ sn := by rw [← hm]; exact Nat.min_le_left _ _
    have hrd : rdRow E σ.heap.get sz m (.slice (some ⟨b, soff, none⟩) sn sc) = some new := by
      simp only [rdRow, (show m ≠ 0 by omega), if_false, hms, if_true, rd, Option.isSome_none, Bool.false_eq_true, hg.1, hg.2]
      rw [if_pos hsl, hnew]
    have hwr : wr E σ.heap.get ⟨b, off, none⟩ new = some (b, some (.cells (wrList c off new) e ex)) := by
      have hh : ¬ (((⟨b, off, none⟩ : Addr).spot.isSome || decide (b < E.old)) || !new.all oneCell) = true := by simp [hg.1]; simpa using hone
      unfold wr
      rw [if_neg hh]
      simp only [hg.2]
      rw [if_pos (by rw [hlen]; exact hle)]
    refine ⟨⟨.int .i64 m, [(b, some (.cells (wrList c off new) e ex))], [b, b]⟩, _, ?_, (h1.write (c' := wrList c off new)).perm (List.Perm.swap _ _ _), hk _⟩
    unfold evOp
    simp only [hop, hts, List.map_cons, List.map_nil, hx, hy, evBuiltin]
    unfold evCopy
    simp only [List.getElem?_toArray, List.getElem?_cons_zero, Option.bind_some, hel, hsz, lenV, hmin, hrd, (show m ≠ 0 by omega), if_false, hwr, blkOf]
/-- cap of a block that is known to its end. -/
theorem ro_cap {x : Operand} {ts : Array TypeId} {t0 el : TypeId} {b off n cap sz : Nat} {c : List Value} {e : TypeId} (hw : Region.wanted o (yieldA ops fr) = true) (hop : o.op = .call { callee := .builtin .cap, args := #[x], argTypes := ts }) (hts : ts = #[t0]) (hP : E.P = P) (hel : elemT P t0 = some el) (hsz : sizeT P el = some sz)
    (hx : Opd fr x = .slice (some ⟨b, off, none⟩) n cap) (hs : Sel L (.blk b c e true) R)
    (hk : RO E call ops base (i + 1) rest (put fr o.dst (.int .i64 cap)) L fun rs => K (.mem (fun g => evOp E (Opd fr) (base + i) g o) ⟨.int .i64 cap, [], [b]⟩ :: rs)) : ROC E call ops base i o rest fr L K :=
  ro_mem (by unfold callOf; rw [hop]) hw fun σ r ho => by
    subst hP
    have hg := ho.tail.tail.get hs
    refine ⟨⟨.int .i64 cap, [], [b]⟩, L, ?_, ho.tail, hk⟩
    unfold evOp
    simp only [hop, hts, List.map_cons, List.map_nil, hx, evBuiltin]
    unfold evCap
    simp only [List.getElem?_toArray, List.getElem?_cons_zero, Option.bind_some, hel, hsz, opens, hg.1, if_false, hg.2, if_true]
end
end Go.Ab
