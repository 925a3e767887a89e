/- Deleting within a row: in-place append, clear; rows opened to their blocks. -/
import Derived.Test.YtllffogcdeempaaFwZK
set_option linter.all false
open Go.RowKit
namespace Go.Ab
theorem del_eq {sz n i jj : Nat} {p c j Z : List Value} (hc : c.length = n * sz) (hi : i ≤ jj) (hj : jj ≤ n) (hZ : Z.length = (n - (i + (n - jj))) * sz) :
    wrList (wrList (p ++ (c ++ j)) (p.length + i * sz) (((p ++ (c ++ j)).drop (p.length + jj * sz)).take ((n - jj) * sz))) (p.length + (i + (n - jj)) * sz) Z = p ++ ((c.take (i * sz) ++ c.drop (jj * sz)) ++ (Z ++ j)) := by
  have e1 : n * sz = jj * sz + (n - jj) * sz := by rw [← Nat.add_mul]; congr 1; omega
  have e2 : n * sz = i * sz + (n - i) * sz := by rw [← Nat.add_mul]; congr 1; omega
  have e3 : (n - i) * sz = (n - jj) * sz + (n - (i + (n - jj))) * sz := by rw [← Nat.add_mul]; congr 1; omega
  have e4 : (i + (n - jj)) * sz = i * sz + (n - jj) * sz := Nat.add_mul _ _ _
  have hM : ((p ++ (c ++ j)).drop (p.length + jj * sz)).take ((n - jj) * sz) = c.drop (jj * sz) := by
    rw [List.drop_append, List.drop_eq_nil_of_le (by omega), List.nil_append, Nat.add_sub_cancel_left, List.drop_append_of_le_length (by omega), List.take_append_of_le_length (by rw [List.length_drop]; omega), List.take_of_length_le (by rw [List.length_drop]; omega)]
  rw [hM]
  have hs : p ++ (c ++ j) = (p ++ c.take (i * sz)) ++ (((c.drop (i * sz)).take ((n - jj) * sz)) ++ ((c.drop (i * sz + (n - jj) * sz)) ++ j)) := by
    rw [List.append_assoc]; congr 1
    rw [← List.append_assoc, ← List.append_assoc]; congr 1
    rw [← List.take_add, List.take_append_drop]
  rw [hs, wrList_mid (by rw [List.length_append, List.length_take]; omega) (by rw [List.length_take, List.length_drop, List.length_drop]; omega), ← List.append_assoc, wrList_mid (by rw [List.length_append, List.length_append, List.length_take, List.length_drop]; omega) (by rw [List.length_drop]; omega)]
  simp only [List.append_assoc]
theorem del_end {sz n i : Nat} {p c j Z : List Value} (hc : c.length = n * sz) (hi : i ≤ n) (hZ : Z.length = (n - i) * sz) :
    wrList (p ++ (c ++ j)) (p.length + i * sz) Z = p ++ (c.take (i * sz) ++ (Z ++ j)) := by
  have e2 : n * sz = i * sz + (n - i) * sz := by rw [← Nat.add_mul]; congr 1; omega
  have hs : p ++ (c ++ j) = (p ++ c.take (i * sz)) ++ (c.drop (i * sz) ++ j) := by
    rw [List.append_assoc]; congr 1
    rw [← List.append_assoc, List.take_append_drop]
  rw [hs, wrList_mid (by rw [List.length_append, List.length_take]; omega) (by rw [List.length_drop]; omega), List.append_assoc]
theorem zeroRow_one {z : Array Value} {n : Nat} (h : z.toList.all oneCell = true) : (zeroRow z n).all oneCell = true := by
  rw [List.all_eq_true] at h ⊢
  intro v hv
  unfold zeroRow at hv
  split at hv
  · rename_i h1
    have := (List.mem_replicate.1 hv).2
    subst this
    refine h _ ?_
    rw [Array.getD_eq_getD_getElem?]
    simp [h1]
  · rw [List.mem_map] at hv
    obtain ⟨i, hi, rfl⟩ := hv
    rw [List.mem_range] at hi
    by_cases hz : z.size = 0
    · have : z = #[] := Array.eq_empty_of_size_eq_zero hz
      subst this
      rfl
    · have hlt : i % z.size < z.size := Nat.mod_lt _ (by omega)
      refine h _ ?_
      rw [getElem!_pos z (i % z.size) hlt]
      simp
section
variable {E : Env} {call : CallF} {ops : List Oper} {base i : Nat} {o : Oper} {rest : List Oper} {fr fr' : List Value} {L L' R : List Res} {K : List Rec → List Value → St → Prop} {P : Program}
/-- A slice of the nil slice, with three indexes. -/
theorem ro_slN3 {t e' : TypeId} {x : Operand} {lo : Option Operand} {hi mx : Operand} {n h l m : Nat} {vl : Option Value} {vh vm : Value} (hw : Region.wanted o (yieldA ops fr) = true) (hop : o.op = .slice t x lo (some hi) (some mx)) (hP : E.P = P) (hu : P.underlying t = some (.slice e')) (hz : sizeT P e' = some n)
    (hx : Opd fr x = .slice none 0 0) (hlo : lo.map (Opd fr) = vl) (hhi : Opd fr hi = vh) (hmx : Opd fr mx = vm) (bm : bound? (some vm) 0 0 = some m) (bh : bound? (some vh) 0 0 = some h) (bl : bound? vl 0 0 = some l)
    (hk : RO E call ops base (i + 1) rest (put fr o.dst (.slice none 0 0)) L fun rs => K (.mem (fun g => evOp E (Opd fr) (base + i) g o) ⟨.slice none 0 0, [], []⟩ :: rs)) : ROC E call ops base i o rest fr L K :=
  ro_mem (by unfold callOf; rw [hop]) hw fun σ r ho => by
    subst hP
    refine ⟨⟨.slice none 0 0, [], []⟩, L, ?_, ho.tail, hk⟩
    unfold evOp
    simp only [hop, hx, hlo, hhi, hmx, Option.map_some]
    unfold evSlice
    simp only [hu, hz, bm, bh, bl]
/-- append of a part of the same block, where there is room. -/
theorem ro_appS {x y : Operand} {ts : Array TypeId} {t0 t1 el : TypeId} {sz bytes b off soff n cap m sc : Nat} {c new : List Value} {e : TypeId} {ex : Bool} (hw : Region.wanted o (yieldA ops fr) = true) (hop : o.op = .call { callee := .builtin .append, args := #[x, y], argTypes := ts }) (hts : ts = #[t0, t1]) (hP : E.P = P) (ht : AppT P t0 t1 el sz bytes)
    (hx : Opd fr x = .slice (some ⟨b, off, none⟩) n cap) (hy : Opd fr y = .slice (some ⟨b, soff, none⟩) m sc) (hs : Sel L (.blk b c e ex) R) (hm : 0 < m) (hroom : n + m ≤ cap) (hle : off + cap * sz ≤ c.length) (hsl : soff + m * sz ≤ c.length) (hnew : (c.drop soff).take (m * sz) = new) (hone : new.all oneCell = true)
    (hk : ∀ e', RO E call ops base (i + 1) rest (put fr o.dst (.slice (some ⟨b, off, none⟩) (n + m) cap)) (.blk b (wrList c (off + n * sz) new) e ex :: R) fun rs => K (.mem (fun g => evOp E (Opd fr) (base + i) g o) e' :: rs)) : ROC E call ops base i o rest fr L K :=
  ro_mem (by unfold callOf; rw [hop]) hw fun σ r ho => by
    subst hP
    have h1 : Own E σ (.blk b c e ex :: r :: R) := (ho.tail.perm (hs.perm.cons r)).perm (List.Perm.swap _ _ _)
    have hg := h1.get .head
    obtain ⟨d, hd1, hd2⟩ := ht.un
    obtain ⟨z, hz1, hz2⟩ := ht.ze
    obtain ⟨ti, hi⟩ : ∃ i, E.P.info? el = some i := by
      have := ht.szT
      unfold sizeT at this
      cases hi : E.P.info? el with
      | none => simp [hi] at this
      | some i => exact ⟨i, rfl⟩
    have hisz : ti.size = sz := by simpa [sizeT, hi] using ht.szT
    subst hisz
    have hmul : (n + m) * ti.size ≤ cap * ti.size := Nat.mul_le_mul_right _ hroom
    rw [Nat.add_mul] at hmul
    have hln : new.length = m * ti.size := by rw [← hnew, List.length_take, List.length_drop]; omega
    have hrd : rdRow E σ.heap.get ti.size m (.slice (some ⟨b, soff, none⟩) m sc) = some new := by
      simp only [rdRow, (show m ≠ 0 by omega), if_false, Nat.le_refl, if_true, rd, Option.isSome_none, Bool.false_eq_true, hg.1, hg.2]
      rw [if_pos hsl, hnew]
    have hwr : wr E σ.heap.get ⟨b, off + n * ti.size, none⟩ new = some (b, some (.cells (wrList c (off + n * ti.size) new) e ex)) := by
      have hh : ¬ (((⟨b, off + n * ti.size, none⟩ : Addr).spot.isSome || decide (b < E.old)) || !new.all oneCell) = true := by simp [hg.1]; simpa using hone
      unfold wr
      rw [if_neg hh]
      simp only [hg.2]
      rw [if_pos (by rw [hln]; omega)]
    have hc0 : ¬ (ti.size = 0 ∨ z.size ≠ ti.size ∨ strOk (.slice (some ⟨b, soff, none⟩) m sc) ti.size = false) := by
      have := ht.ne
      simp [this, hz2, strOk]
    refine ⟨⟨.slice (some ⟨b, off, none⟩) (n + m) cap, [(b, some (.cells (wrList c (off + n * ti.size) new) e ex))], b :: blkOf (.slice (some ⟨b, soff, none⟩) m sc)⟩, _, ?_, (h1.write (c' := wrList c (off + n * ti.size) new)).perm (List.Perm.swap _ _ _), hk _⟩
    unfold evOp
    simp only [hop, hts, List.map_cons, List.map_nil, hx, hy, evBuiltin]
    unfold evAppend
    simp only [List.getElem?_toArray, List.getElem?_cons_zero, List.getElem?_cons_succ, Option.bind_some, ht.elT, hd1, hd2, hi, hz1, lenV, hc0, hrd, Bool.not_true, Bool.false_eq_true, if_false, if_pos hroom, if_neg (show ¬ m = 0 by omega), Option.isSome_none, hwr]
/-- append of nothing. -/
theorem ro_app0 {x y : Operand} {ts : Array TypeId} {t0 t1 el : TypeId} {sz bytes n cap m sc : Nat} {a : Option Addr} {ba : Option Addr} (hw : Region.wanted o (yieldA ops fr) = true) (hop : o.op = .call { callee := .builtin .append, args := #[x, y], argTypes := ts }) (hts : ts = #[t0, t1]) (hP : E.P = P) (ht : AppT P t0 t1 el sz bytes)
    (hx : Opd fr x = .slice ba n cap) (hy : Opd fr y = .slice a m sc) (hm : m = 0) (hroom : n ≤ cap)
    (hk : ∀ e', RO E call ops base (i + 1) rest (put fr o.dst (.slice ba n cap)) L fun rs => K (.mem (fun g => evOp E (Opd fr) (base + i) g o) e' :: rs)) : ROC E call ops base i o rest fr L K :=
  ro_mem (by unfold callOf; rw [hop]) hw fun σ r ho => by
    subst hP hm
    obtain ⟨d, hd1, hd2⟩ := ht.un
    obtain ⟨z, hz1, hz2⟩ := ht.ze
    obtain ⟨ti, hi⟩ : ∃ i, E.P.info? el = some i := by
      have := ht.szT
      unfold sizeT at this
      cases hi : E.P.info? el with
      | none => simp [hi] at this
      | some i => exact ⟨i, rfl⟩
    have hisz : ti.size = sz := by simpa [sizeT, hi] using ht.szT
    subst hisz
    have hrd : rdRow E σ.heap.get ti.size 0 (.slice a 0 sc) = some [] := by cases a <;> simp [rdRow]
    have hlv : lenV (.slice a 0 sc) = some 0 := by cases a <;> rfl
    have hc0 : ¬ (ti.size = 0 ∨ z.size ≠ ti.size ∨ strOk (.slice a 0 sc) ti.size = false) := by
      have := ht.ne
      simp [this, hz2, strOk]
    refine ⟨⟨.slice ba n cap, [], blkOf (.slice a 0 sc)⟩, L, ?_, ho.tail, hk _⟩
    unfold evOp
    simp only [hop, hts, List.map_cons, List.map_nil, hx, hy, evBuiltin]
    unfold evAppend
    simp only [List.getElem?_toArray, List.getElem?_cons_zero, List.getElem?_cons_succ, Option.bind_some, ht.elT, hd1, hd2, hi, hz1, hlv, hc0, hrd, Bool.not_true, Bool.false_eq_true, if_false, Nat.add_zero, if_pos hroom, if_true]
/-- clear. -/
theorem ro_clear {x : Operand} {ts : Array TypeId} {t0 el : TypeId} {b off n cap sz : Nat} {z : Array Value} {c : List Value} {e : TypeId} {ex : Bool} (hw : Region.wanted o (yieldA ops fr) = true) (hop : o.op = .call { callee := .builtin .clear, args := #[x], argTypes := ts }) (hts : ts = #[t0]) (hP : E.P = P) (hel : elemT P t0 = some el) (hsz : sizeT P el = some sz) (hz : zeroCells? P el = some z) (hzs : z.size = sz) (h0 : sz ≠ 0)
    (hx : Opd fr x = .slice (some ⟨b, off, none⟩) n cap) (hs : Sel L (.blk b c e ex) R) (hn : 0 < n) (hle : off + n * sz ≤ c.length) (hone : (zeroRow z (n * sz)).all oneCell = true)
    (hk : ∀ e', RO E call ops base (i + 1) rest (put fr o.dst (.tuple #[])) (.blk b (wrList c off (zeroRow z (n * sz))) e ex :: R) fun rs => K (.mem (fun g => evOp E (Opd fr) (base + i) g o) e' :: rs)) : ROC E call ops base i o rest fr L K :=
  ro_mem (by unfold callOf; rw [hop]) hw fun σ r ho => by
    subst hP hzs
    have h1 : Own E σ (.blk b c e ex :: r :: R) := (ho.tail.perm (hs.perm.cons r)).perm (List.Perm.swap _ _ _)
    have hg := h1.get .head
    have hwr : wr E σ.heap.get ⟨b, off, none⟩ (zeroRow z (n * z.size)) = some (b, some (.cells (wrList c off (zeroRow z (n * z.size))) e ex)) := by
      have hh : ¬ (((⟨b, off, none⟩ : Addr).spot.isSome || decide (b < E.old)) || !(zeroRow z (n * z.size)).all oneCell) = true := by simp [hg.1]; simpa using hone
      unfold wr
      rw [if_neg hh]
      simp only [hg.2]
      rw [if_pos (by rw [zeroRow_ln]; exact hle)]
    refine ⟨⟨.tuple #[], [(b, some (.cells (wrList c off (zeroRow z (n * z.size))) e ex))], [b]⟩, _, ?_, (h1.write (c' := wrList c off (zeroRow z (n * z.size)))).perm (List.Perm.swap _ _ _), hk _⟩
    unfold evOp
    simp only [hop, hts, List.map_cons, List.map_nil, hx, evBuiltin]
    unfold evClear
    simp only [List.getElem?_toArray, List.getElem?_cons_zero, Option.bind_some, hel, hsz, hz, (show n ≠ 0 by omega), if_false, ne_eq, h0, not_false_eq_true, and_self, if_true, hwr]
end
theorem o_sel {E : Env} {L R : List Res} {r : Res} {G : St → Prop} (hs : Sel L r R) (h : O E (r :: R) G) : O E L G := fun σ ho => h σ (ho.sel hs)
theorem o_nilR {E : Env} {R : List Res} {n sz : Nat} {s : Value} {c : List Value} {e : TypeId} {G : St → Prop} (hn : n = 0) (hx : O E (.row 0 (.slice none 0 0) n c e sz :: .row 0 s n c e sz :: R) G) : O E (.row 0 s n c e sz :: R) G := by
  subst hn
  intro σ ho
  have hl := (ho.row .head).1
  have hc : c = [] := List.length_eq_zero_iff.1 (by rw [hl, Nat.zero_mul])
  subst hc
  exact o_nilrow hx σ ho
/-- A row opened to its block. -/
theorem o_open {E : Env} {L R : List Res} {s : Value} {n : Nat} {c : List Value} {e : TypeId} {sz : Nat} {G : St → Prop} (hs : Sel L (.row 0 s n c e sz) R)
    (h0 : s = .slice none 0 0 → n = 0 → c = [] → O E L G)
    (h1 : ∀ b p m j x, s = .slice (some ⟨b, p.length, none⟩) n (n + m) → j.length = m * sz → c.length = n * sz → O E (.blk b (p ++ (c ++ j)) e x :: R) G) : O E L G := by
  intro σ ho
  obtain ⟨hl, h⟩ := ho.row hs
  rcases h with ⟨hs0, hn⟩ | ⟨b, p, m, j, x, hsl, hj, hg⟩
  · exact h0 hs0 hn (List.length_eq_zero_iff.1 (by rw [hl, hn, Nat.zero_mul])) σ ho
  · refine h1 b p m j x hsl hj hl σ ?_
    have ho2 := ho.sel hs
    subst hsl
    refine Own.upd (A := [.row 0 (.slice (some ⟨b, p.length, none⟩) n (n + m)) n c e sz]) (A' := [.blk b (p ++ (c ++ j)) e x]) (h' := σ.heap) ho2 (by simp [idsL, Res.ids]) (fun k hk => by simpa [idsL, Res.ids, rowBlk] using hk) (fun r hr => ?_) (fun _ _ => rfl)
    simp only [List.mem_singleton] at hr
    subst hr
    exact hg
/-- .. and closed. -/
theorem o_close {E : Env} {L R : List Res} {b : Nat} {p c j : List Value} {n m : Nat} {e : TypeId} {x : Bool} {sz : Nat} {X : List Value} {G : St → Prop} (hs : Sel L (.blk b X e x) R) (hX : X = p ++ (c ++ j)) (hc : c.length = n * sz) (hj : j.length = m * sz)
    (h1 : O E (.row 0 (.slice (some ⟨b, p.length, none⟩) n (n + m)) n c e sz :: R) G) : O E L G := by
  subst hX
  intro σ ho
  have ho2 := ho.sel hs
  have hg := (ho2.get .head).2
  refine h1 σ ?_
  refine Own.upd (A := [.blk b (p ++ (c ++ j)) e x]) (A' := [.row 0 (.slice (some ⟨b, p.length, none⟩) n (n + m)) n c e sz]) (h' := σ.heap) ho2 (by simp [idsL, Res.ids, rowBlk]) (fun k hk => by simpa [idsL, Res.ids, rowBlk] using hk) (fun r hr => ?_) (fun _ _ => rfl)
  simp only [List.mem_singleton] at hr
  subst hr
  exact ⟨hc, .inr ⟨b, p, m, j, x, rfl, hj, hg⟩⟩
end Go.Ab
