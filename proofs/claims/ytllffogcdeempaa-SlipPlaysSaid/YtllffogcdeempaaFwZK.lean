/- slices.Insert at a row. -/
import Derived.Test.YtllffogcdeempaaFwZJ
set_option linter.all false
open Go.RowKit
namespace Go.Ab

/-- A row with room to it, or the nil slice. -/
def capOk : Value → Prop
  | .slice none 0 0 => True
  | .slice (some _) _ c => c ≠ 0
  | _ => False

theorem insG_row {sz : Nat} {p c j new : List Value} {n i : Nat} (hc : c.length = n * sz) (hi : i ≤ n) : insG sz (p ++ (c ++ j)) new p.length n i = c.take (i * sz) ++ (new ++ c.drop (i * sz)) := by
  have e1 : n * sz = i * sz + (n - i) * sz := by rw [← Nat.add_mul]; congr 1; omega
  unfold insG
  rw [List.drop_left, List.drop_append, List.drop_eq_nil_of_le (by omega), List.nil_append, Nat.add_sub_cancel_left, List.take_append_of_le_length (by omega), List.drop_append_of_le_length (by omega), List.take_append_of_le_length (by rw [List.length_drop]; omega), List.take_of_length_le (l := c.drop (i * sz)) (by rw [List.length_drop]; omega)]
theorem insC_row {sz : Nat} {p c j new : List Value} {n i : Nat} (hc : c.length = n * sz) (hi : i ≤ n) : insC sz (p ++ (c ++ j)) new p.length n i = p ++ ((c.take (i * sz) ++ (new ++ c.drop (i * sz))) ++ j.drop sz) := by
  rw [insC_split, insG_row hc hi, List.take_left]
  congr 2
  rw [List.drop_append, List.drop_eq_nil_of_le (by omega), List.nil_append, Nat.add_sub_cancel_left, Nat.succ_mul, List.drop_append, List.drop_eq_nil_of_le (by omega), List.nil_append]
  congr 1; omega

theorem own_ins {E : Env} {σ : St} {R : List Res} {s : Value} {n i sz vb voff vc : Nat} {c new cv : List Value} {el ev : TypeId} (ho : Own E σ (.row 0 s n c el sz :: .blk vb cv ev true :: R)) (hi : i ≤ n) (hc : capOk s) (hu8 : isU8 E.P ev = false) (hn : n ≤ 1000000) (hv : voff + sz ≤ cv.length) (hvc : 0 < vc)
    (hcv : cv.all oneCell = true) (hco : c.all oneCell = true) (hnew : (cv.drop voff).take sz = new) :
    ∃ s' σ', sIns E.P el sz [s, .int .i64 (i : Int), .slice (some ⟨vb, voff, none⟩) 1 vc] σ = some (s', σ') ∧ capOk s' ∧ Own E σ' (.row 0 s' (n + 1) (c.take (i * sz) ++ (new ++ c.drop (i * sz))) el sz :: .blk vb cv ev true :: R) := by
  subst hnew
  have hvb := (ho.get (.tail .head)).2
  obtain ⟨hlen, hrow⟩ := ho.row .head
  have hb1 := (ho.begin (m := 1)).perm (List.Perm.refl _)
  have hnl : ((cv.drop voff).take sz).length = sz := by rw [List.length_take, List.length_drop]; omega
  have hnd := hb1.nodup
  have e1 : n * sz = i * sz + (n - i) * sz := by rw [← Nat.add_mul]; congr 1; omega
  have e2 : (n + 1) * sz = n * sz + sz := Nat.succ_mul _ _
  rcases hrow with ⟨rfl, rfl⟩ | ⟨b, p, m, j, x, rfl, hj, hg⟩
  · obtain rfl : i = 0 := by omega
    have hc0 : c = [] := List.length_eq_zero_iff.1 (by omega)
    subst hc0
    refine ⟨.slice (some ⟨σ.next, 0, none⟩) 1 1, ⟨(σ.heap.set σ.next none).set σ.next (some (.cells ((cv.drop voff).take sz) el false)), σ.next + 1⟩, ?_, ?_, ?_⟩
    · show sIns E.P el sz [.slice none 0 0, .int .i64 0, .slice (some ⟨vb, voff, none⟩) 1 vc] σ = _
      unfold sIns
      simp only [hvb]
      rw [if_neg (by simp [hcv]; omega)]
    · simp [capOk]
    · refine Own.upd (A := [.rsv σ.next 1, .row 0 (.slice none 0 0) 0 [] el sz]) (A' := [.row 0 (.slice (some ⟨σ.next, 0, none⟩) 1 1) (0 + 1) (([] : List Value).take (0 * sz) ++ ((cv.drop voff).take sz ++ ([] : List Value).drop (0 * sz))) el sz]) (σ := ⟨σ.heap, σ.next + 1⟩) hb1 ?_ ?_ ?_ ?_
      · simp [idsL, Res.ids, rowBlk]
      · intro k hk
        simp [idsL, Res.ids, rowBlk] at hk ⊢
        exact hk
      · intro r hr
        simp only [List.mem_singleton] at hr
        subst hr
        refine ⟨by simp only [Nat.zero_mul, List.take_nil, List.drop_nil, List.nil_append, List.append_nil, hnl]; omega, .inr ⟨σ.next, [], 0, [], false, rfl, by simp, ?_⟩⟩
        rw [T.get_set_self]
        simp
      · intro k hk
        simp [idsL, Res.ids, rowBlk] at hk
        simp only
        rw [T.get_set_ne _ _ _ _ hk, T.get_set_ne _ _ _ _ hk]
  · have hbv : b ≠ vb := by
      have := ho.nodup
      simp [idsL, Res.ids, rowBlk] at this
      exact this.1.1
    have hbn : b < σ.next := (ho.lt b (by simp [idsL, Res.ids, rowBlk])).2
    have hcap : n + m ≠ 0 := hc
    have hnm : (n + m) * sz = n * sz + m * sz := Nat.add_mul _ _ _
    have hcond : ¬ ((⟨vb, voff, none⟩ : Addr).spot.isSome = true ∨ cv.length < voff + sz ∨ isU8 E.P ev = true ∨ 1 ≠ 1 ∨ vc = 0 ∨ (i : Int) < 0 ∨ (n : Int) < (i : Int) ∨ 1000000 < n ∨ cv.all oneCell = false ∨ el ≠ el ∨ b = vb ∨ (p ++ (c ++ j)).length < p.length + (n + m) * sz ∨ (x = false ∧ (p ++ (c ++ j)).length ≠ p.length + (n + m) * sz) ∨ n + m < n ∨ n + m = 0 ∨ (((p ++ (c ++ j)).drop p.length).take (n * sz)).all oneCell = false) := by
      rw [List.drop_left, List.take_append_of_le_length (by omega), List.take_of_length_le (by omega), hco, hcv, hu8]
      simp only [List.length_append, Option.isSome_none, Bool.false_eq_true, Bool.true_eq_false, false_or, or_false, ne_eq, not_true_eq_false]
      omega
    have hupd : ∀ (s' : Value) (c' : List Value) (x' : Bool), rowBlk s' = some σ.next → RowOk E ((σ.heap.set b none).set σ.next (some (.cells c' el x'))).get 0 s' (n + 1) (c.take (i * sz) ++ ((cv.drop voff).take sz ++ c.drop (i * sz))) el sz →
        Own E ⟨(σ.heap.set b none).set σ.next (some (.cells c' el x')), σ.next + 1⟩ (.row 0 s' (n + 1) (c.take (i * sz) ++ ((cv.drop voff).take sz ++ c.drop (i * sz))) el sz :: .blk vb cv ev true :: R) := by
      intro s' c' x' h1 h2
      refine Own.upd (A := [.rsv σ.next 1, .row 0 (.slice (some ⟨b, p.length, none⟩) n (n + m)) n c el sz]) (A' := [.row 0 s' (n + 1) (c.take (i * sz) ++ ((cv.drop voff).take sz ++ c.drop (i * sz))) el sz]) (σ := ⟨σ.heap, σ.next + 1⟩) hb1 ?_ ?_ ?_ ?_
      · simp [idsL, Res.ids, h1]
      · intro k hk
        have hk2 : k = σ.next := by
          simp only [idsL, List.flatMap_cons, List.flatMap_nil, Res.ids, h1, if_true, Option.toList_some, List.append_nil, List.mem_singleton] at hk
          exact hk
        subst hk2
        simp [idsL, Res.ids]
      · intro r hr
        simp only [List.mem_singleton] at hr
        subst hr
        exact h2
      · intro k hk
        simp [idsL, Res.ids, rowBlk] at hk
        simp only
        rw [T.get_set_ne _ _ _ _ hk.1, T.get_set_ne _ _ _ _ hk.2]
    have hcl : (c.take (i * sz) ++ ((cv.drop voff).take sz ++ c.drop (i * sz))).length = (n + 1) * sz := by
      simp only [List.length_append, hnl, List.length_take, List.length_drop]; omega
    by_cases hroom : n + 1 ≤ n + m
    · have hm1 : m * sz = sz + (m - 1) * sz := by
        rw [show m = (m - 1) + 1 by omega, Nat.succ_mul, Nat.add_sub_cancel]; omega
      refine ⟨.slice (some ⟨σ.next, p.length, none⟩) (n + 1) (n + m), ⟨(σ.heap.set b none).set σ.next (some (.cells (p ++ ((c.take (i * sz) ++ ((cv.drop voff).take sz ++ c.drop (i * sz))) ++ j.drop sz)) el x)), σ.next + 1⟩, ?_, ?_, hupd _ _ _ ?_ ⟨hcl, .inr ⟨σ.next, p, m - 1, j.drop sz, x, by rw [show n + 1 + (m - 1) = n + m by omega], by rw [List.length_drop]; omega, T.get_set_self _ _ _⟩⟩⟩
      · unfold sIns
        simp only [hvb, hg]
        rw [if_neg hcond, if_pos hroom, Int.toNat_natCast, insC_row hlen hi]
      · show n + m ≠ 0
        omega
      · rfl
    · have hm0 : m = 0 := by omega
      refine ⟨.slice (some ⟨σ.next, 0, none⟩) (n + 1) (n + 1), ⟨(σ.heap.set b none).set σ.next (some (.cells (c.take (i * sz) ++ ((cv.drop voff).take sz ++ c.drop (i * sz))) el false)), σ.next + 1⟩, ?_, ?_, hupd _ _ _ ?_ ⟨hcl, .inr ⟨σ.next, [], 0, [], false, rfl, by simp, by rw [T.get_set_self]; simp⟩⟩⟩
      · unfold sIns
        simp only [hvb, hg]
        rw [if_neg hcond, if_neg hroom, Int.toNat_natCast, insG_row hlen hi]
      · show n + 1 ≠ 0
        omega
      · rfl

/-- A call of Insert, by its entry. -/
theorem of_ins {E : Env} {P : Program} {k d : Nat} {t : Tbl} {f : FuncId} {L R : List Res} {Q : Value → St → Prop} {s w iv : Value} {n i sz vb voff vc : Nat} {c new cv : List Value} {el ev : TypeId} (hP : E.P = P)
    (hcall : ∀ args σ, WCall (evFunT E t k d) f args σ Q = bindV (sIns P el sz args σ) fun x => Q x.1 x.2)
    (hw : w = .slice (some ⟨vb, voff, none⟩) 1 vc) (hiv : iv = .int .i64 (i : Int)) (hs : ∃ R', Sel L (.row 0 s n c el sz) R' ∧ Sel R' (.blk vb cv ev true) R) (hi : i ≤ n) (hc : capOk s) (hu8 : isU8 P ev = false) (hn : n ≤ 1000000) (hv : voff + sz ≤ cv.length) (hvc : 0 < vc)
    (hcv : cv.all oneCell = true) (hco : c.all oneCell = true) (hnew : (cv.drop voff).take sz = new)
    (hx : ∀ s', capOk s' → O E (.row 0 s' (n + 1) (c.take (i * sz) ++ (new ++ c.drop (i * sz))) el sz :: .blk vb cv ev true :: R) (Q s')) : OFun f E t k d [s, iv, w] L Q := by
  subst hP hw hiv
  obtain ⟨R', h1, h2⟩ := hs
  intro σ ho
  show WCall _ _ _ _ _
  rw [hcall]
  have h3 : Own E σ (.row 0 s n c el sz :: .blk vb cv ev true :: R) := (ho.sel h1).perm (h2.perm.cons _)
  obtain ⟨s', σ', g1, g2, g3⟩ := own_ins h3 hi hc hu8 hn hv hvc hcv hco hnew
  exact ⟨(s', σ'), g1, hx s' g2 σ' g3⟩
/-- A call of overlaps, by its entry. -/
theorem of_ov {E : Env} {P : Program} {k d : Nat} {t : Tbl} {f : FuncId} {L R : List Res} {Q : Value → St → Prop} {a b oa ob la lb ka kb : Nat} {ca cb : List Value} {ea eb : TypeId} {xa xb : Bool} (hP : E.P = P)
    (hcall : ∀ args σ, WCall (evFunT E t k d) f args σ Q = bindV (sOv P args σ) fun x => Q x.1 x.2)
    (hs : ∃ R', Sel L (.blk a ca ea xa) R' ∧ Sel R' (.blk b cb eb xb) R) (hla : la ≠ 0) (hlb : lb ≠ 0) (hcb : cb.length ≠ 0) (hu8 : isU8 P ea = false)
    (hx : O E L (Q (.bool false))) : OFun f E t k d [.slice (some ⟨a, oa, none⟩) la ka, .slice (some ⟨b, ob, none⟩) lb kb] L Q := by
  subst hP
  obtain ⟨R', h1, h2⟩ := hs
  intro σ ho
  show WCall _ _ _ _ _
  rw [hcall]
  have h3 : Own E σ (.blk a ca ea xa :: .blk b cb eb xb :: R) := (ho.sel h1).perm (h2.perm.cons _)
  have hab : a ≠ b := by
    have := h3.nodup
    simp [idsL, Res.ids] at this
    exact this.1.1
  have g1 := (h3.get .head).2
  have g2 := (h3.get (.tail .head)).2
  refine ⟨(.bool false, σ), ?_, hx σ ho⟩
  unfold sOv
  simp only
  rw [if_neg (by simp [hab, hla, hlb])]
  simp only [g1, g2]
  rw [if_neg (by simp [hcb, hu8])]
theorem zeroRow_ln {z : Array Value} {n : Nat} : (zeroRow z n).length = n := by unfold zeroRow; split <;> simp
theorem wrList_ln {c vs : List Value} {q : Nat} : (wrList c q vs).length = min q c.length + (vs.length + (c.length - (q + vs.length))) := by simp [wrList]
theorem wrList_mid {A B C vs : List Value} {q : Nat} (hA : A.length = q) (hB : B.length = vs.length) : wrList (A ++ (B ++ C)) q vs = A ++ (vs ++ C) := by
  subst hA
  unfold wrList
  rw [List.take_left, List.drop_append, List.drop_eq_nil_of_le (by omega), List.nil_append, Nat.add_sub_cancel_left, ← hB, List.drop_left]
theorem insC_end {sz : Nat} {X new : List Value} {off n : Nat} (hn : new.length = sz) : wrList X (off + n * sz) new = insC sz X new off n n := by
  unfold insC wrList
  rw [Nat.sub_self, Nat.zero_mul, List.take_zero, List.nil_append, hn, Nat.succ_mul, Nat.add_assoc]
theorem insG_end {sz : Nat} {X new : List Value} {off n : Nat} : (X.drop off).take (n * sz) ++ new = insG sz X new off n n := by
  unfold insG
  rw [Nat.sub_self, Nat.zero_mul, List.take_zero, List.append_nil]
theorem insG_eq {sz : Nat} {X new Z : List Value} {off n i : Nat} (hi : i < n) (hn : new.length = sz) (hX : off + n * sz ≤ X.length) (hZ : Z.length = (n + 1 - i) * sz) :
    wrList (wrList ((X.drop off).take (i * sz) ++ Z) (i * sz) new) ((i + 1) * sz) ((X.drop (off + i * sz)).take ((n - i) * sz)) = insG sz X new off n i := by
  have e1 : n * sz = i * sz + (n - i) * sz := by rw [← Nat.add_mul]; congr 1; omega
  have e2 : (i + 1) * sz = i * sz + sz := Nat.succ_mul _ _
  have e3 : (n + 1 - i) * sz = sz + (n - i) * sz := by rw [show n + 1 - i = (n - i) + 1 by omega, Nat.succ_mul]; omega
  have hA : ((X.drop off).take (i * sz)).length = i * sz := by rw [List.length_take, List.length_drop]; omega
  have h1 : Z = Z.take sz ++ (Z.drop sz ++ []) := by rw [List.append_nil, List.take_append_drop]
  rw [h1, wrList_mid hA (by rw [List.length_take]; omega), ← List.append_assoc, wrList_mid (by rw [List.length_append]; omega) (by rw [List.length_drop, List.length_take, List.length_drop]; omega)]
  unfold insG
  rw [List.append_nil, List.append_assoc]
theorem insC_eq {sz : Nat} {X new : List Value} {off n i : Nat} (hi : i < n) (hn : new.length = sz) (hX : off + (n + 1) * sz ≤ X.length) :
    wrList (wrList X (off + (i + 1) * sz) ((X.drop (off + i * sz)).take ((n + 1 - (i + 1)) * sz))) (off + i * sz) new = insC sz X new off n i := by
  have e1 : n * sz = i * sz + (n - i) * sz := by rw [← Nat.add_mul]; congr 1; omega
  have e2 : (i + 1) * sz = i * sz + sz := Nat.succ_mul _ _
  have e4 : (n + 1) * sz = n * sz + sz := Nat.succ_mul _ _
  have h0 : n + 1 - (i + 1) = n - i := by omega
  rw [h0]
  have hM : ((X.drop (off + i * sz)).take ((n - i) * sz)).length = (n - i) * sz := by rw [List.length_take, List.length_drop]; omega
  have h1 : wrList X (off + (i + 1) * sz) ((X.drop (off + i * sz)).take ((n - i) * sz)) = X.take (off + i * sz) ++ ((X.drop (off + i * sz)).take sz ++ (((X.drop (off + i * sz)).take ((n - i) * sz)) ++ X.drop (off + (n + 1) * sz))) := by
    unfold wrList
    rw [hM, show off + (i + 1) * sz = off + i * sz + sz by omega, List.take_add, List.append_assoc]
    congr 4; omega
  rw [h1, wrList_mid (by rw [List.length_take]; omega) (by rw [List.length_take, List.length_drop]; omega)]
  rfl
section
variable {E : Env} {call : CallF} {ops : List Oper} {base i : Nat} {o : Oper} {rest : List Oper} {fr fr' : List Value} {L L' R : List Res} {K : List Rec → List Value → St → Prop} {P : Program}
/-- A slice of the nil slice. -/
theorem ro_slN {t e' : TypeId} {x : Operand} {lo hi : Option Operand} {n h l : Nat} {vl vh : Option Value} (hw : Region.wanted o (yieldA ops fr) = true) (hop : o.op = .slice t x lo hi none) (hP : E.P = P) (hu : P.underlying t = some (.slice e')) (hz : sizeT P e' = some n)
    (hx : Opd fr x = .slice none 0 0) (hlo : lo.map (Opd fr) = vl) (hhi : hi.map (Opd fr) = vh) (bh : bound? vh 0 0 = some h) (bl : bound? vl 0 0 = some l)
    (hk : RO E call ops base (i + 1) rest (put fr o.dst (.slice none 0 0)) L fun rs => K (.mem (fun g => evOp E (Opd fr) (base + i) g o) ⟨.slice none 0 0, [], []⟩ :: rs)) : ROC E call ops base i o rest fr L K :=
  ro_mem (by unfold callOf; rw [hop]) hw fun σ r ho => by
    subst hP
    refine ⟨⟨.slice none 0 0, [], []⟩, L, ?_, ho.tail, hk⟩
    unfold evOp
    simp only [hop, hx, hlo, hhi, Option.map_none]
    unfold evSlice
    simp only [hu, hz, bh, bl]
/-- append to the nil slice. -/
theorem ro_appN {x y : Operand} {ts : Array TypeId} {t0 t1 el : TypeId} {sz bytes m : Nat} {ys : Value} {new : List Value} (hw : Region.wanted o (yieldA ops fr) = true) (hop : o.op = .call { callee := .builtin .append, args := #[x, y], argTypes := ts }) (hts : ts = #[t0, t1]) (hP : E.P = P) (ht : AppT P t0 t1 el sz bytes)
    (hx : Opd fr x = .slice none 0 0) (hy : Opd fr y = ys) (hsrc : Src E L sz m ys new) (hm : 0 < m) (hfit : m * bytes ≤ 140737488355328) (h63 : m ≤ 9223372036854775807)
    (hk : ∀ b' e', RO E call ops base (i + 1) rest (put fr o.dst (.slice (some ⟨b', 0, none⟩) m m)) (.blk b' new el false :: L) fun rs => K (.mem (fun g => evOp E (Opd fr) (base + i) g o) e' :: rs)) : ROC E call ops base i o rest fr L K :=
  ro_mem (by unfold callOf; rw [hop]) hw fun σ r ho => by
    subst hP
    have h0 : Own E σ (.rsv (base + i) 1 :: r :: L) := ho
    obtain ⟨hylen, hystr, hnew⟩ := hsrc.rd σ h0.tail.tail
    obtain ⟨d, hd1, hd2⟩ := ht.un
    obtain ⟨z, hz1, hz2⟩ := ht.ze
    obtain ⟨ti, hi⟩ : ∃ i, E.P.info? el = some i := by
      have := ht.szT
      unfold sizeT at this
      cases hi : E.P.info? el with
      | none => simp [hi] at this
      | some i => exact ⟨i, rfl⟩
    have hisz : ti.size = sz := by simpa [sizeT, hi] using ht.szT
    subst hisz
    have hby : ti.bytes = bytes := by have := ht.by_; simpa [bytesT, hi] using this
    subst hby
    have hc0 : ¬ (ti.size = 0 ∨ z.size ≠ ti.size ∨ strOk ys ti.size = false) := by
      have := ht.ne
      simp [this, hz2, hystr]
    refine ⟨⟨.slice (some ⟨base + i, 0, none⟩) m m, [(base + i, some (.cells new el false))], blkOf ys⟩, _, ?_, ho.alloc, hk _ _⟩
    unfold evOp
    simp only [hop, hts, List.map_cons, List.map_nil, hx, hy, evBuiltin]
    unfold evAppend
    simp only [List.getElem?_toArray, List.getElem?_cons_zero, List.getElem?_cons_succ, Option.bind_some, ht.elT, hd1, hd2, hi, hz1, hylen, hc0, hnew, Bool.not_true, Bool.false_eq_true, if_false, Nat.zero_add, if_neg (show ¬ m ≤ 0 by omega), if_pos (And.intro hfit h63), and_self, if_true]
end
theorem all_part {X : List Value} {o l a k : Nat} {f : Value → Bool} (h : ((X.drop o).take l).all f = true) (h1 : o ≤ a) (h2 : a + k ≤ o + l) : ((X.drop a).take k).all f = true := by
  rw [List.all_eq_true] at h ⊢
  intro v hv
  obtain ⟨j, hj⟩ := List.mem_iff_getElem?.1 hv
  rw [List.getElem?_take] at hj
  split at hj
  · rw [List.getElem?_drop] at hj
    refine h v (List.mem_iff_getElem?.2 ⟨a - o + j, ?_⟩)
    rw [List.getElem?_take, if_pos (by omega), List.getElem?_drop, ← hj]
    congr 1; omega
  · cases hj
end Go.Ab
