/- Slices of blocks and rows; copying, clearing, appending within a block. -/
import Derived.Test.YtllffogcdeempaaFwZD
set_option linter.all false
open Go.RowKit
namespace Go.Ab
section
variable {E : Env} {call : CallF} {ops : List Oper} {base i : Nat} {o : Oper} {rest : List Oper} {fr fr' : List Value} {L L' R : List Res} {K : List Rec → List Value → St → Prop} {P : Program}
theorem bd_none {d y : Nat} : bound? none d y = some d := rfl
theorem bd_int {k : IntKind} {v : Int} {d y r : Nat} (h0 : 0 ≤ v) (h1 : v ≤ y) (hr : v.toNat = r) : bound? (some (.int k v)) d y = some r := by
  simp only [bound?]; rw [if_pos ⟨h0, h1⟩, hr]
/-- A slice of a block of one's own. -/
theorem ro_slB {t e' : TypeId} {x : Operand} {lo hi : Option Operand} {b off n len cap h l : Nat} {c : List Value} {e : TypeId} {ex : Bool} {vl vh : Option Value} (hw : Region.wanted o (yieldA ops fr) = true) (hop : o.op = .slice t x lo hi none) (hP : E.P = P) (hu : P.underlying t = some (.slice e')) (hz : sizeT P e' = some n)
    (hx : Opd fr x = .slice (some ⟨b, off, none⟩) len cap) (hlo : lo.map (Opd fr) = vl) (hhi : hi.map (Opd fr) = vh) (hs : Sel L (.blk b c e ex) R) (hex : ex = true ∨ sizeT P e = some n) (hle : len ≤ cap) (bh : bound? vh len cap = some h) (bl : bound? vl 0 h = some l)
    (hk : RO E call ops base (i + 1) rest (put fr o.dst (.slice (some ⟨b, off + l * n, none⟩) (h - l) (cap - l))) L fun rs => K (.mem (fun g => evOp E (Opd fr) (base + i) g o) ⟨.slice (some ⟨b, off + l * n, none⟩) (h - l) (cap - l), [], [b]⟩ :: rs)) : ROC E call ops base i o rest fr L K :=
  ro_mem (by unfold callOf; rw [hop]) hw fun σ r ho => by
    subst hP
    have hg := ho.tail.tail.get hs
    refine ⟨⟨.slice (some ⟨b, off + l * n, none⟩) (h - l) (cap - l), [], [b]⟩, L, ?_, ho.tail, hk⟩
    unfold evOp
    simp only [hop, hx, hlo, hhi, Option.map_none]
    unfold evSlice
    have hsz : szOk E σ.heap.get ⟨b, off, none⟩ n = true := by
      simp only [szOk, hg.1, if_false, hg.2]
      rcases hex with h | h <;> simp [h]
    simp only [hu, hz, hsz, hle, and_self, if_true, bh, bl]
/-- .. with three indexes. -/
theorem ro_slB3 {t e' : TypeId} {x : Operand} {lo : Option Operand} {hi mx : Operand} {b off n len cap h l m : Nat} {c : List Value} {e : TypeId} {ex : Bool} {vl : Option Value} {vh vm : Value} (hw : Region.wanted o (yieldA ops fr) = true) (hop : o.op = .slice t x lo (some hi) (some mx)) (hP : E.P = P) (hu : P.underlying t = some (.slice e')) (hz : sizeT P e' = some n)
    (hx : Opd fr x = .slice (some ⟨b, off, none⟩) len cap) (hlo : lo.map (Opd fr) = vl) (hhi : Opd fr hi = vh) (hmx : Opd fr mx = vm) (hs : Sel L (.blk b c e ex) R) (hex : ex = true ∨ sizeT P e = some n) (hle : len ≤ cap) (bm : bound? (some vm) 0 cap = some m) (bh : bound? (some vh) 0 m = some h) (bl : bound? vl 0 h = some l)
    (hk : RO E call ops base (i + 1) rest (put fr o.dst (.slice (some ⟨b, off + l * n, none⟩) (h - l) (m - l))) L fun rs => K (.mem (fun g => evOp E (Opd fr) (base + i) g o) ⟨.slice (some ⟨b, off + l * n, none⟩) (h - l) (m - l), [], [b]⟩ :: rs)) : ROC E call ops base i o rest fr L K :=
  ro_mem (by unfold callOf; rw [hop]) hw fun σ r ho => by
    subst hP
    have hg := ho.tail.tail.get hs
    refine ⟨⟨.slice (some ⟨b, off + l * n, none⟩) (h - l) (m - l), [], [b]⟩, L, ?_, ho.tail, hk⟩
    unfold evOp
    simp only [hop, hx, hlo, hhi, hmx, Option.map_some]
    unfold evSlice
    have hsz : szOk E σ.heap.get ⟨b, off, none⟩ n = true := by
      simp only [szOk, hg.1, if_false, hg.2]
      rcases hex with h | h <;> simp [h]
    simp only [hu, hz, hsz, hle, and_self, if_true, bm, bh, bl]
/-- A slice of a row of one's own, in its place. -/
theorem ro_slR {t e' : TypeId} {x : Operand} {lo hi : Option Operand} {n h l : Nat} {s : Value} {c : List Value} {e : TypeId} {sz : Nat} {vl vh : Option Value} (hw : Region.wanted o (yieldA ops fr) = true) (hop : o.op = .slice t x lo hi none) (hP : E.P = P) (hu : P.underlying t = some (.slice e')) (hz : sizeT P e' = some sz)
    (hx : Opd fr x = s) (hlo : lo.map (Opd fr) = vl) (hhi : hi.map (Opd fr) = vh) (hs : Sel L (.row 0 s n c e sz) R) (hex : sizeT P e = some sz) (bh : bound? vh n n = some h) (bl : bound? vl 0 h = some l)
    (hk : ∀ a cap e', RO E call ops base (i + 1) rest (put fr o.dst (.slice a (h - l) cap)) (.row 0 (.slice a (h - l) cap) (h - l) ((c.drop (l * sz)).take ((h - l) * sz)) e sz :: R) fun rs => K (.mem (fun g => evOp E (Opd fr) (base + i) g o) e' :: rs)) : ROC E call ops base i o rest fr L K :=
  ro_mem (by unfold callOf; rw [hop]) hw fun σ r ho => by
    subst hP
    have hbd : ∀ (x : Option Value) d y r, bound? x d y = some r → d ≤ y → r ≤ y := by
      intro x d y r hb hd
      unfold bound? at hb
      split at hb
      · cases hb; exact hd
      · split at hb
        · cases hb; omega
        · cases hb
      · cases hb
    have hhn := hbd _ _ _ _ bh (Nat.le_refl _)
    have hlh := hbd _ _ _ _ bl (Nat.zero_le _)
    have hmono : ∀ y, n ≤ y → bound? vh n y = some h := by
      intro y hy
      unfold bound? at bh ⊢
      cases vh with
      | none => exact bh
      | some v =>
        cases v <;> simp only at bh ⊢ <;> first | (cases bh; done) | skip
        split at bh
        · rename_i hc; rw [if_pos ⟨hc.1, by omega⟩]; exact bh
        · cases bh
    have hr := ho.tail.tail.row hs
    have h1 : Own E σ (.row 0 s n c e sz :: r :: R) := (ho.tail.perm (hs.perm.cons r)).perm (List.Perm.swap _ _ _)
    obtain ⟨hc, hr⟩ := hr
    have hlen : ((c.drop (l * sz)).take ((h - l) * sz)).length = (h - l) * sz := by
      have : h * sz ≤ n * sz := Nat.mul_le_mul_right _ hhn
      have : l * sz ≤ h * sz := Nat.mul_le_mul_right _ hlh
      rw [List.length_take, List.length_drop, Nat.sub_mul]; omega
    rcases hr with ⟨rfl, rfl⟩ | ⟨b, p, m, j, x', rfl, hj, hg⟩
    · obtain rfl : h = 0 := by omega
      obtain rfl : l = 0 := by omega
      have hcn : c = [] := List.length_eq_zero_iff.1 (by omega)
      subst hcn
      refine ⟨⟨.slice none 0 0, [], []⟩, .row 0 (.slice none 0 0) 0 [] e sz :: R, ?_, h1.perm (List.Perm.swap _ _ _), ?_⟩
      · unfold evOp
        simp only [hop, hx, hlo, hhi, Option.map_none]
        unfold evSlice
        simp only [hu, hz, bh, bl]
      · have := hk none 0 ⟨.slice none 0 0, [], []⟩
        simpa using this
    · have hnb : ¬ b < E.old := by
        have := (h1.lt b (by simp [idsL, Res.ids, rowBlk])).1
        omega
      have hsz : szOk E σ.heap.get ⟨b, p.length, none⟩ sz = true := by
        simp only [szOk, hnb, if_false, hg, hex, decide_true, Bool.or_true]
      refine ⟨⟨.slice (some ⟨b, p.length + l * sz, none⟩) (h - l) (n + m - l), [], [b]⟩, .row 0 (.slice (some ⟨b, p.length + l * sz, none⟩) (h - l) (n + m - l)) (h - l) ((c.drop (l * sz)).take ((h - l) * sz)) e sz :: R, ?_, ?_, hk _ _ _⟩
      · unfold evOp
        simp only [hop, hx, hlo, hhi, Option.map_none]
        unfold evSlice
        simp only [hu, hz, hsz, Nat.le_add_right, and_self, if_true, hmono _ (Nat.le_add_right n m), bl]
      · have hl1 : l * sz ≤ h * sz := Nat.mul_le_mul_right _ hlh
        have hl2 : h * sz ≤ n * sz := Nat.mul_le_mul_right _ hhn
        have h2 := Own.upd (A := [_]) (A' := [.row 0 (.slice (some ⟨b, p.length + l * sz, none⟩) (h - l) (n + m - l)) (h - l) ((c.drop (l * sz)).take ((h - l) * sz)) e sz]) (h' := σ.heap) h1 (by simp [idsL, Res.ids, rowBlk]) (by simp [idsL, Res.ids, rowBlk])
          (by
            simp only [List.mem_cons, List.not_mem_nil, or_false, forall_eq, Res.ok]
            refine ⟨hlen, .inr ⟨b, p ++ c.take (l * sz), n - h + m, (c.drop (h * sz)) ++ j, x', ?_, ?_, ?_⟩⟩
            · rw [List.length_append, List.length_take, hc, Nat.min_eq_left (by omega)]
              congr 1; omega
            · rw [List.length_append, List.length_drop, hc, hj, Nat.add_mul, Nat.sub_mul]
            · rw [hg]
              congr 2
              have e1 : h * sz = l * sz + (h - l) * sz := by rw [Nat.sub_mul]; omega
              rw [e1, ← List.drop_drop]
              simp only [List.append_assoc, ← List.append_assoc (List.take _ (List.drop _ c)), List.take_append_drop]
              rw [← List.append_assoc (List.take _ c), List.take_append_drop])
          (fun x hx => rfl)
        exact h2.perm (List.Perm.swap _ _ _)
/-- copy into a block from elsewhere. -/
theorem ro_copyB {x y : Operand} {ts : Array TypeId} {t0 t1 el : TypeId} {b off dn dc m sz : Nat} {ys : Value} {c new : List Value} {e : TypeId} {ex : Bool} (hw : Region.wanted o (yieldA ops fr) = true) (hop : o.op = .call { callee := .builtin .copy, args := #[x, y], argTypes := ts }) (hts : ts = #[t0, t1]) (hP : E.P = P) (hel : elemT P t0 = some el) (hsz : sizeT P el = some sz)
    (hx : Opd fr x = .slice (some ⟨b, off, none⟩) dn dc) (hy : Opd fr y = ys) (hs : Sel L (.blk b c e ex) R) (hsrc : Src E R sz m ys new) (hm : m ≤ dn) (hle : off + m * sz ≤ c.length)
    (hk : ∀ e', RO E call ops base (i + 1) rest (put fr o.dst (.int .i64 m)) (.blk b (wrList c off new) e ex :: R) fun rs => K (.mem (fun g => evOp E (Opd fr) (base + i) g o) e' :: rs)) : ROC E call ops base i o rest fr L K :=
  ro_mem (by unfold callOf; rw [hop]) hw fun σ r ho => by
    subst hP
    have h1 : Own E σ (.blk b c e ex :: r :: R) := (ho.tail.perm (hs.perm.cons r)).perm (List.Perm.swap _ _ _)
    have hg := h1.get .head
    obtain ⟨hylen, hystr, hnew⟩ := hsrc.rd σ h1.tail.tail
    have hmin : Nat.min m dn = m := Nat.min_eq_left hm
    have hev : ∀ f, evOp E (Opd fr) (base + i) σ.heap.get o = f → evCopy E σ.heap.get #[t0, t1] (.slice (some ⟨b, off, none⟩) dn dc) ys = f := by
      intro f hf
      rw [← hf]
      unfold evOp
      simp only [hop, hts, List.map_cons, List.map_nil, hx, hy, evBuiltin]
    by_cases h0 : m = 0
    · subst h0
      have hnn : new = [] := List.length_eq_zero_iff.1 (by have := hsrc.ln; omega)
      subst hnn
      have hwn : wrList c off [] = c := by unfold wrList; simp
      rw [hwn] at hk
      refine ⟨⟨.int .i64 0, [], blkOf ys⟩, _, ?_, h1.perm (List.Perm.swap _ _ _), hk _⟩
      rw [← hev _ rfl]
      unfold evCopy
      simp only [List.getElem?_toArray, List.getElem?_cons_zero, Option.bind_some, hel, hsz, hylen, hmin, hnew, if_true]
    · have hwr : wr E σ.heap.get ⟨b, off, none⟩ new = some (b, some (.cells (wrList c off new) e ex)) := by
        have hh : ¬ (((⟨b, off, none⟩ : Addr).spot.isSome || decide (b < E.old)) || !new.all oneCell) = true := by simp [hg.1]; simpa using hsrc.one
        unfold wr
        rw [if_neg hh]
        simp only [hg.2]
        rw [if_pos (by rw [hsrc.ln]; exact hle)]
      refine ⟨⟨.int .i64 m, [(b, some (.cells (wrList c off new) e ex))], b :: blkOf ys⟩, _, ?_, (h1.write (c' := wrList c off new)).perm (List.Perm.swap _ _ _), hk _⟩
      rw [← hev _ rfl]
      unfold evCopy
      simp only [List.getElem?_toArray, List.getElem?_cons_zero, Option.bind_some, hel, hsz, hylen, hmin, hnew, h0, if_false, hwr]
theorem ro_gU {j t : Nat} {b : Bool} (hg : o.guard = some (j, b)) (hd : (ops[j]?).bind (·.dst) = some t) (hv : fr[t]? = some undef) (h : RO E call ops base (i + 1) rest (put fr o.dst undef) L fun rs => K (.quiet :: rs)) : ROC E call ops base i o rest fr L K :=
  ro_off (by
    unfold Region.wanted
    rw [hg]
    simp only [yieldA, hd, Option.bind_some, hv]
    rfl) h
end
/-- A whole block as a row. -/
theorem o_whole {E : Env} {L R : List Res} {b n sz : Nat} {c : List Value} {e : TypeId} {x : Bool} {G : St → Prop} (hs : Sel L (.blk b c e x) R) (hc : c.length = n * sz) (hx : O E (.row 0 (.slice (some ⟨b, 0, none⟩) n n) n c e sz :: R) G) : O E L G := by
  have h1 : Sel L (.blk b (c ++ []) e x) R := by rw [List.append_nil]; exact hs
  exact o_fullrow (m := 0) h1 hc (by simp) hx
end Go.Ab
