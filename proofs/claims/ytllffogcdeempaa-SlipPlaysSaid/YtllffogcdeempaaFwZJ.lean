/- slices.Insert: the entry is right, if the code's walks are. -/
import Derived.Test.YtllffogcdeempaaFwZI
set_option linter.all false
open Go.RowKit
namespace Go.Ab

/-- What a walk of Insert's code must show, at blocks known to their end. -/
def InsWalk (P : Program) (pairs : FuncId → Nat → List (Nat × Nat)) (t : Tbl) (k d : Nat) (f : FuncId) (el : TypeId) (sz : Nat) : Prop :=
  ∀ (E : Env), E.P = P → E.pairs = pairs → ∀ (R : List Res) (Q : Value → St → Prop) (nx vb : Nat) (X cv : List Value) (ev : TypeId) (off n ck i voff vc : Nat),
    ((X.drop off).take (n * sz)).all oneCell = true → cv.all oneCell = true → i ≤ n → n ≤ ck → 0 < ck → off + ck * sz ≤ X.length → voff + sz ≤ cv.length → 0 < vc → isU8 P ev = false → n ≤ 1000000 →
    (n + 1 ≤ ck → O E (.blk nx (insC sz X ((cv.drop voff).take sz) off n i) el true :: .blk vb cv ev true :: R) (Q (.slice (some ⟨nx, off, none⟩) (n + 1) ck))) →
    (ck = n → ∀ b, O E (.blk b (insG sz X ((cv.drop voff).take sz) off n i) el false :: .blk nx X el true :: .blk vb cv ev true :: R) (Q (.slice (some ⟨b, 0, none⟩) (n + 1) (n + 1)))) →
    O E (.blk nx X el true :: .blk vb cv ev true :: R) fun σ => WCall (evFunT E t k d) f [.slice (some ⟨nx, off, none⟩) n ck, .int .i64 i, .slice (some ⟨vb, voff, none⟩) 1 vc] σ Q

theorem LRel.three {old : Nat} {μ : Mu} {a b c : Value} {l' : List Value} (h : LRel old μ [a, b, c] l') : ∃ x y z, l' = [x, y, z] ∧ VRel old μ a x ∧ VRel old μ b y ∧ VRel old μ c z := by
  match l', h with
  | [x, y, z], h => exact ⟨x, y, z, rfl, h.2 0 _ _ rfl rfl, h.2 1 _ _ rfl rfl, h.2 2 _ _ rfl rfl⟩
  | [], h => simp [LRel] at h
  | [_], h => simp [LRel] at h
  | [_, _], h => simp [LRel] at h
  | _ :: _ :: _ :: _ :: _, h => simp [LRel] at h
theorem LRel.mk3 {old : Nat} {μ : Mu} {a b c x y z : Value} (h1 : VRel old μ a x) (h2 : VRel old μ b y) (h3 : VRel old μ c z) : LRel old μ [a, b, c] [x, y, z] :=
  ⟨rfl, fun i u v hu hv => by
    match i, hu, hv with
    | 0, hu, hv => cases hu; cases hv; exact h1
    | 1, hu, hv => cases hu; cases hv; exact h2
    | 2, hu, hv => cases hu; cases hv; exact h3
    | i + 3, hu, hv => simp at hu⟩
theorem slice_blk {a b : Addr} {n c n' c' : Nat} (h : Value.slice (some a) n c = .slice (some b) n' c') : a.block = b.block := by cases h; rfl
theorem list3 {a : Array Value} {x y z : Value} (h : a.toList = [x, y, z]) : a = #[x, y, z] := by apply Array.ext'; simp [h]

theorem Rel.to {E E' : Env} (h1 : E'.P = E.P) (h2 : E'.old = E.old) (h3 : E'.base = E.base) {w0 w : World} {μ : Mu} {σ : St} (h : Rel E w0 μ σ w) : Rel E' w0 μ σ w := by
  refine ⟨h.below, by rw [h2]; exact h.old_le, by rw [h2]; exact h.old_next, by rw [h2, h3]; exact h.base, by rw [h2]; exact h.dom, fun a b hb => ?_, h.new, h.inj⟩
  obtain ⟨p, hp, hb⟩ := h.blk a b hb
  refine ⟨p, hp, ?_⟩
  cases b with
  | cells l e x => unfold BRel at hb ⊢; rw [h1, h2]; exact hb

theorem own2 {E : Env} {w0 w : World} {μ : Mu} {σ : St} (hr : Rel E w0 μ σ w) {a b : Nat} {ca cb : List Value} {ea eb : TypeId} {xa xb : Bool} (ha : σ.heap.get a = some (.cells ca ea xa)) (hb : σ.heap.get b = some (.cells cb eb xb)) (hab : a ≠ b) :
    Own E σ [.blk a ca ea xa, .blk b cb eb xb] := by
  obtain ⟨pa, hpa, _⟩ := hr.blk _ _ ha
  obtain ⟨pb, hpb, _⟩ := hr.blk _ _ hb
  have da := hr.dom _ _ hpa
  have db := hr.dom _ _ hpb
  refine ⟨hr.old_next, by simp [idsL, Res.ids, hab], ?_, ?_⟩
  · intro k hk
    simp [idsL, Res.ids] at hk
    rcases hk with rfl | rfl
    · exact ⟨da.2, da.1⟩
    · exact ⟨db.2, db.1⟩
  · intro r hr
    simp at hr
    rcases hr with rfl | rfl
    · exact ha
    · exact hb
theorem own1 {E : Env} {w0 w : World} {μ : Mu} {σ : St} (hr : Rel E w0 μ σ w) {a : Nat} {ca : List Value} {ea : TypeId} {xa : Bool} (ha : σ.heap.get a = some (.cells ca ea xa)) : Own E σ [.blk a ca ea xa] := by
  obtain ⟨pa, hpa, _⟩ := hr.blk _ _ ha
  have da := hr.dom _ _ hpa
  refine ⟨hr.old_next, by simp [idsL, Res.ids], ?_, ?_⟩
  · intro k hk
    simp [idsL, Res.ids] at hk
    subst hk
    exact ⟨da.2, da.1⟩
  · intro r hr
    simp at hr
    subst hr
    exact ha
theorem own3 {E : Env} {w0 w : World} {μ : Mu} {σ : St} (hr : Rel E w0 μ σ w) {a b c : Nat} {ca cb cc : List Value} {ea eb ec : TypeId} {xa xb xc : Bool} (ha : σ.heap.get a = some (.cells ca ea xa)) (hb : σ.heap.get b = some (.cells cb eb xb)) (hc : σ.heap.get c = some (.cells cc ec xc)) (hab : a ≠ b) (hac : a ≠ c) (hbc : b ≠ c) :
    Own E σ [.blk a ca ea xa, .blk b cb eb xb, .blk c cc ec xc] := by
  obtain ⟨pa, hpa, _⟩ := hr.blk _ _ ha
  obtain ⟨pb, hpb, _⟩ := hr.blk _ _ hb
  obtain ⟨pc, hpc, _⟩ := hr.blk _ _ hc
  have da := hr.dom _ _ hpa
  have db := hr.dom _ _ hpb
  have dc := hr.dom _ _ hpc
  refine ⟨hr.old_next, by simp [idsL, Res.ids, hab, hac, hbc], ?_, ?_⟩
  · intro k hk
    simp [idsL, Res.ids] at hk
    rcases hk with rfl | rfl | rfl
    · exact ⟨da.2, da.1⟩
    · exact ⟨db.2, db.1⟩
    · exact ⟨dc.2, dc.1⟩
  · intro r hr
    simp at hr
    rcases hr with rfl | rfl | rfl
    · exact ha
    · exact hb
    · exact hc

theorem ins_ok {P : Program} {pairs : FuncId → Nat → List (Nat × Nat)} (hm : P.follows .mixedOrders = true) (hp : progOkB P pairs = true) {t : Tbl} (ht : TblOK P t) {f : FuncId} {el : TypeId} {sz k d : Nat} (hsz : sizeT P el = some sz) (h0 : 0 < sz) (hcode : hasCode P f = true)
    (W : InsWalk P pairs t k d f el sz)
    (W0 : ∀ (E : Env), E.P = P → E.pairs = pairs → ∀ (R : List Res) (Q : Value → St → Prop) (vb : Nat) (cv : List Value) (ev : TypeId) (voff vc : Nat), cv.all oneCell = true → voff + sz ≤ cv.length → 0 < vc →
      (∀ b, O E (.blk b ((cv.drop voff).take sz) el false :: .blk vb cv ev true :: R) (Q (.slice (some ⟨b, 0, none⟩) 1 1))) →
      O E (.blk vb cv ev true :: R) fun σ => WCall (evFunT E t k d) f [.slice none 0 0, .int .i64 0, .slice (some ⟨vb, voff, none⟩) 1 vc] σ Q) :
    TblOK P ((f, sIns P el sz) :: t) := by
  intro E hE x hx
  simp only [List.mem_cons] at hx
  rcases hx with rfl | hx
  case inr => exact ht E hE x hx
  refine ⟨?_, sIns_mono _ _ _⟩
  intro w0 args σ v σ' h
  obtain ⟨fn, hfn, hbd⟩ : ∃ fn, P.funcs[f]? = some fn ∧ fn.body.isSome = true := by
    unfold hasCode at hcode
    split at hcode
    · exact ⟨_, by assumption, hcode⟩
    · cases hcode
  obtain ⟨c0, hc0⟩ := Option.isSome_iff_exists.1 hbd
  let E' : Env := ⟨E.P, E.old, E.base, E.sum, pairs⟩
  have hE' : E'.P = P := hE
  have hpo : ProgOk E' := progOk_of (E := E') (by rw [hE']; exact hm) (by rw [hE']; exact hp)
  have hname := (hpo.code f fn c0 (by rw [hE']; exact hfn) hc0).2
  have hhas : ¬ ∃ fn, E'.P.funcs[f]? = some fn ∧ fn.body = none := by
    rintro ⟨fn', q1, q2⟩
    have : fn = fn' := Option.some.inj (hfn.symm.trans (by rw [← hE']; exact q1))
    subst this; rw [q2] at hbd; cases hbd
  have hok := evFunT_ok (E := E') hpo (ht E' hE') k d
  replace h : sIns P el sz args σ = some (v, σ') := h
  unfold sIns at h
  split at h
  · -- a slice that is not nil
    rename_i a n cap i vv m vc
    split at h
    case h_2 => cases h
    rename_i cv ev c e x hcv hca
    split at h
    · cases h
    rename_i hcnd
    simp only [not_or, Bool.not_eq_true, Bool.not_eq_false] at hcnd
    obtain ⟨q1, q2, q3, q4, q5, q6, q7, q8, q9, q10, q11, q12, q13, q14, q15, q16⟩ := hcnd
    obtain rfl : m = 1 := by omega
    obtain rfl : e = el := by
      by_cases h9 : e = el
      · exact h9
      · exact absurd h9 q10
    obtain ⟨iN, rfl⟩ : ∃ iN : Nat, i = (iN : Int) := ⟨i.toNat, by omega⟩
    rw [Int.toNat_natCast] at h
    refine .inl ⟨⟨fn, by rw [hE]; exact hfn, hbd, hname⟩, ?_, fun μ w args' hr hl => ?_⟩
    · split at h <;> (cases h; simp only; omega)
    obtain ⟨s', y, v', hargs, hs, hy, hv⟩ := hl.three
    obtain rfl := list3 hargs
    have hye := hy.flat_eq rfl
    subst hye
    obtain ⟨c1, ck, rfl, s1⟩ := hs.inv_slice
    obtain ⟨p, hpa, b1, b2, b3, C, fz, b4, b5, b6, b7, b8, b9, b10⟩ := hr.blk _ _ hca
    have hda := hr.dom _ _ hpa
    have hs1 := s1
    rcases s1 with ⟨_, z, _⟩ | ⟨⟨r1, r2, r3⟩, hcap⟩
    · exact absurd z q15
    rcases r3 with ⟨z, _⟩ | ⟨_, p', hp', r3, r4⟩
    · exact absurd z (Nat.not_lt.2 hda.2)
    rw [hpa] at hp'; cases hp'
    have hcc : cap ≤ ck ∧ p.st + a.off + ck * sz ≤ p.tot ∧ (ck ≠ cap → x = false) := by
      rcases hcap with rfl | ⟨_, g1, p', hp', g2, g3, g4⟩
      · refine ⟨Nat.le_refl _, by omega, fun h => absurd rfl h⟩
      · rw [hpa] at hp'; cases hp'
        have hx : x = false := by rw [← b2]; exact g2
        have : p.sz = sz := by
          have := b3 hx
          rw [hE, hsz] at this
          exact (Option.some.inj this).symm
        rw [this] at g4
        exact ⟨g1, g4, fun _ => hx⟩
    obtain ⟨hck1, hck2, hck3⟩ := hcc
    clear hcap
    have hr' : Rel E' w0 μ σ w := Rel.to (E := E) (E' := E') rfl rfl rfl hr
    obtain ⟨ext, hext, hlen, hrv⟩ := hr'.view hca hpa
    have hvb : σ.heap.get vv.block = some (.cells cv ev true) := hcv
    have hvlt : vv.block < σ.next := by
      obtain ⟨pv, hpv, _⟩ := hr.blk _ _ hvb
      exact (hr.dom _ _ hpv).1
    have hnv : σ.next ≠ vv.block := by omega
    have gnx : ((σ.heap.set a.block none).set σ.next (some (.cells (c ++ ext) e true))).get σ.next = some (.cells (c ++ ext) e true) := T.get_set_self _ _ _
    have goth : ∀ j, j ≠ σ.next → j ≠ a.block → ((σ.heap.set a.block none).set σ.next (some (.cells (c ++ ext) e true))).get j = σ.heap.get j := fun j h1 h2 => by rw [T.get_set_ne _ _ _ _ h1, T.get_set_ne _ _ _ _ h2]
    have gv := (goth vv.block (Ne.symm hnv) (Ne.symm q11)).trans hvb
    have hcapm : n * sz ≤ cap * sz := Nat.mul_le_mul_right _ (by omega)
    have hXone : (((c ++ ext).drop a.off).take (n * sz)).all oneCell = true := by
      rw [List.drop_append_of_le_length (by omega), List.take_append_of_le_length (by rw [List.length_drop]; omega)]
      exact q16
    have hXlen : a.off + ck * sz ≤ (c ++ ext).length := by omega
    have hw1 := W E' hE' rfl
    have heval := hw1 [] (fun u s => (n + 1 ≤ ck ∧ u = .slice (some ⟨σ.next, a.off, none⟩) (n + 1) ck ∧ Own E' s [.blk σ.next (insC sz (c ++ ext) ((cv.drop vv.off).take sz) a.off n iN) e true, .blk vv.block cv ev true]) ∨ (ck = n ∧ ∃ b, u = .slice (some ⟨b, 0, none⟩) (n + 1) (n + 1) ∧ Own E' s [.blk b (insG sz (c ++ ext) ((cv.drop vv.off).take sz) a.off n iN) e false, .blk σ.next (c ++ ext) e true, .blk vv.block cv ev true]))
      σ.next vv.block (c ++ ext) cv ev a.off n ck iN vv.off vc hXone q9 (by omega) (by omega) (by omega) hXlen (by omega) (by omega) q3 (by omega)
      (fun h s hs => .inl ⟨h, rfl, hs⟩) (fun h b s hs => .inr ⟨h, b, rfl, hs⟩) _ (own2 hrv gnx gv hnv)
    obtain ⟨u, σ2, hev, hres⟩ := heval
    have hfr : ∀ j bj, j ≠ a.block → σ.heap.get j = some bj → σ2.heap.get j = some bj ∧ ∀ bb, u = .slice (some ⟨bb, 0, none⟩) (n + 1) (n + 1) → bb ≠ j := by
      intro j bj hja hj
      by_cases hjv : j = vv.block
      · subst hjv
        rw [hvb] at hj; cases hj
        rcases hres with ⟨_, _, ho⟩ | ⟨_, b, _, ho⟩
        · refine ⟨(ho.get (.tail .head)).2, fun bb hb => ?_⟩
          rename_i hu
          rw [hu] at hb; have := slice_blk hb; simp only at this; rw [← this]; exact hnv
        · refine ⟨(ho.get (.tail (.tail .head))).2, fun bb hb => ?_⟩
          rename_i hu
          rw [hu] at hb; have hbb := slice_blk hb; simp only at hbb; rw [← hbb]
          have := ho.nodup
          simp [idsL, Res.ids] at this
          exact fun e => this.1.2 e
      have hjlt : j < σ.next := by
        obtain ⟨pj, hpj, _⟩ := hr.blk _ _ hj
        exact (hr.dom _ _ hpj).1
      cases bj with
      | cells cj ej xj =>
        have gj := (goth j (by omega) hja).trans hj
        obtain ⟨u', σ3, hev3, h3⟩ := hw1 [.blk j cj ej xj] (fun u s => s.heap.get j = some (.cells cj ej xj) ∧ ∀ bb, u = .slice (some ⟨bb, 0, none⟩) (n + 1) (n + 1) → bb ≠ j) σ.next vv.block (c ++ ext) cv ev a.off n ck iN vv.off vc hXone q9 (by omega) (by omega) (by omega) hXlen (by omega) (by omega) q3 (by omega)
          (fun h s hs => ⟨(hs.get (.tail (.tail .head))).2, fun bb hb => by have := slice_blk hb; simp only at this; omega⟩) (fun h b s hs => ⟨(hs.get (.tail (.tail (.tail .head)))).2, fun bb hb => by
            have hbb := slice_blk hb; simp only at hbb; rw [← hbb]
            have := hs.nodup
            simp [idsL, Res.ids] at this
            exact fun e => this.1.2.2 e⟩) _ (own3 hrv gnx gv gj hnv (by omega) (fun h => hjv h.symm))
        rw [hev] at hev3
        cases hev3
        exact h3
    have hvm : ∀ z ∈ c, ∃ z0, VRel E.old μ z z0 := fun z hz => by
      obtain ⟨j, hj⟩ := List.getElem?_of_mem hz
      obtain ⟨z0, _, h2⟩ := b9 j z hj
      exact ⟨z0, h2⟩
    have hvm2 : ∀ z ∈ (cv.drop vv.off).take sz, ∃ z0, VRel E.old μ z z0 := fun z hz => by
      obtain ⟨pv, _, _, _, _, Cv, fv, _, _, _, _, _, g9, _⟩ := hr.blk _ _ hvb
      obtain ⟨j, hj⟩ := List.getElem?_of_mem (List.mem_of_mem_drop (List.mem_of_mem_take hz))
      obtain ⟨z0, _, h2⟩ := g9 j z hj
      exact ⟨z0, h2⟩
    have hlv : LRel E'.old (fun k => if k = σ.next then some ⟨p.c, p.st, (c ++ ext).length, true, p.sz, p.tot⟩ else if k < σ.next then μ k else none) [.slice (some ⟨σ.next, a.off, none⟩) n ck, .int .i64 (iN : Int), .slice (some ⟨vv.block, vv.off, none⟩) 1 vc] (#[.slice (some c1) n ck, .int .i64 (iN : Int), v'] : Array Value).toList := by
      have hle : Le μ (fun k => if k = σ.next then some ⟨p.c, p.st, (c ++ ext).length, true, p.sz, p.tot⟩ else if k < σ.next then μ k else none) := fun j pj hj => by
        have := (hr.dom j pj hj).1
        simp only [show j ≠ σ.next by omega, this, if_false, if_true]; exact hj
      refine .mk3 (.slice _ _ _ _ _ (.inr ⟨⟨rfl, r2, .inr ⟨hr.old_next, _, if_pos rfl, r3, r4⟩⟩, .inl rfl⟩)) (.flat _ rfl) ?_
      have e1 : (⟨vv.block, vv.off, none⟩ : Addr) = vv := by
        cases vv with
        | mk b o s => simp at q1; simp [q1]
      rw [e1]
      exact hv.mono hle
    rcases hok.ok w0 f _ _ u σ2 hev with ⟨_, _, hsound⟩ | hbad
    case inr => exact absurd hbad.2.1 hhas
    have hC := hsound _ w #[.slice (some c1) n ck, .int .i64 (iN : Int), v'] hrv hlv
    change Calls E'.P f _ w _
    refine hC.mono ?_
    rintro e0 w' ⟨uf, μ', rfl, hur, hr2, hag⟩
    have hr2E : Rel E w0 μ' σ2 w' := Rel.to (E := E') (E' := E) rfl rfl rfl hr2
    have hagE : ∀ j, j < σ.next → μ' j = μ j := fun j hj => by
      rw [hag j (by simp only; omega)]
      simp only [show j ≠ σ.next by omega, hj, if_false, if_true]
    have hleF : Le μ μ' := fun j pj hj => by rw [hagE j (hr.dom j pj hj).1]; exact hj
    have hnl : ((cv.drop vv.off).take sz).length = sz := by rw [List.length_take, List.length_drop]; omega
    have hszE : sizeT E.P e = some sz := by rw [hE]; exact hsz
    have hmG : ∀ z ∈ insG sz c ((cv.drop vv.off).take sz) a.off n iN, ∃ z0, VRel E.old μ z z0 := fun z hz => (insG_mem hz).elim (hvm z) (hvm2 z)
    have hmC : ∀ z ∈ insC sz c ((cv.drop vv.off).take sz) a.off n iN, ∃ z0, VRel E.old μ z z0 := fun z hz => (insC_mem hz).elim (hvm z) (hvm2 z)
    have hcapn : cap * sz = n * sz + (cap - n) * sz := by rw [← Nat.add_mul]; congr 1; omega
    have hn1 : (n + 1) * sz = n * sz + sz := Nat.succ_mul _ _
    have hnxt : ∀ k bk, k ≠ a.block → σ.heap.get k = some bk → σ.next ≠ k := fun k bk _ hk => by
      obtain ⟨pk, hpk, _⟩ := hr.blk _ _ hk
      have := (hr.dom _ _ hpk).1; omega
    rcases hres with ⟨hroom, rfl, ho⟩ | ⟨hfull, b, rfl, ho⟩
    · have hgB := (ho.get .head).2
      obtain ⟨p3, hp3, hb3⟩ := hr2E.blk _ _ hgB
      have hp3' := hag σ.next (by simp only; omega)
      rw [hp3] at hp3'
      simp only [if_true, Option.some.injEq] at hp3'
      subst hp3'
      obtain ⟨c3, k3, rfl, s3⟩ := hur.inv_slice
      rcases s3 with ⟨z, _⟩ | ⟨⟨_, t2, t3⟩, hk3⟩
      · omega
      rcases t3 with ⟨z, _⟩ | ⟨_, p4, hp4, t3, t4⟩
      · exact absurd z (Nat.not_lt.2 hr.old_next)
      rw [hp3] at hp4; cases hp4
      obtain rfl : ck = k3 := by
        rcases hk3 with h | ⟨_, _, p4, hp4, h, _⟩
        · exact h.symm
        · rw [hp3] at hp4; cases hp4; cases h
      clear hk3
      simp only at t3 t4
      by_cases hnc : n + 1 ≤ cap
      · rw [if_pos hnc] at h
        cases h
        have hmul : (n + 1) * sz ≤ cap * sz := Nat.mul_le_mul_right _ hnc
        have hbn := hb3.part (x' := x) (sz := sz) (pre := []) (mid := insC sz c ((cv.drop vv.off).take sz) a.off n iN) (post := ext) (by rw [insC_app (by omega) (by omega)]; rfl) hmC hleF (fun _ => hext) (fun hx => ⟨by
          have := b7 hx
          have : ext.length = 0 := by rw [List.length_append] at hlen; omega
          exact List.length_eq_zero_iff.1 this, rfl⟩) (fun _ => hszE)
        have hlenC := insC_len (c := c) hnl (by omega : iN ≤ n) (off := a.off) (by omega)
        refine ⟨_, _, rfl, ?_, hr.reab hr2E hagE a.block σ.next hgB hnxt (fun k bk h1 h2 => (hfr k bk h1 h2).1) (q := ⟨p.c, p.st + ([] : List Value).length, (insC sz c ((cv.drop vv.off).take sz) a.off n iN).length, x, sz, p.tot⟩) hp3 rfl hbn, fun j hj => by simp only [show j ≠ σ.next by omega, hj, if_false, if_true]⟩
        refine .slice _ _ _ _ _ (.inr ⟨⟨rfl, t2, .inr ⟨hr.old_next, _, if_pos rfl, t3, by simp only [List.length_nil]; omega⟩⟩, ?_⟩)
        by_cases hkc : ck = cap
        · exact .inl hkc
        · have hxf := hck3 hkc
          have hcl : c.length = a.off + cap * sz := by
            by_cases h9 : c.length = a.off + cap * sz
            · exact h9
            · exact absurd ⟨hxf, h9⟩ q13
          exact .inr ⟨hr.old_next, hck1, _, if_pos rfl, hxf, by simp only; omega, by simp only [List.length_nil]; omega⟩
      · rw [if_neg hnc] at h
        cases h
        obtain rfl : cap = n := by omega
        have hxf := hck3 (by omega)
        have hcl : c.length = a.off + cap * sz := by
          by_cases h9 : c.length = a.off + cap * sz
          · exact h9
          · exact absurd ⟨hxf, h9⟩ q13
        have hbn := hb3.part (x' := false) (sz := sz) (pre := (c ++ ext).take a.off) (mid := insG sz c ((cv.drop vv.off).take sz) a.off cap iN) (post := (c ++ ext).drop (a.off + (cap + 1) * sz)) (by rw [insC_split, insG_app (by omega) (by omega)]) hmG hleF (fun _ z hz => by
            rw [List.drop_append, List.drop_eq_nil_of_le (by omega), List.nil_append] at hz
            exact hext z (List.mem_of_mem_drop hz)) (fun h => by cases h) (fun _ => hszE)
        have hlenG := insG_len (c := c) hnl (by omega : iN ≤ cap) (off := a.off) (by omega)
        have hpre : ((c ++ ext).take a.off).length = a.off := by rw [List.length_take, List.length_append]; omega
        refine ⟨_, _, rfl, ?_, hr.reab hr2E hagE a.block σ.next hgB hnxt (fun k bk h1 h2 => (hfr k bk h1 h2).1) (q := ⟨p.c, p.st + ((c ++ ext).take a.off).length, (insG sz c ((cv.drop vv.off).take sz) a.off cap iN).length, false, sz, p.tot⟩) hp3 rfl hbn, fun j hj => by simp only [show j ≠ σ.next by omega, hj, if_false, if_true]⟩
        exact .slice _ _ _ _ _ (.inr ⟨⟨rfl, t2, .inr ⟨hr.old_next, _, if_pos rfl, t3, by simp only [hpre]; omega⟩⟩, .inr ⟨hr.old_next, hroom, _, if_pos rfl, rfl, by simp only; omega, by simp only [hpre]; omega⟩⟩)
    · have hgB := (ho.get .head).2
      obtain ⟨p3, hp3, hb3⟩ := hr2E.blk _ _ hgB
      have hncap : ¬ n + 1 ≤ cap := by omega
      rw [if_neg hncap] at h
      cases h
      obtain rfl : cap = n := by omega
      obtain ⟨c3, k3, rfl, s3⟩ := hur.inv_slice
      have hd3 := hr2E.dom _ _ hp3
      rcases s3 with ⟨z, _⟩ | ⟨⟨_, t2, t3⟩, hk3⟩
      · omega
      rcases t3 with ⟨z, _⟩ | ⟨_, p4, hp4, t3, t4⟩
      · exact absurd z (Nat.not_lt.2 hd3.2)
      rw [hp3] at hp4; cases hp4
      simp only at t4
      have hlenG := insG_len (c := c) hnl (by omega : iN ≤ cap) (off := a.off) (by omega)
      have hbn := hb3.part (x' := false) (sz := sz) (pre := []) (mid := insG sz c ((cv.drop vv.off).take sz) a.off cap iN) (post := []) (by rw [insG_app (by omega) (by omega), List.append_nil, List.nil_append]) hmG hleF (fun _ z hz => by cases hz) (fun h => by cases h) (fun _ => hszE)
      have hk3' : cap + 1 ≤ k3 ∧ (k3 ≠ cap + 1 → p3.st + k3 * sz ≤ p3.tot) := by
        rcases hk3 with h | ⟨_, h, p4, hp4, g1, g2, g3⟩
        · exact ⟨by omega, fun h2 => absurd h h2⟩
        · rw [hp3] at hp4; cases hp4
          obtain ⟨_, u2, u3, _⟩ := hb3
          have := u3 (by rw [← u2])
          rw [hszE] at this
          have : sz = p3.sz := Option.some.inj this
          rw [← this] at g3
          exact ⟨h, fun _ => by simp only at g3; omega⟩
      clear hk3
      refine ⟨_, _, rfl, ?_, hr.reab hr2E hagE a.block b hgB (fun k bk h1 h2 => (hfr k bk h1 h2).2 b rfl) (fun k bk h1 h2 => (hfr k bk h1 h2).1) (q := ⟨p3.c, p3.st + ([] : List Value).length, (insG sz c ((cv.drop vv.off).take sz) a.off cap iN).length, false, sz, p3.tot⟩) hp3 rfl hbn, fun j hj => by simp only [show j ≠ σ.next by omega, hj, if_false, if_true]⟩
      refine .slice _ _ _ _ _ (.inr ⟨⟨rfl, t2, .inr ⟨hr.old_next, _, if_pos rfl, t3, by simp only [List.length_nil]; omega⟩⟩, ?_⟩)
      by_cases hk4 : k3 = cap + 1
      · exact .inl hk4
      · exact .inr ⟨hr.old_next, hk3'.1, _, if_pos rfl, rfl, by simp only; omega, by have := hk3'.2 hk4; simp only [List.length_nil]; omega⟩
  · -- the nil slice
    rename_i vv m vc
    split at h
    case h_2 => cases h
    rename_i cv ev hcv
    split at h
    · cases h
    rename_i hcnd
    simp only [not_or, Bool.not_eq_true, Bool.not_eq_false] at hcnd
    obtain ⟨q1, q2, q3, q4, q9⟩ := hcnd
    obtain rfl : m = 1 := by omega
    cases h
    refine .inl ⟨⟨fn, by rw [hE]; exact hfn, hbd, hname⟩, by simp only; omega, fun μ w args' hr hl => ?_⟩
    obtain ⟨s', y, v', hargs, hs, hy, hv⟩ := hl.three
    obtain rfl := list3 hargs
    have hye := hy.flat_eq rfl
    subst hye
    have hse := hs.flat_eq rfl
    subst hse
    have hr' : Rel E' w0 μ σ w := Rel.to (E := E) (E' := E') rfl rfl rfl hr
    have hvb : σ.heap.get vv.block = some (.cells cv ev true) := hcv
    have hw1 := W0 E' hE' rfl
    have heval := hw1 [] (fun u s => ∃ b, u = .slice (some ⟨b, 0, none⟩) 1 1 ∧ Own E' s [.blk b ((cv.drop vv.off).take sz) el false, .blk vv.block cv ev true])
      vv.block cv ev vv.off vc q9 (by omega) (by omega) (fun b s hs => ⟨b, rfl, hs⟩) _ (own1 hr' hvb)
    obtain ⟨u, σ2, hev, b, rfl, ho⟩ := heval
    have hfr : ∀ j bj, σ.heap.get j = some bj → σ2.heap.get j = some bj ∧ b ≠ j := by
      intro j bj hj
      by_cases hjv : j = vv.block
      · subst hjv
        rw [hvb] at hj; cases hj
        refine ⟨(ho.get (.tail .head)).2, ?_⟩
        have := ho.nodup
        simp [idsL, Res.ids] at this
        exact this
      cases bj with
      | cells cj ej xj =>
        obtain ⟨u', σ3, hev3, h3⟩ := hw1 [.blk j cj ej xj] (fun u s => s.heap.get j = some (.cells cj ej xj) ∧ ∀ bb, u = .slice (some ⟨bb, 0, none⟩) 1 1 → bb ≠ j) vv.block cv ev vv.off vc q9 (by omega) (by omega)
          (fun b s hs => ⟨(hs.get (.tail (.tail .head))).2, fun bb hb => by
            have hbb := slice_blk hb; simp only at hbb; rw [← hbb]
            have := hs.nodup
            simp [idsL, Res.ids] at this
            exact fun e => this.1.2 e⟩) _ (own2 hr' hvb hj (fun h => hjv h.symm))
        rw [hev] at hev3
        cases hev3
        exact ⟨h3.1, h3.2 b rfl⟩
    have hvm2 : ∀ z ∈ (cv.drop vv.off).take sz, ∃ z0, VRel E.old μ z z0 := fun z hz => by
      obtain ⟨pv, _, _, _, _, Cv, fv, _, _, _, _, _, g9, _⟩ := hr.blk _ _ hvb
      obtain ⟨j, hj⟩ := List.getElem?_of_mem (List.mem_of_mem_drop (List.mem_of_mem_take hz))
      obtain ⟨z0, _, h2⟩ := g9 j z hj
      exact ⟨z0, h2⟩
    have hlv : LRel E'.old μ [.slice none 0 0, .int .i64 0, .slice (some ⟨vv.block, vv.off, none⟩) 1 vc] (#[.slice none 0 0, .int .i64 0, v'] : Array Value).toList := by
      refine .mk3 (.flat _ rfl) (.flat _ rfl) ?_
      have e1 : (⟨vv.block, vv.off, none⟩ : Addr) = vv := by
        cases vv with
        | mk b o s => simp at q1; simp [q1]
      rw [e1]
      exact hv
    rcases hok.ok w0 f _ _ _ σ2 hev with ⟨_, _, hsound⟩ | hbad
    case inr => exact absurd hbad.2.1 hhas
    have hC := hsound _ w #[.slice none 0 0, .int .i64 0, v'] hr' hlv
    change Calls E'.P f _ w _
    refine hC.mono ?_
    rintro e0 w' ⟨uf, μ', rfl, hur, hr2, hag⟩
    have hr2E : Rel E w0 μ' σ2 w' := Rel.to (E := E') (E' := E) rfl rfl rfl hr2
    have hagE : ∀ j, j < σ.next → μ' j = μ j := hag
    have hleF : Le μ μ' := fun j pj hj => by rw [hagE j (hr.dom j pj hj).1]; exact hj
    have hnl : ((cv.drop vv.off).take sz).length = sz := by rw [List.length_take, List.length_drop]; omega
    have hszE : sizeT E.P el = some sz := by rw [hE]; exact hsz
    have hgB := (ho.get .head).2
    obtain ⟨p3, hp3, hb3⟩ := hr2E.blk _ _ hgB
    obtain ⟨c3, k3, rfl, s3⟩ := hur.inv_slice
    have hd3 := hr2E.dom _ _ hp3
    rcases s3 with ⟨z, _⟩ | ⟨⟨_, t2, t3⟩, hk3⟩
    · omega
    rcases t3 with ⟨z, _⟩ | ⟨_, p4, hp4, t3, t4⟩
    · exact absurd z (Nat.not_lt.2 hd3.2)
    rw [hp3] at hp4; cases hp4
    simp only at t4
    have hbn := hb3.part (x' := false) (sz := sz) (pre := []) (mid := (cv.drop vv.off).take sz) (post := []) (by simp) hvm2 hleF (fun _ z hz => by cases hz) (fun h => by cases h) (fun _ => hszE)
    have hk3' : 1 ≤ k3 ∧ (k3 ≠ 1 → p3.st + k3 * sz ≤ p3.tot) := by
      rcases hk3 with h | ⟨_, h, p4, hp4, g1, g2, g3⟩
      · exact ⟨by omega, fun h2 => absurd h h2⟩
      · rw [hp3] at hp4; cases hp4
        obtain ⟨_, u2, u3, _⟩ := hb3
        have := u3 (by rw [← u2])
        rw [hszE] at this
        have : sz = p3.sz := Option.some.inj this
        rw [← this] at g3
        exact ⟨h, fun _ => by simp only at g3; omega⟩
    clear hk3
    refine ⟨_, _, rfl, ?_, hr.reab hr2E hagE σ.next b hgB (fun k bk h1 h2 => (hfr k bk h2).2) (fun k bk h1 h2 => (hfr k bk h2).1) (q := ⟨p3.c, p3.st + ([] : List Value).length, ((cv.drop vv.off).take sz).length, false, sz, p3.tot⟩) hp3 rfl hbn, fun j hj => by simp only [show j ≠ σ.next by omega, hj, if_false, if_true]⟩
    refine .slice _ _ _ _ _ (.inr ⟨⟨rfl, t2, .inr ⟨hr.old_next, _, if_pos rfl, t3, by simp only [List.length_nil]; omega⟩⟩, ?_⟩)
    by_cases hk4 : k3 = 1
    · exact .inl hk4
    · exact .inr ⟨hr.old_next, hk3'.1, _, if_pos rfl, rfl, by simp only; omega, by have := hk3'.2 hk4; simp only [List.length_nil]; omega⟩
  · cases h
end Go.Ab
