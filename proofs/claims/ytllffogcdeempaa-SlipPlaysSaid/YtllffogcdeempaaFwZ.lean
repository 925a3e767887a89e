/- Owned pieces of memory: code stepped through by what it owns, piece by piece. -/
import Derived.Test.YtllffogcdeempaaFwY
set_option linter.all false
open Go.RowKit
namespace Go.Ab

/-- A piece: a block; a row (a slice: of one's own, nil or a block from its start on, with room behind that is of no matter (kind 0), one that is only read (kind 1), one that came in (kind 2)); numbers that are kept for blocks to come. -/
inductive Res where
  | blk (b : Nat) (c : List Value) (e : TypeId) (x : Bool)
  | row (kd : Nat) (s : Value) (n : Nat) (c : List Value) (e : TypeId) (sz : Nat)
  | rsv (lo n : Nat)

/-- Where a slice begins. -/
def rowAt : Value → Option (Nat × Nat)
  | .slice (some a) _ _ => some (a.block, a.off)
  | _ => none

def RowOwn (g : Nat → Option Blk) (s : Value) (n : Nat) (c : List Value) (e : TypeId) (sz : Nat) : Prop :=
  ∃ b p m j x, s = .slice (some ⟨b, p.length, none⟩) n (n + m) ∧ j.length = m * sz ∧ g b = some (.cells (p ++ (c ++ j)) e x)

def RowOk (E : Env) (g : Nat → Option Blk) (kd : Nat) (s : Value) (n : Nat) (c : List Value) (e : TypeId) (sz : Nat) : Prop :=
  c.length = n * sz ∧
  match kd with
  | 0 => (s = .slice none 0 0 ∧ n = 0) ∨ RowOwn g s n c e sz
  | 1 => (∃ a m, s = .slice a 0 m ∧ n = 0) ∨ (0 < n ∧ RowOwn g s n c e sz)
  | _ => (∃ a m, s = .slice a 0 m ∧ n = 0) ∨ ∃ b o m, s = .slice (some ⟨b, o, none⟩) n m ∧ b < E.old ∧ rdOld E b o (n * sz) = some c

def Res.ids : Res → List Nat
  | .blk b _ _ _ => [b]
  | .row kd s n _ _ _ => if kd = 0 then (rowBlk s).toList else if kd = 1 then (if n = 0 then [] else (rowBlk s).toList) else []
  | .rsv lo n => List.range' lo n

def Res.ok (E : Env) (g : Nat → Option Blk) : Res → Prop
  | .blk b c e x => g b = some (.cells c e x)
  | .row kd s n c e sz => RowOk E g kd s n c e sz
  | .rsv _ _ => True

def idsL (L : List Res) : List Nat := L.flatMap Res.ids

structure Own (E : Env) (σ : St) (L : List Res) : Prop where
  base : E.old ≤ σ.next
  nodup : (idsL L).Nodup
  lt : ∀ b ∈ idsL L, E.old ≤ b ∧ b < σ.next
  ok : ∀ r ∈ L, r.ok E σ.heap.get

theorem RowOwn.congr {g g' : Nat → Option Blk} {s : Value} {n : Nat} {c : List Value} {e : TypeId} {sz : Nat} (h : ∀ b, rowBlk s = some b → g' b = g b) (hr : RowOwn g s n c e sz) : RowOwn g' s n c e sz := by
  obtain ⟨b, p, m, j, x, h1, h2, h3⟩ := hr
  refine ⟨b, p, m, j, x, h1, h2, ?_⟩
  rw [h b (by subst h1; rfl)]; exact h3

theorem Res.ok_congr {E : Env} {g g' : Nat → Option Blk} {r : Res} (h : ∀ b ∈ r.ids, g' b = g b) (hr : r.ok E g) : r.ok E g' := by
  cases r with
  | blk b c e x => simp only [Res.ok] at hr ⊢; rw [h b (by simp [Res.ids])]; exact hr
  | rsv lo n => trivial
  | row kd s n c e sz =>
    match kd with
    | 0 => exact ⟨hr.1, hr.2.imp id (·.congr fun b hb => h b (by simp [Res.ids, hb]))⟩
    | 1 => exact ⟨hr.1, hr.2.imp id fun ⟨h0, hr⟩ => ⟨h0, hr.congr fun b hb => h b (by simp [Res.ids, hb]; omega)⟩⟩
    | k + 2 => exact hr

theorem Own.perm {E : Env} {σ : St} {L L' : List Res} (hp : L.Perm L') (h : Own E σ L) : Own E σ L' := by
  have hi : (idsL L).Perm (idsL L') := hp.flatMap_right _
  exact ⟨h.base, hi.nodup_iff.1 h.nodup, fun b hb => h.lt b (hi.mem_iff.2 hb), fun r hr => h.ok r (hp.mem_iff.2 hr)⟩

theorem idsL_cons {r : Res} {L : List Res} : idsL (r :: L) = r.ids ++ idsL L := by simp [idsL]
theorem idsL_append {A L : List Res} : idsL (A ++ L) = idsL A ++ idsL L := by simp [idsL]

theorem Own.tail {E : Env} {σ : St} {r : Res} {L : List Res} (h : Own E σ (r :: L)) : Own E σ L := by
  have h1 := h.nodup
  rw [idsL_cons] at h1
  exact ⟨h.base, (List.nodup_append.1 h1).2.1, fun b hb => h.lt b (by rw [idsL_cons]; exact List.mem_append.2 (.inr hb)), fun x hx => h.ok x (by simp [hx])⟩

theorem Own.nil {E : Env} {σ : St} (h : E.old ≤ σ.next) : Own E σ [] := ⟨h, by simp [idsL], by simp [idsL], by simp⟩

/-- The first pieces made others, within the same blocks. -/
theorem Own.upd {E : Env} {σ : St} {A A' L : List Res} {h' : T} (h : Own E σ (A ++ L)) (hn : (idsL A').Nodup) (hs : ∀ b ∈ idsL A', b ∈ idsL A) (hok : ∀ r ∈ A', r.ok E h'.get) (hf : ∀ b, b ∉ idsL A → h'.get b = σ.heap.get b) : Own E ⟨h', σ.next⟩ (A' ++ L) := by
  have hd := h.nodup
  rw [idsL_append, List.nodup_append] at hd
  have hlt := h.lt
  rw [idsL_append] at hlt
  refine ⟨h.base, ?_, ?_, ?_⟩
  · rw [idsL_append, List.nodup_append]
    exact ⟨hn, hd.2.1, fun a ha b hb => hd.2.2 a (hs a ha) b hb⟩
  · rw [idsL_append]
    intro b hb
    rcases List.mem_append.1 hb with hb | hb
    · exact hlt b (List.mem_append.2 (.inl (hs b hb)))
    · exact hlt b (List.mem_append.2 (.inr hb))
  · intro r hr
    rcases List.mem_append.1 hr with hr | hr
    · exact hok r hr
    · refine Res.ok_congr (fun b hb => ?_) (h.ok r (by simp [hr]))
      refine hf b fun hA => ?_
      exact hd.2.2 b hA b (List.mem_flatMap.2 ⟨r, hr, hb⟩) rfl

/-- The piece x stands in L; the others are R. -/
inductive Sel : List Res → Res → List Res → Prop
  | head {x : Res} {R : List Res} : Sel (x :: R) x R
  | tail {x y : Res} {L R : List Res} (h : Sel L x R) : Sel (y :: L) x (y :: R)

theorem Sel.perm {L R : List Res} {x : Res} (h : Sel L x R) : L.Perm (x :: R) := by
  induction h with
  | head => exact .refl _
  | tail _ ih => exact (ih.cons _).trans (.swap _ _ _)

theorem Own.sel {E : Env} {σ : St} {L R : List Res} {x : Res} (h : Own E σ L) (hs : Sel L x R) : Own E σ (x :: R) := h.perm hs.perm
theorem Own.get {E : Env} {σ : St} {L R : List Res} {b : Nat} {c : List Value} {e : TypeId} {x : Bool} (h : Own E σ L) (hs : Sel L (.blk b c e x) R) : ¬ b < E.old ∧ σ.heap.get b = some (.cells c e x) := by
  have h1 := h.sel hs
  refine ⟨?_, h1.ok (.blk b c e x) (by simp)⟩
  have := (h1.lt b (by simp [idsL, Res.ids])).1
  omega

/-- All of L' stand in L. -/
inductive Ent : List Res → List Res → Prop
  | nil {L : List Res} : Ent L []
  | cons {L R L' : List Res} {x : Res} (h : Sel L x R) (r : Ent R L') : Ent L (x :: L')
  | refl {L : List Res} : Ent L L
  | skip {x : Res} {L L' : List Res} (r : Ent L L') : Ent (x :: L) L'

theorem Ent.sub {L L' : List Res} (h : Ent L L') : ∀ b ∈ idsL L', b ∈ idsL L := by
  induction h with
  | nil => intro b hb; simp [idsL] at hb
  | refl => intro b hb; exact hb
  | skip _ ih => intro b hb; rw [idsL_cons]; exact List.mem_append.2 (.inr (ih b hb))
  | cons hs _ ih =>
    intro b hb
    refine (List.Perm.mem_iff (hs.perm.flatMap_right Res.ids)).2 ?_
    show b ∈ idsL (_ :: _)
    rw [idsL_cons] at hb ⊢
    exact List.mem_append.2 ((List.mem_append.1 hb).imp id (ih b))

theorem Ent.own {L L' : List Res} (h : Ent L L') : ∀ {E : Env} {σ : St}, Own E σ L → Own E σ L' := by
  induction h with
  | nil => intro E σ h; exact .nil h.base
  | refl => intro E σ h; exact h
  | skip _ ih => intro E σ h; exact ih h.tail
  | cons hs r ih =>
    intro E σ h
    have h1 := h.sel hs
    have h2 := ih h1.tail
    refine ⟨h.base, ?_, ?_, ?_⟩
    · have h3 := h1.nodup
      rw [idsL_cons] at h3 ⊢
      rw [List.nodup_append] at h3 ⊢
      exact ⟨h3.1, h2.nodup, fun a ha b hb => h3.2.2 a ha b (r.sub b hb)⟩
    · intro b hb
      rw [idsL_cons] at hb
      rcases List.mem_append.1 hb with hb | hb
      · exact h1.lt b (by rw [idsL_cons]; exact List.mem_append.2 (.inl hb))
      · exact h2.lt b hb
    · intro r hr
      rcases List.mem_cons.1 hr with rfl | hr
      · exact h1.ok _ (by simp)
      · exact h2.ok r hr

/-- In every state in which L is owned. -/
def O (E : Env) (L : List Res) (G : St → Prop) : Prop := ∀ σ, Own E σ L → G σ

theorem O.ent {E : Env} {L L' : List Res} {G : St → Prop} (h : Ent L L') (hx : O E L' G) : O E L G := fun σ ho => hx σ (h.own ho)
theorem O.sel {E : Env} {L R : List Res} {x : Res} {G : St → Prop} (h : Sel L x R) (hx : O E (x :: R) G) : O E L G := fun σ ho => hx σ (ho.sel h)
theorem O.lift {E : Env} {L : List Res} {G G' : St → Prop} (h : ∀ σ, G' σ → G σ) (hx : O E L G') : O E L G := fun σ ho => h σ (hx σ ho)
theorem O.app {E : Env} {L : List Res} {G : St → Prop} {σ : St} (ho : Own E σ L) (hx : O E L G) : G σ := hx σ ho

/-! Code. -/
section
variable {E : Env} {call : CallF} {k : Nat} {fid : FuncId} {fr fr' : List Value} {Q : Ex → List Value → St → Prop} {K : List Value → St → Prop} {L L' R : List Res}

theorem o_seq {x y : Code} (h : O E L fun σ => W E call k fid x none fr σ (onward (fun fr σ => W E call k fid y none fr σ Q) Q)) : O E L fun σ => W E call k fid (.seq x y) none fr σ Q := h.lift fun _ => w_seq
theorem o_seq_at {x y : Code} {l : Nat} (hl : hasLabel x l = true) (h : O E L fun σ => W E call k fid x (some l) fr σ (onward (fun fr σ => W E call k fid y none fr σ Q) Q)) : O E L fun σ => W E call k fid (.seq x y) (some l) fr σ Q := h.lift fun _ => w_seq_at hl
theorem o_seq_past {x y : Code} {l : Nat} (hl : hasLabel x l = false) (h : O E L fun σ => W E call k fid y (some l) fr σ Q) : O E L fun σ => W E call k fid (.seq x y) (some l) fr σ Q := h.lift fun _ => w_seq_past hl
theorem o_label {l : Nat} (h : O E L (Q .normal fr)) : O E L fun σ => W E call k fid (.label l) none fr σ Q := h.lift fun _ => w_label
theorem o_label_at {l : Nat} (h : O E L (Q .normal fr)) : O E L fun σ => W E call k fid (.label l) (some l) fr σ Q := h.lift fun _ => w_label_at
theorem o_skip (h : O E L (Q .normal fr)) : O E L fun σ => W E call k fid .skip none fr σ Q := h.lift fun _ => w_skip
theorem o_ret (h : O E L (Q .ret fr)) : O E L fun σ => W E call k fid .ret none fr σ Q := h.lift fun _ => w_ret
theorem o_exit {id : Nat} (h : O E L (Q (.exit id) fr)) : O E L fun σ => W E call k fid (.exit id) none fr σ Q := h.lift fun _ => w_exit
theorem o_goto {l : Nat} (h : O E L (Q (.goto l) fr)) : O E L fun σ => W E call k fid (.goto l) none fr σ Q := h.lift fun _ => w_goto
theorem o_block {id : Nat} {c : Code} (h : O E L fun σ => W E call k fid c none fr σ (caught id Q)) : O E L fun σ => W E call k fid (.block id c) none fr σ Q := h.lift fun _ => w_block

def OCond (E : Env) (call : CallF) (k : Nat) (fid : FuncId) (c : Operand) (x y : Code) (fr : List Value) (L : List Res) (Q : Ex → List Value → St → Prop) : Prop := O E L fun σ => W E call k fid (.cond c x y) none fr σ Q
theorem o_cond {c : Operand} {x y : Code} (h : OCond E call k fid c x y fr L Q) : O E L fun σ => W E call k fid (.cond c x y) none fr σ Q := h
theorem oc_b {c : Operand} {x y : Code} {b : Bool} (hc : Opd fr c = .bool b) (h1 : b = true → O E L fun σ => W E call k fid x none fr σ Q) (h2 : b = false → O E L fun σ => W E call k fid y none fr σ Q) : OCond E call k fid c x y fr L Q :=
  fun σ ho => w_cond hc (fun h => h1 h σ ho) (fun h => h2 h σ ho)
theorem oc_t {c : Operand} {x y : Code} (hc : Opd fr c = .bool true) (h1 : O E L fun σ => W E call k fid x none fr σ Q) : OCond E call k fid c x y fr L Q := oc_b hc (fun _ => h1) (fun h => by cases h)
theorem oc_f {c : Operand} {x y : Code} (hc : Opd fr c = .bool false) (h1 : O E L fun σ => W E call k fid y none fr σ Q) : OCond E call k fid c x y fr L Q := oc_b hc (fun h => by cases h) (fun _ => h1)
theorem oc_p {c : Operand} {x y : Code} {p : Prop} [Decidable p] (hc : Opd fr c = .bool (decide p)) (h1 : p → O E L fun σ => W E call k fid x none fr σ Q) (h2 : ¬ p → O E L fun σ => W E call k fid y none fr σ Q) : OCond E call k fid c x y fr L Q :=
  oc_b hc (fun h => h1 (of_decide_eq_true h)) (fun h => h2 (of_decide_eq_false h))
theorem oc_np {c : Operand} {x y : Code} {p : Prop} [Decidable p] (hc : Opd fr c = .bool (!decide p)) (h1 : ¬ p → O E L fun σ => W E call k fid x none fr σ Q) (h2 : p → O E L fun σ => W E call k fid y none fr σ Q) : OCond E call k fid c x y fr L Q :=
  oc_b hc (fun h => h1 (by simpa using h)) (fun h => h2 (by simpa using h))

theorem on_n (h : O E L (K fr)) : O E L (onward K Q .normal fr) := h
theorem on_r (h : O E L (Q .ret fr)) : O E L (onward K Q .ret fr) := h
theorem on_e {i : Nat} (h : O E L (Q (.exit i) fr)) : O E L (onward K Q (.exit i) fr) := h
theorem on_g {i : Nat} (h : O E L (Q (.goto i) fr)) : O E L (onward K Q (.goto i) fr) := h
theorem ca_n {id : Nat} (h : O E L (Q .normal fr)) : O E L (caught id Q .normal fr) := h
theorem ca_r {id : Nat} (h : O E L (Q .ret fr)) : O E L (caught id Q .ret fr) := h
theorem ca_g {id i : Nat} (h : O E L (Q (.goto i) fr)) : O E L (caught id Q (.goto i) fr) := h
theorem ca_e {id : Nat} (h : O E L (Q .normal fr)) : O E L (caught id Q (.exit id) fr) := h.lift fun _ => caught_e
theorem ca_ne {id i : Nat} (hi : i ≠ id) (h : O E L (Q (.exit i) fr)) : O E L (caught id Q (.exit i) fr) := h.lift fun _ => caught_ne hi
theorem ju_n {c : Code} {f : Nat → List Value → St → Prop} (h : O E L (Q .normal fr)) : O E L (jumps c f Q .normal fr) := h
theorem ju_r {c : Code} {f : Nat → List Value → St → Prop} (h : O E L (Q .ret fr)) : O E L (jumps c f Q .ret fr) := h
theorem ju_e {c : Code} {i : Nat} {f : Nat → List Value → St → Prop} (h : O E L (Q (.exit i) fr)) : O E L (jumps c f Q (.exit i) fr) := h
theorem ju_g {c : Code} {l : Nat} {f : Nat → List Value → St → Prop} (hl : hasLabel c l = true) (h : O E L (f l fr)) : O E L (jumps c f Q (.goto l) fr) := h.lift fun _ => jumps_g hl
theorem ju_ng {c : Code} {l : Nat} {f : Nat → List Value → St → Prop} (hl : hasLabel c l = false) (h : O E L (Q (.goto l) fr)) : O E L (jumps c f Q (.goto l) fr) := h.lift fun _ => jumps_ng hl

theorem o_scope {c : Code} (h : O E L fun σ => WHop E call k fid c k none fr σ Q) : O E L fun σ => W E call k fid (.scope c) none fr σ Q := h
theorem o_hop1 {c : Code} {m : Nat} {en : Option Nat} (h : O E L fun σ => W E call k fid c en fr σ (jumps c (fun l fr σ => WHop E call k fid c m (some l) fr σ Q) Q)) : O E L fun σ => WHop E call k fid c (m + 1) en fr σ Q := h.lift fun _ => whop_pass
theorem o_loop1 {c : Code} {m : Nat} (h : O E L fun σ => W E call k fid c none fr σ (onward (fun fr σ => WLoop E call k fid c m fr σ Q) Q)) : O E L fun σ => WLoop E call k fid c (m + 1) fr σ Q := h.lift fun _ => wloop_round

/-- A loop, by what holds ahead of each round. -/
theorem o_loop {c : Code} (J : Nat → List Value → List Res → Prop) (n : Nat) (hm : n < k) (h0 : J 0 fr L)
    (step : ∀ i fr L, i ≤ n → J i fr L → O E L fun σ => W E call k fid c none fr σ (onward (fun fr σ => i < n ∧ ∃ L', J (i + 1) fr L' ∧ Own E σ L') Q)) : O E L fun σ => W E call k fid (.loop c) none fr σ Q := by
  intro σ ho
  refine w_loop (wloop_from (fun i fr σ => ∃ L', J i fr L' ∧ Own E σ L') n hm ⟨L, h0, ho⟩ ?_)
  rintro i fr σ hi ⟨L', hj, ho⟩
  exact step i fr L' hi hj σ ho

/-- A scope whose code jumps back to one label: what holds at each jump; the code is passed the first time from its beginning. -/
theorem o_hop {c : Code} (l : Nat) (hl : hasLabel c l = true) (J : Nat → List Value → List Res → Prop) (n : Nat) (hm : n + 1 < k)
    (h0 : O E L fun σ => W E call k fid c none fr σ (jumps c (fun l' fr σ => l' = l ∧ ∃ L', J 0 fr L' ∧ Own E σ L') Q))
    (step : ∀ i fr L, i ≤ n → J i fr L → O E L fun σ => W E call k fid c (some l) fr σ (jumps c (fun l' fr σ => l' = l ∧ i < n ∧ ∃ L', J (i + 1) fr L' ∧ Own E σ L') Q)) : O E L fun σ => W E call k fid (.scope c) none fr σ Q := by
  intro σ ho
  refine w_scope ?_
  obtain ⟨k, rfl⟩ : ∃ m, k = m + 1 := ⟨k - 1, by omega⟩
  refine whop_pass ((h0 σ ho).mono ?_)
  intro e fr σ he
  cases e with
  | goto l' =>
    simp only [jumps] at he ⊢
    split at he
    · rename_i hy
      rw [if_pos hy]
      obtain ⟨rfl, hi⟩ := he
      refine whop_inv l' hl (fun i fr σ => ∃ L', J i fr L' ∧ Own E σ L') n ?_ n 0 k fr σ rfl (Nat.zero_le _) (by omega) hi
      rintro i fr σ hi ⟨L', hj, ho⟩
      exact step i fr L' hi hj σ ho
    · rename_i hn; rw [if_neg hn]; exact he
  | _ => exact he

theorem o_next {i n : Nat} {J : List Res → Prop} (hi : i < n) (hj : J L') (he : Ent L L') : O E L fun σ => i < n ∧ ∃ L', J L' ∧ Own E σ L' := fun σ ho => ⟨hi, L', hj, he.own ho⟩
theorem o_nextg {i n l l' : Nat} {J : List Res → Prop} (hl : l' = l) (hi : i < n) (hj : J L') (he : Ent L L') : O E L fun σ => l' = l ∧ i < n ∧ ∃ L', J L' ∧ Own E σ L' := fun σ ho => ⟨hl, hi, L', hj, he.own ho⟩
theorem o_firstg {l l' : Nat} {J : List Res → Prop} (hl : l' = l) (hj : J L') (he : Ent L L') : O E L fun σ => l' = l ∧ ∃ L', J L' ∧ Own E σ L' := fun σ ho => ⟨hl, L', hj, he.own ho⟩
theorem exists_ts {fr : List Value} {F : (Nat → Value) → List Value} (h : fr = F (fun i => fr.getD i undef)) : ∃ ts, fr = F ts := ⟨_, h⟩
end

/-! Regions. -/
/-- The rest of a region: 'base' is the number of its first block to come. -/
def RSV (ops : List Oper) (base i : Nat) : Res := .rsv (base + i) (ops.length - i)
def RO (E : Env) (call : CallF) (ops : List Oper) (base i : Nat) (rest : List Oper) (fr : List Value) (L : List Res) (K : List Rec → List Value → St → Prop) : Prop :=
  O E (RSV ops base i :: L) fun σ => WR E call ops base i rest fr σ K
/-- The next operation of a region. -/
def ROC (E : Env) (call : CallF) (ops : List Oper) (base i : Nat) (o : Oper) (rest : List Oper) (fr : List Value) (L : List Res) (K : List Rec → List Value → St → Prop) : Prop := RO E call ops base i (o :: rest) fr L K

section
variable {E : Env} {call : CallF} {k : Nat} {fid : FuncId} {fr fr' : List Value} {L L' R : List Res}

theorem Own.begin {σ : St} {m : Nat} (h : Own E σ L) : Own E ⟨σ.heap, σ.next + m⟩ (.rsv σ.next m :: L) := by
  have hb := h.base
  refine ⟨by simp only; omega, ?_, ?_, ?_⟩
  · rw [idsL_cons, List.nodup_append]
    refine ⟨List.nodup_range', h.nodup, ?_⟩
    intro a ha b hb e
    subst e
    have := (h.lt a hb).2
    have := (List.mem_range'_1.1 ha).1
    omega
  · intro b hb
    rw [idsL_cons] at hb
    rcases List.mem_append.1 hb with hb | hb
    · have := List.mem_range'_1.1 hb
      exact ⟨by omega, by simp only; omega⟩
    · have := h.lt b hb
      exact ⟨this.1, by simp only; omega⟩
  · intro r hr
    rcases List.mem_cons.1 hr with rfl | hr
    · trivial
    · exact h.ok r hr

theorem Own.split {σ : St} {lo n : Nat} (h : Own E σ (.rsv lo (n + 1) :: L)) : Own E σ (.rsv lo 1 :: .rsv (lo + 1) n :: L) := by
  have := Own.upd (A := [.rsv lo (n + 1)]) (A' := [.rsv lo 1, .rsv (lo + 1) n]) (h' := σ.heap) h (by simp [idsL, Res.ids, List.nodup_range', List.mem_range'_1]; omega) (by simp only [idsL, List.flatMap_cons, List.flatMap_nil, Res.ids, List.mem_append, List.mem_range'_1, List.append_nil]; intro b hb; omega) (by simp [Res.ok]) (fun _ _ => rfl)
  exact this

theorem o_region {pr : FuncId → Nat → List (Nat × Nat)} {id : Nat} {ops : List Oper} {d : Bool} {Q : Ex → List Value → St → Prop} (hpr : E.pairs = pr) (hp : pr fid id = []) (hx : ∀ base, RO E call ops base 0 ops fr L fun _ fr σ => Q .normal fr σ) : O E L fun σ => W E call k fid (.region id ops.toArray d) none fr σ Q := by
  intro σ ho
  subst hpr
  refine w_region hp (hx σ.next _ ?_)
  have := ho.begin (m := ops.length)
  simpa [RSV] using this

theorem o_regionP {pr : FuncId → Nat → List (Nat × Nat)} {id : Nat} {ops : List Oper} {d : Bool} {Q : Ex → List Value → St → Prop} (ps : List (Nat × Nat)) (hpr : E.pairs = pr) (hp : pr fid id = ps) (hx : ∀ base, RO E call ops base 0 ops fr L fun rs fr σ => pairsOk rs ps = true ∧ Q .normal fr σ) : O E L fun σ => W E call k fid (.region id ops.toArray d) none fr σ Q := by
  intro σ ho
  subst hpr
  refine w_region_pairs ps hp (hx σ.next _ ?_)
  have := ho.begin (m := ops.length)
  simpa [RSV] using this
end

section
variable {E : Env} {call : CallF} {ops : List Oper} {base i : Nat} {o : Oper} {rest : List Oper} {fr fr' : List Value} {L L' R : List Res} {K : List Rec → List Value → St → Prop} {P : Program}

theorem ro_nil (hx : O E L (K [] fr)) : RO E call ops base i [] fr L K := fun σ ho => wr_nil (hx σ ho.tail)
theorem ro_pairs {rs : List Rec} {ps : List (Nat × Nat)} {G : St → Prop} (hp : ∀ σ, Own E σ L → pairsOk rs ps = true) (hx : O E L G) : O E L fun σ => pairsOk rs ps = true ∧ G σ := fun σ ho => ⟨hp σ ho, hx σ ho⟩
theorem ro_cons (hx : ROC E call ops base i o rest fr L K) : RO E call ops base i (o :: rest) fr L K := hx
theorem ro_put {d : Option Tmp} {v : Value} {j : Nat} {rest : List Oper} (hf : put fr d v = fr') (hx : RO E call ops base j rest fr' L K) : RO E call ops base j rest (put fr d v) L K := by subst hf; exact hx

/-- An operation that is carried out, in general. -/
theorem ro_mem (hc : callOf o = none) (hw : Region.wanted o (yieldA ops fr) = true)
    (h : ∀ σ r, Own E σ (.rsv (base + i) 1 :: r :: L) → ∃ e L', evOp E (Opd fr) (base + i) σ.heap.get o = some e ∧ Own E ⟨upds σ.heap e.upd, σ.next⟩ (r :: L') ∧
      RO E call ops base (i + 1) rest (put fr o.dst e.val) L' fun rs => K (.mem (fun g => evOp E (Opd fr) (base + i) g o) e :: rs)) : ROC E call ops base i o rest fr L K := by
  intro σ ho hl
  have ho' : ops[i]? = some o := by simpa using (hl 0).symm
  have hlt : i < ops.length := (List.getElem?_eq_some_iff.1 ho').1
  refine wr_cons ?_ hl
  unfold WStep
  rw [if_pos hw]
  simp only [hc]
  have e1 : ops.length - i = (ops.length - (i + 1)) + 1 := by omega
  unfold RSV at ho
  rw [e1] at ho
  obtain ⟨e, L', he, hown, hx⟩ := h σ _ ho.split
  exact ⟨e, he, hx _ (by unfold RSV; rw [← Nat.add_assoc]; exact hown)⟩

theorem ro_off (hw : Region.wanted o (yieldA ops fr) = false) (hx : RO E call ops base (i + 1) rest (put fr o.dst undef) L fun rs => K (.quiet :: rs)) : ROC E call ops base i o rest fr L K := by
  intro σ ho hl
  have ho' : ops[i]? = some o := by simpa using (hl 0).symm
  have hlt : i < ops.length := (List.getElem?_eq_some_iff.1 ho').1
  refine wr_cons ?_ hl
  unfold WStep
  rw [if_neg (by simp [hw])]
  have e1 : ops.length - i = (ops.length - (i + 1)) + 1 := by omega
  unfold RSV at ho
  rw [e1] at ho
  exact hx _ (by unfold RSV; rw [← Nat.add_assoc]; exact ho.split.tail)

theorem ro_test {b : Bool} (hw : Region.wanted o (yieldA ops fr) = b)
    (h1 : b = true → Region.wanted o (yieldA ops fr) = true → RO E call ops base i (o :: rest) fr L K) (h2 : b = false → Region.wanted o (yieldA ops fr) = false → RO E call ops base i (o :: rest) fr L K) : ROC E call ops base i o rest fr L K := by
  cases b
  · exact h2 rfl hw
  · exact h1 rfl hw
theorem ro_test_p {p : Prop} [Decidable p] (hw : Region.wanted o (yieldA ops fr) = decide p)
    (h1 : p → Region.wanted o (yieldA ops fr) = true → RO E call ops base i (o :: rest) fr L K) (h2 : ¬ p → Region.wanted o (yieldA ops fr) = false → RO E call ops base i (o :: rest) fr L K) : ROC E call ops base i o rest fr L K := by
  by_cases hp : p
  · exact h1 hp (by rw [hw]; exact decide_eq_true hp)
  · exact h2 hp (by rw [hw]; exact decide_eq_false hp)
theorem ro_test_np {p : Prop} [Decidable p] (hw : Region.wanted o (yieldA ops fr) = !decide p)
    (h1 : ¬ p → Region.wanted o (yieldA ops fr) = true → RO E call ops base i (o :: rest) fr L K) (h2 : p → Region.wanted o (yieldA ops fr) = false → RO E call ops base i (o :: rest) fr L K) : ROC E call ops base i o rest fr L K := by
  by_cases hp : p
  · exact h2 hp (by rw [hw]; simp [hp])
  · exact h1 hp (by rw [hw]; simp [hp])

/-- An operation that touches no memory. -/
theorem ro_pure {v : Value} (hc : callOf o = none) (hw : Region.wanted o (yieldA ops fr) = true) (he : ∀ g nid, evOp E (Opd fr) nid g o = some ⟨v, [], []⟩)
    (hx : RO E call ops base (i + 1) rest (put fr o.dst v) L fun rs => K (.mem (fun g => evOp E (Opd fr) (base + i) g o) ⟨v, [], []⟩ :: rs)) : ROC E call ops base i o rest fr L K :=
  ro_mem hc hw fun σ r ho => ⟨_, L, he _ _, ho.tail, hx⟩

theorem Own.alloc {σ : St} {b : Nat} {r : Res} {c : List Value} {el : TypeId} {ex : Bool} (ho : Own E σ (.rsv b 1 :: r :: L)) : Own E ⟨σ.heap.set b (some (.cells c el ex)), σ.next⟩ (r :: .blk b c el ex :: L) := by
  have h1 := Own.upd (A := [.rsv b 1]) (A' := [.blk b c el ex]) (h' := σ.heap.set b (some (.cells c el ex))) ho (by simp [idsL, Res.ids]) (by simp [idsL, Res.ids]) (by simp [Res.ok, T.get_set_self]) (fun x hx => by simp [idsL, Res.ids] at hx; exact T.get_set_ne _ _ _ _ hx)
  exact h1.perm (List.Perm.swap _ _ _)

/-- A new block. -/
theorem ro_alloc {v : Nat → Value} {c : List Value} {el : TypeId} {ex : Bool} (hc : callOf o = none) (hw : Region.wanted o (yieldA ops fr) = true) (he : ∀ g nid, evOp E (Opd fr) nid g o = some ⟨v nid, [(nid, some (.cells c el ex))], []⟩)
    (hx : ∀ b, RO E call ops base (i + 1) rest (put fr o.dst (v b)) (.blk b c el ex :: L) fun rs => K (.mem (fun g => evOp E (Opd fr) (base + i) g o) ⟨v b, [(b, some (.cells c el ex))], []⟩ :: rs)) : ROC E call ops base i o rest fr L K :=
  ro_mem hc hw fun σ r ho => ⟨_, _, he _ _, ho.alloc, hx _⟩

theorem ro_load1 {t : TypeId} {x : Operand} {b off : Nat} {c : List Value} {el : TypeId} {ex : Bool} {v : Value} (hw : Region.wanted o (yieldA ops fr) = true) (hop : o.op = .load t x) (hP : E.P = P) (ha : isAggT P t = some false) (hx : Opd fr x = .pointer (some ⟨b, off, none⟩)) (hs : Sel L (.blk b c el ex) R) (hv : c[off]? = some v)
    (hk : RO E call ops base (i + 1) rest (put fr o.dst v) L fun rs => K (.mem (fun g => evOp E (Opd fr) (base + i) g o) ⟨v, [], [b]⟩ :: rs)) : ROC E call ops base i o rest fr L K :=
  ro_mem (by unfold callOf; rw [hop]) hw fun σ r ho => by
    have hg := ho.tail.tail.get hs
    exact ⟨_, L, ev_load1 hop hP ha hx hg.1 hg.2 hv, ho.tail, hk⟩

theorem ro_loadN {t : TypeId} {x : Operand} {b off m : Nat} {c l : List Value} {el : TypeId} {ex : Bool} (hw : Region.wanted o (yieldA ops fr) = true) (hop : o.op = .load t x) (hP : E.P = P) (ha : isAggT P t = some true) (hx : Opd fr x = .pointer (some ⟨b, off, none⟩)) (hs : Sel L (.blk b c el ex) R)
    (hm : sizeT P t = some m) (hle : off + m ≤ c.length) (hl : (c.drop off).take m = l)
    (hk : RO E call ops base (i + 1) rest (put fr o.dst (.agg l.toArray)) L fun rs => K (.mem (fun g => evOp E (Opd fr) (base + i) g o) ⟨.agg l.toArray, [], [b]⟩ :: rs)) : ROC E call ops base i o rest fr L K :=
  ro_mem (by unfold callOf; rw [hop]) hw fun σ r ho => by
    have hg := ho.tail.tail.get hs
    exact ⟨_, L, ev_loadN hop hP ha hx hg.1 hg.2 hm hle hl, ho.tail, hk⟩

theorem Own.write {σ : St} {b : Nat} {c c' : List Value} {el : TypeId} {ex : Bool} (ho : Own E σ (.blk b c el ex :: L)) : Own E ⟨σ.heap.set b (some (.cells c' el ex)), σ.next⟩ (.blk b c' el ex :: L) :=
  Own.upd (A := [.blk b c el ex]) (A' := [.blk b c' el ex]) ho (by simp [idsL, Res.ids]) (by simp [idsL, Res.ids]) (by simp [Res.ok, T.get_set_self]) (fun x hx => by simp [idsL, Res.ids] at hx; exact T.get_set_ne _ _ _ _ hx)

theorem ro_store {t : TypeId} {x y : Operand} {b off m : Nat} {c c' l : List Value} {el : TypeId} {ex : Bool} {v : Value} (hw : Region.wanted o (yieldA ops fr) = true) (hop : o.op = .store t x y) (hP : E.P = P) (hx : Opd fr x = .pointer (some ⟨b, off, none⟩)) (hy : Opd fr y = v) (hs : Sel L (.blk b c el ex) R)
    (hm : sizeT P t = some m) (hl : v.cells.toList = l) (hlen : l.length = m) (hone : l.all oneCell = true) (hle : off + m ≤ c.length) (hwr : wrList c off l = c')
    (hk : RO E call ops base (i + 1) rest (put fr o.dst (.tuple #[])) (.blk b c' el ex :: R) fun rs => K (.mem (fun g => evOp E (Opd fr) (base + i) g o) ⟨.tuple #[], [(b, some (.cells c' el ex))], [b]⟩ :: rs)) : ROC E call ops base i o rest fr L K :=
  ro_mem (by unfold callOf; rw [hop]) hw fun σ r ho => by
    have hg := ho.tail.tail.get hs
    refine ⟨_, .blk b c' el ex :: R, ev_store hop hP hx hy hg.1 hg.2 hm hl hlen hone hle hwr, ?_, hk⟩
    have h1 : Own E σ (.blk b c el ex :: r :: R) := (ho.tail.perm (hs.perm.cons r)).perm (List.Perm.swap _ _ _)
    exact (h1.write (c' := c')).perm (List.Perm.swap _ _ _)
end
end Go.Ab
