/- Arguments that come in, opened: plain values, structs of such, slices of such. -/
import Derived.Test.YtllffogcdeempaaFwV
import Derived.Deep.Slices
import Derived.ChangeArms
import Derived.DataReads
import Derived.WideShapes
set_option linter.all false
open Go.RowKit Go.WideShapes
namespace Go.Ab

inductive CK where
  | int (k : IntKind)
  | bool
  | str

def CK.ok : CK → Value → Prop
  | .int k, v => ∃ n, v = .int k n ∧ (Lit.int k n).wf = true
  | .bool, v => ∃ b, v = .bool b
  | .str, v => ∃ s : ByteArray, v = .string s ∧ s.size ≤ maxLen

def ckAll : List CK → List Value → Prop
  | [], [] => True
  | k :: ks, v :: vs => k.ok v ∧ ckAll ks vs
  | _, _ => False

theorem ckAll_append : ∀ (ks ls : List CK) (vs us : List Value), ckAll ks vs → ckAll ls us → ckAll (ks ++ ls) (vs ++ us)
  | [], ls, [], us, _, h => h
  | k :: ks, ls, v :: vs, us, h1, h2 => ⟨h1.1, ckAll_append ks ls vs us h1.2 h2⟩
  | [], _, _ :: _, _, h, _ => h.elim
  | _ :: _, _, [], _, h, _ => h.elim

theorem ckAll_len : ∀ (ks : List CK) (vs : List Value), ckAll ks vs → vs.length = ks.length
  | [], [], _ => rfl
  | k :: ks, v :: vs, h => by simp [ckAll_len ks vs h.2]
  | [], _ :: _, h => h.elim
  | _ :: _, [], h => h.elim

theorem ckAll_int {k : IntKind} {ks : List CK} {vs : List Value} (h : ckAll (.int k :: ks) vs) : ∃ n r, vs = .int k n :: r ∧ (Lit.int k n).wf = true ∧ ckAll ks r := by
  match vs, h with
  | v :: r, ⟨⟨n, e, hw⟩, h2⟩ => exact ⟨n, r, by rw [e], hw, h2⟩
theorem ckAll_bool {ks : List CK} {vs : List Value} (h : ckAll (.bool :: ks) vs) : ∃ n r, vs = .bool n :: r ∧ ckAll ks r := by
  match vs, h with
  | v :: r, ⟨⟨n, e⟩, h2⟩ => exact ⟨n, r, by rw [e], h2⟩
theorem ckAll_str {ks : List CK} {vs : List Value} (h : ckAll (.str :: ks) vs) : ∃ n r, vs = .string n :: r ∧ n.size ≤ maxLen ∧ ckAll ks r := by
  match vs, h with
  | v :: r, ⟨⟨n, e, hw⟩, h2⟩ => exact ⟨n, r, by rw [e], hw, h2⟩
theorem ckAll_nil {vs : List Value} (h : ckAll [] vs) : vs = [] := by
  match vs, h with
  | [], _ => rfl

theorem ckAll_flat : ∀ (ks : List CK) (vs : List Value), ckAll ks vs → ∀ v ∈ vs, flatS v = true
  | [], [], _ => by simp
  | k :: ks, v :: vs, h => by
    intro u hu
    rcases List.mem_cons.1 hu with rfl | hu
    · cases k <;> (first | obtain ⟨n, rfl, _⟩ := h.1 | obtain ⟨n, rfl⟩ := h.1) <;> rfl
    · exact ckAll_flat ks vs h.2 u hu
  | [], _ :: _, h => h.elim
  | _ :: _, [], h => h.elim

def flatK (P : Program) : Nat → TypeId → Option (List CK)
  | 0, _ => none
  | d + 1, t => match P.underlying t with
    | some .bool => some [.bool]
    | some (.int k) => some [.int k]
    | some .string => some [.str]
    | some (.struct fs) => match go P (flatK P d) fs.toList 0 with
      | some ks => if ks.length = P.cellsOf t then some ks else none
      | none => none
    | _ => none
where
  go (P : Program) (r : TypeId → Option (List CK)) : List Field → Nat → Option (List CK)
    | [], _ => some []
    | f :: l, off => if f.offset = off then
        match r f.type with
        | some ks => if ks.length = P.cellsOf f.type then
            match go P r l (off + ks.length) with
            | some r => some (ks ++ r)
            | none => none
          else none
        | none => none
      else none

section
variable {H : Type} {enc : TypeId × Value → H} {P : Program} {w : World} {base : Nat} {spare : Nat → Bool} {held : Bool}

theorem go_flat {r : TypeId → Option (List CK)} {n : Nat} (hr : ∀ t ks cs x, r t = some ks → DataW.trod enc P w base spare held n t cs = some x → ckAll ks cs) (cs : List Value) :
    ∀ (l : List Field) (off : Nat) (ks : List CK), flatK.go P r l off = some ks → (∀ f ∈ l, ∃ x, DataW.trod enc P w base spare held n f.type ((cs.drop f.offset).take (P.cellsOf f.type)) = some x) → cs.length = off + ks.length → ckAll ks (cs.drop off)
  | [], off, ks, h, _, hl => by
    simp only [flatK.go, Option.some.injEq] at h
    subst h
    rw [List.drop_eq_nil_of_le (by simp at hl; omega)]
    trivial
  | f :: l, off, ks, h, hf, hl => by
    simp only [flatK.go] at h
    split at h
    case isFalse => cases h
    rename_i ho
    split at h
    case h_2 => cases h
    rename_i k1 hk1
    split at h
    case isFalse => cases h
    rename_i hlen
    split at h
    case h_2 => cases h
    rename_i k2 hk2
    cases h
    obtain ⟨x, hx⟩ := hf f (by simp)
    have h1 := hr _ _ _ _ hk1 hx
    have h2 := go_flat hr cs l _ _ hk2 (fun g hg => hf g (by simp [hg])) (by simp at hl; omega)
    rw [ho, ← hlen] at h1
    have e : cs.drop off = (cs.drop off).take k1.length ++ cs.drop (off + k1.length) := by
      rw [← List.drop_drop, List.take_append_drop]
    rw [e]
    exact ckAll_append _ _ _ _ h1 h2

theorem trod_flat : ∀ (d : Nat) (t : TypeId) (ks : List CK) (n : Nat) (cs : List Value) (x : DataW H × List MemPlace), flatK P d t = some ks → DataW.trod enc P w base spare held n t cs = some x → ckAll ks cs
  | 0, _, _, _, _, _, h, _ => by cases h
  | d + 1, t, ks, n, cs, x, h, hx => by
    unfold flatK at h
    split at h
    · rename_i ht
      cases h
      obtain ⟨b, rfl, _⟩ := DataW.trod_bool ht hx
      exact ⟨⟨b, rfl⟩, trivial⟩
    · rename_i k ht
      cases h
      obtain ⟨b, rfl, _, hw⟩ := DataW.trod_int ht hx
      exact ⟨⟨b, rfl, hw⟩, trivial⟩
    · rename_i ht
      cases h
      obtain ⟨b, rfl, _, hw⟩ := DataW.trod_string ht hx
      exact ⟨⟨b, rfl, hw⟩, trivial⟩
    · rename_i fs ht
      split at h
      case h_2 => cases h
      rename_i k1 hk1
      split at h
      case isFalse => cases h
      rename_i hlen
      cases h
      obtain ⟨xs, m, rfl, _, hcl, hxl, hf⟩ := DataW.trod_struct ht hx
      have := go_flat (n := m) (fun t ks cs x h1 h2 => trod_flat d t ks m cs x h1 h2) cs fs.toList 0 ks hk1 (fun f hm => by
        obtain ⟨i, hi⟩ := List.getElem?_of_mem hm
        have hi' : fs[i]? = some f := by simpa using hi
        have hlt : i < xs.length := by
          have := (Array.getElem?_eq_some_iff.1 hi').1
          omega
        exact ⟨xs[i], by rw [hf i f hi', List.getElem?_eq_getElem hlt]⟩) (by omega)
      simpa using this
    · cases h

theorem old_flat {old : Nat} {v : Value} (h : flatS v = true) : oldV old v = true := by
  unfold oldV
  split
  · simp [flatS] at h
  · simp [flatS] at h
  · exact h

theorem rdOld_of {E : Env} (b : Nat) : ∀ (cs : List Value) (o : Nat), (∀ v ∈ cs, flatS v = true) → (∀ q, q < cs.length → E.base ⟨b, o + q, none⟩ = cs[q]?) → rdOld E b o cs.length = some cs
  | [], o, _, _ => rfl
  | v :: cs, o, hf, h => by
    have h0 := h 0 (by simp)
    simp only [Nat.add_zero, List.getElem?_cons_zero] at h0
    have hv : oldV E.old v = true := old_flat (hf v (by simp))
    have ih := rdOld_of (E := E) b cs (o + 1) (fun u hu => hf u (by simp [hu])) (fun q hq => by
      have := h (q + 1) (by simp; omega)
      rw [List.getElem?_cons_succ] at this
      rw [← this]
      congr 2
      omega)
    simp only [List.length_cons, rdOld, h0, hv, ih, if_true]

/-- A slice of plain values, structs of such, that came in. -/
theorem open_flat {t e : TypeId} {ks : List CK} {d : Nat} {v : Value} {dd : DataW H} {ps : List MemPlace} (ht : P.underlying t = some (.slice e)) (hk : flatK P d e = some ks) (hc : P.cellsOf e = ks.length)
    (h : DataW.Trod enc P w 0 (fun _ => true) held t v dd ps) (hok : Value.okWide P w .any 0 t v) :
    ∃ (a : Option Addr) (n c b o : Nat) (C : Nat → List Value), v = .slice a n c ∧ oldV w.heap.size (.slice a n c) = true ∧ n ≤ c ∧ c ≤ maxLen ∧ (0 < n → a = some ⟨b, o, none⟩ ∧ b < w.heap.size) ∧
      ∀ j, j < n → ckAll ks (C j) ∧ ∀ sum pr, rdOld ⟨P, w.heap.size, fun a => w.cell? a, sum, pr⟩ b (o + j * ks.length) ks.length = some (C j) := by
  obtain ⟨fuel, hf⟩ := h
  obtain ⟨a0, n0, c0, rfl⟩ := okWide_slice ht hok
  rcases Go.Deep.open_slice ht hf with ⟨hcs, _⟩ | ⟨x, l, c, m, n, D, Pl, hcs, _, hl, hm, hmm, _, hx⟩
  · simp [Value.cells] at hcs
    obtain ⟨rfl, rfl, rfl⟩ := hcs
    exact ⟨none, 0, 0, 0, 0, fun _ => [], rfl, rfl, by omega, by unfold maxLen; omega, fun h => absurd h (by omega), fun j hj => absurd hj (by omega)⟩
  · simp [Value.cells] at hcs
    obtain ⟨rfl, rfl, rfl⟩ := hcs
    simp only [Value.okWide, ht, Cell.okWide, Cell.ok] at hok
    obtain ⟨_, _, _, hsp, row, cells, hsh, _⟩ := hok
    have hb : x.block < w.heap.size := by
      refine Nat.lt_of_not_le fun hle => ?_
      have hn : w.heap[x.block]? = none := Array.getElem?_eq_none hle
      simp [World.shape?, hn] at hsh
    obtain ⟨xb, xo, xs⟩ := x
    simp only at hsp hb
    subst hsp
    simp only [if_true] at hmm
    subst hmm
    obtain ⟨C, hC⟩ := Go.Deep.choose_lt hx
    refine ⟨_, _, _, xb, xo, C, rfl, by simp [oldV, hb], hl, hm, fun _ => ⟨rfl, hb⟩, fun j hj => ?_⟩
    obtain ⟨h1, h2⟩ := hC j (by omega)
    have hck := trod_flat d e ks n (C j) _ hk h2
    refine ⟨hck, fun sum pr => ?_⟩
    obtain ⟨_, hlen, hcell⟩ := World.cells?_some h1
    rw [← hc, ← hlen]
    refine rdOld_of _ _ _ (ckAll_flat _ _ hck) fun q hq => ?_
    have := hcell q (by omega)
    rw [Go.Deep.add_add] at this
    rw [← this]
    simp only [hlen]
    unfold Addr.add
    split <;> simp_all [Nat.add_assoc]
end

theorem fits64 {a : Int} (h : (Lit.int .i64 a).wf = true) : -9223372036854775808 ≤ a ∧ a ≤ 9223372036854775807 := by
  simp [Lit.wf, IntKind.min, IntKind.max, IntKind.bits, IntKind.signed] at h
  omega
theorem fits8 {a : Int} (h : (Lit.int .u8 a).wf = true) : 0 ≤ a ∧ a ≤ 255 := by
  simp [Lit.wf, IntKind.min, IntKind.max, IntKind.bits, IntKind.signed] at h
  omega
theorem fits16 {a : Int} (h : (Lit.int .u16 a).wf = true) : 0 ≤ a ∧ a ≤ 65535 := by
  simp [Lit.wf, IntKind.min, IntKind.max, IntKind.bits, IntKind.signed] at h
  omega
end Go.Ab
