/- slices.Insert of one element: an entry of the table. -/
import Derived.Test.YtllffogcdeempaaFwZH
set_option linter.all false
open Go.RowKit
namespace Go.Ab

/-- A block told to its end. -/
theorem Rel.view {E : Env} {w0 w : World} {μ : Mu} {σ : St} (hr : Rel E w0 μ σ w) {a : Nat} {c : List Value} {e : TypeId} {x : Bool} (ha : σ.heap.get a = some (.cells c e x)) {p : Pl} (hp : μ a = some p) :
    ∃ ext : List Value, (∀ v ∈ ext, flatS v = true) ∧ p.st + (c ++ ext).length = p.tot ∧
      Rel E w0 (fun k => if k = σ.next then some ⟨p.c, p.st, (c ++ ext).length, true, p.sz, p.tot⟩ else if k < σ.next then μ k else none) ⟨(σ.heap.set a none).set σ.next (some (.cells (c ++ ext) e true)), σ.next + 1⟩ w := by
  obtain ⟨p', hp', h1, h2, h3, C, fz, h4, h5, h6, h7, h8, h9, h10⟩ := hr.blk _ _ ha
  rw [hp] at hp'; cases hp'
  have hfl : ∀ v ∈ C.toList.drop (p.st + p.n), flatS v = true := by
    intro v hv
    obtain ⟨i, hi⟩ := List.getElem?_of_mem hv
    rw [List.getElem?_drop] at hi
    cases x with
    | false => exact h10.1 (p.st + p.n + i) v rfl (by omega) (by simpa using hi)
    | true =>
      have := (List.getElem?_eq_some_iff.1 hi).1
      have h7' := h7 rfl
      simp at this; omega
  have hlen : p.st + (c ++ C.toList.drop (p.st + p.n)).length = p.tot := by
    have hcs : C.toList.length = C.size := Array.length_toList
    simp only [List.length_append, List.length_drop]; omega
  refine ⟨C.toList.drop (p.st + p.n), hfl, hlen, ?_⟩
  refine hr.reab hr (fun _ _ => rfl) a a ha (fun k bk hk _ h => hk h.symm) (fun k bk _ h => h) (q := ⟨p.c, p.st, (c ++ C.toList.drop (p.st + p.n)).length, true, p.sz, p.tot⟩) hp rfl ?_
  refine ⟨rfl, rfl, (fun h => by cases h), C, fz, h4, h5, by simp only; omega, fun _ => by simp only; omega, h8, fun i v hv => ?_, (fun j v h => by cases h), h10.2⟩
  simp only
  by_cases hi : i < c.length
  · rw [List.getElem?_append_left hi] at hv
    exact h9 i v hv
  · rw [List.getElem?_append_right (by omega), List.getElem?_drop] at hv
    have he : C[p.st + i]? = some v := by
      rw [← hv, Array.getElem?_toList]; congr 1; omega
    exact ⟨v, he, .flat _ (hfl v (by rw [List.mem_iff_getElem?]; exact ⟨i - c.length, by rw [List.getElem?_drop]; exact hv⟩))⟩

/-- Cells with an element put in, where there is room. -/
def insC (sz : Nat) (c new : List Value) (off n i : Nat) : List Value :=
  c.take (off + i * sz) ++ (new ++ ((c.drop (off + i * sz)).take ((n - i) * sz) ++ c.drop (off + (n + 1) * sz)))
/-- .. and where there is none. -/
def insG (sz : Nat) (c new : List Value) (off n i : Nat) : List Value :=
  (c.drop off).take (i * sz) ++ (new ++ (c.drop (off + i * sz)).take ((n - i) * sz))
theorem insC_len {sz : Nat} {c new : List Value} {off n i : Nat} (hn : new.length = sz) (hi : i ≤ n) (hl : off + (n + 1) * sz ≤ c.length) : (insC sz c new off n i).length = c.length := by
  have e1 : n * sz = i * sz + (n - i) * sz := by rw [← Nat.add_mul]; congr 1; omega
  have e2 : (n + 1) * sz = n * sz + sz := Nat.succ_mul _ _
  simp only [insC, List.length_append, List.length_take, List.length_drop, hn]
  omega
theorem insC_app {sz : Nat} {c new ext : List Value} {off n i : Nat} (hi : i ≤ n) (hl : off + (n + 1) * sz ≤ c.length) : insC sz (c ++ ext) new off n i = insC sz c new off n i ++ ext := by
  have e1 : n * sz = i * sz + (n - i) * sz := by rw [← Nat.add_mul]; congr 1; omega
  have e2 : (n + 1) * sz = n * sz + sz := Nat.succ_mul _ _
  unfold insC
  rw [List.take_append_of_le_length (by omega), List.drop_append_of_le_length (by omega), List.drop_append_of_le_length (by omega), List.take_append_of_le_length (by rw [List.length_drop]; omega)]
  simp only [List.append_assoc]
theorem insC_mem {sz : Nat} {c new : List Value} {off n i : Nat} {v : Value} (h : v ∈ insC sz c new off n i) : v ∈ c ∨ v ∈ new := by
  simp only [insC, List.mem_append] at h
  rcases h with h | h | h | h
  · exact .inl (List.mem_of_mem_take h)
  · exact .inr h
  · exact .inl (List.mem_of_mem_drop (List.mem_of_mem_take h))
  · exact .inl (List.mem_of_mem_drop h)
theorem insG_mem {sz : Nat} {c new : List Value} {off n i : Nat} {v : Value} (h : v ∈ insG sz c new off n i) : v ∈ c ∨ v ∈ new := by
  simp only [insG, List.mem_append] at h
  rcases h with h | h | h
  · exact .inl (List.mem_of_mem_drop (List.mem_of_mem_take h))
  · exact .inr h
  · exact .inl (List.mem_of_mem_drop (List.mem_of_mem_take h))

theorem insG_len {sz : Nat} {c new : List Value} {off n i : Nat} (hn : new.length = sz) (hi : i ≤ n) (hl : off + n * sz ≤ c.length) : (insG sz c new off n i).length = (n + 1) * sz := by
  have e1 : n * sz = i * sz + (n - i) * sz := by rw [← Nat.add_mul]; congr 1; omega
  have e2 : (n + 1) * sz = n * sz + sz := Nat.succ_mul _ _
  simp only [insG, List.length_append, List.length_take, List.length_drop, hn]
  omega
theorem insG_app {sz : Nat} {c new ext : List Value} {off n i : Nat} (hi : i ≤ n) (hl : off + n * sz ≤ c.length) : insG sz (c ++ ext) new off n i = insG sz c new off n i := by
  have e1 : n * sz = i * sz + (n - i) * sz := by rw [← Nat.add_mul]; congr 1; omega
  unfold insG
  rw [List.drop_append_of_le_length (by omega), List.take_append_of_le_length (by rw [List.length_drop]; omega), List.drop_append_of_le_length (by omega), List.take_append_of_le_length (by rw [List.length_drop]; omega)]
theorem insC_split {sz : Nat} {c new : List Value} {off n i : Nat} : insC sz c new off n i = c.take off ++ (insG sz c new off n i ++ c.drop (off + (n + 1) * sz)) := by
  unfold insC insG
  rw [List.take_add]
  simp only [List.append_assoc]
theorem BRel.part {E : Env} {μ μf : Mu} {pl : Pl} {wf : World} {D pre mid post : List Value} {e : TypeId} {xD x' : Bool} {sz : Nat} (h : BRel E μf pl wf (.cells D e xD)) (hD : D = pre ++ (mid ++ post)) (hk : ∀ z ∈ mid, ∃ z0, VRel E.old μ z z0) (hle : Le μ μf) (hfl : x' = false → ∀ z ∈ post, flatS z = true)
    (hx : x' = true → post = [] ∧ xD = true) (hsz : x' = false → sizeT E.P e = some sz) : BRel E μ ⟨pl.c, pl.st + pre.length, mid.length, x', sz, pl.tot⟩ wf (.cells mid e x') := by
  subst hD
  obtain ⟨h1, h2, h3, C, fz, h4, h5, h6, h7, h8, h9, h10⟩ := h
  simp only [List.length_append] at h1
  refine ⟨rfl, rfl, hsz, C, fz, h4, h5, by simp only; omega, fun hx' => ?_, h8, fun i v hv => ?_, fun j v hx' hj hv => ?_, h10.2⟩
  · obtain ⟨rfl, hxD⟩ := hx hx'
    have := h7 hxD
    simp only [List.length_nil] at h1 ⊢; omega
  · have hi := (List.getElem?_eq_some_iff.1 hv).1
    obtain ⟨v', q1, q2⟩ := h9 (pre.length + i) v (by rw [List.getElem?_append_right (by omega), Nat.add_sub_cancel_left, List.getElem?_append_left hi]; exact hv)
    obtain ⟨z0, hz⟩ := hk v (List.mem_of_getElem? hv)
    exact ⟨v', by rw [← q1]; congr 1; simp only; omega, hz.restrict hle q2⟩
  · simp only at hj
    by_cases hj2 : j < pl.st + pl.n
    · have hlt : j - pl.st - pre.length - mid.length < post.length := by omega
      obtain ⟨v', q1, q2⟩ := h9 (j - pl.st) post[j - pl.st - pre.length - mid.length] (by
        rw [List.getElem?_append_right (by omega), List.getElem?_append_right (by omega), List.getElem?_eq_getElem hlt])
      rw [show pl.st + (j - pl.st) = j by omega, hv] at q1
      cases q1
      have hf := hfl hx' _ (List.getElem_mem hlt)
      rw [q2.flat_eq hf]; exact hf
    · cases xD with
      | false => exact h10.1 j v rfl (by omega) hv
      | true =>
        have := h7 rfl
        have := (Array.getElem?_eq_some_iff.1 hv).1
        omega

/-- slices.Insert of one element of one's own. -/
def sIns (P : Program) (el : TypeId) (sz : Nat) (args : List Value) (σ : St) : Option (Value × St) :=
  match args with
  | [.slice (some a) n cap, .int .i64 i, .slice (some v) m vc] =>
    match σ.heap.get v.block, σ.heap.get a.block with
    | some (.cells cv ev true), some (.cells c e x) =>
      if v.spot.isSome = true ∨ cv.length < v.off + sz ∨ isU8 P ev = true ∨ m ≠ 1 ∨ vc = 0 ∨ i < 0 ∨ (n : Int) < i ∨ 1000000 < n ∨ cv.all oneCell = false ∨ e ≠ el ∨ a.block = v.block ∨ c.length < a.off + cap * sz ∨ (x = false ∧ c.length ≠ a.off + cap * sz) ∨ cap < n ∨ cap = 0 ∨ ((c.drop a.off).take (n * sz)).all oneCell = false then none else
      if n + 1 ≤ cap then
        some (.slice (some ⟨σ.next, a.off, none⟩) (n + 1) cap, ⟨(σ.heap.set a.block none).set σ.next (some (.cells (insC sz c ((cv.drop v.off).take sz) a.off n i.toNat) el x)), σ.next + 1⟩)
      else
        some (.slice (some ⟨σ.next, 0, none⟩) (n + 1) (n + 1), ⟨(σ.heap.set a.block none).set σ.next (some (.cells (insG sz c ((cv.drop v.off).take sz) a.off n i.toNat) el false)), σ.next + 1⟩)
    | _, _ => none
  | [.slice none 0 0, .int .i64 0, .slice (some v) m vc] =>
    match σ.heap.get v.block with
    | some (.cells cv ev true) =>
      if v.spot.isSome = true ∨ cv.length < v.off + sz ∨ m ≠ 1 ∨ vc = 0 ∨ cv.all oneCell = false then none else
        some (.slice (some ⟨σ.next, 0, none⟩) 1 1, ⟨(σ.heap.set σ.next none).set σ.next (some (.cells ((cv.drop v.off).take sz) el false)), σ.next + 1⟩)
    | _ => none
  | _ => none

theorem sIns_mono (P : Program) (el : TypeId) (sz : Nat) : FnMono (sIns P el sz) := by
  intro args σ v σ' n x hn hlt h
  have hget : ∀ {k : Nat} {b : Blk}, σ.heap.get k = some b → (σ.heap.set n x).get k = some b := fun hk => set_ext hn _ _ hk
  have hne : ∀ {k : Nat} {b : Blk}, σ.heap.get k = some b → n ≠ k := fun hk e => by subst e; rw [hn] at hk; cases hk
  have fin : ∀ {k : Nat} {y z : Option Blk}, n ≠ k → ((σ.heap.set k y).set σ.next z).get n = none ∧ ((σ.heap.set n x).set k y).set σ.next z = ((σ.heap.set k y).set σ.next z).set n x := by
    intro k y z hk
    refine ⟨by rw [T.get_set_ne _ _ _ _ (by omega), T.get_set_ne _ _ _ _ hk]; exact hn, ?_⟩
    rw [T.set_comm _ n k x y hk, T.set_comm _ n σ.next x z (by omega)]
  unfold sIns at h ⊢
  split at h
  · rename_i a m cap i vv m' vc
    split at h
    case h_2 => cases h
    rename_i cv ev c e xx hcv hca
    simp only [hget hcv, hget hca]
    split at h
    · cases h
    · rename_i hc
      rw [if_neg hc]
      split at h
      · rename_i hle
        rw [if_pos hle]
        cases h
        exact ⟨(fin (hne hca)).1, by simp only; omega, by rw [(fin (hne hca)).2]⟩
      · rename_i hle
        rw [if_neg hle]
        cases h
        exact ⟨(fin (hne hca)).1, by simp only; omega, by rw [(fin (hne hca)).2]⟩
  · rename_i vv m' vc
    split at h
    case h_2 => cases h
    rename_i cv ev hcv
    simp only [hget hcv]
    split at h
    · cases h
    · rename_i hc
      rw [if_neg hc]
      cases h
      have hk : n ≠ σ.next := by omega
      exact ⟨(fin hk).1, by simp only; omega, by rw [(fin hk).2]⟩
  · cases h
end Go.Ab
