/- Rows of a call's own: slices that nobody else has; what append makes of them. -/
import Derived.Test.YtllffogcdeempaaFwO
set_option linter.all false
open Go.RowKit
namespace Go.Ab

def bytesT (P : Program) (t : TypeId) : Option Nat := (P.info? t).map (·.bytes)

theorem get_fresh {h : T} {n k j : Nat} {x : Option Blk} (hk : j ≠ k) : (h.set (n + k) x).get (n + j) = h.get (n + j) := T.get_set_ne _ _ _ _ (by omega)
theorem get_old {h : T} {n k p : Nat} {x : Option Blk} (hp : p < n) : (h.set (n + k) x).get p = h.get p := T.get_set_ne _ _ _ _ (by omega)
theorem get_old0 {h : T} {n p : Nat} {x : Option Blk} (hp : p < n) : (h.set n x).get p = h.get p := T.get_set_ne _ _ _ _ (by omega)

/-- A slice that fills a block of its own from end to end (or nil): its elements' cells. -/
def Row (g : Nat → Option Blk) (old nx sz : Nat) (el : TypeId) (s : Value) (n : Nat) (cs : List Value) : Prop :=
  (s = .slice none 0 0 ∧ n = 0 ∧ cs = []) ∨
  ∃ b, s = .slice (some ⟨b, 0, none⟩) n n ∧ old ≤ b ∧ b < nx ∧ 0 < n ∧ g b = some (.cells cs el false) ∧ cs.length = n * sz

/-- The block of a slice, if there is any. -/
def rowBlk : Value → Option Nat
  | .slice (some a) _ _ => some a.block
  | _ => none

theorem Row.mono {g g' : Nat → Option Blk} {old nx nx' sz : Nat} {el : TypeId} {s : Value} {n : Nat} {cs : List Value} (h : Row g old nx sz el s n cs) (hn : nx ≤ nx') (hg : ∀ b, rowBlk s = some b → g' b = g b) : Row g' old nx' sz el s n cs := by
  rcases h with h | ⟨b, rfl, h1, h2, h3, h4, h5⟩
  · exact .inl h
  · exact .inr ⟨b, rfl, h1, by omega, h3, by rw [hg b rfl]; exact h4, h5⟩

theorem Row.len {g : Nat → Option Blk} {old nx sz : Nat} {el : TypeId} {s : Value} {n : Nat} {cs : List Value} (h : Row g old nx sz el s n cs) : ∃ a c, s = .slice a n c ∧ cs.length = n * sz := by
  rcases h with ⟨rfl, rfl, rfl⟩ | ⟨b, rfl, _, _, _, _, h5⟩
  · exact ⟨_, _, rfl, by simp⟩
  · exact ⟨_, _, rfl, h5⟩

def killed (s : Value) : List (Nat × Option Blk) :=
  match rowBlk s with
  | some b => [(b, none)]
  | none => []

/-- append to a row of one's own. -/
theorem evAppend_row {E : Env} {g : Nat → Option Blk} {nid nx sz bytes : Nat} {t0 t1 el : TypeId} {s x : Value} {n m : Nat} {cs new : List Value} {z : Array Value} {d : TypeDesc}
    (hel : elemT E.P t0 = some el) (hu : E.P.underlying t1 = some d) (hd : isSlStr d = true) (hsz : sizeT E.P el = some sz) (hby : bytesT E.P el = some bytes) (hz : zeroCells? E.P el = some z) (hzs : z.size = sz) (h0 : sz ≠ 0)
    (hr : Row g E.old nx sz el s n cs) (hl : lenV x = some m) (hstr : strOk x sz = true) (hnew : rdRow E g sz m x = some new) (hm : 0 < m) (hone : new.all oneCell = true) (hfit : (n + m) * bytes ≤ 140737488355328) (h63 : n + m ≤ 9223372036854775807) :
    evAppend E g nid #[t0, t1] s x = some ⟨.slice (some ⟨nid, 0, none⟩) (n + m) (n + m), killed s ++ [(nid, some (.cells (cs ++ new) el false))], (rowBlk s).toList ++ blkOf x⟩ := by
  obtain ⟨i, hi⟩ : ∃ i, E.P.info? el = some i := by
    unfold sizeT at hsz
    cases hi : E.P.info? el with
    | none => simp [hi] at hsz
    | some i => exact ⟨i, rfl⟩
  have hisz : i.size = sz := by simpa [sizeT, hi] using hsz
  have hib : i.bytes = bytes := by simpa [bytesT, hi] using hby
  subst hisz; subst hib
  have hc0 : ¬ (i.size = 0 ∨ z.size ≠ i.size ∨ strOk x i.size = false) := by simp [h0, hzs, hstr]
  unfold evAppend
  simp only [List.getElem?_toArray, List.getElem?_cons_zero, List.getElem?_cons_succ, Option.bind_some, hel, hu, hd, hi, hz, hl, hc0, Bool.not_true, Bool.false_eq_true, if_false]
  rcases hr with ⟨rfl, rfl, rfl⟩ | ⟨b, rfl, hb1, hb2, hn, hg, hlen⟩
  · rw [hnew]
    have h1 : ¬ (0 + m ≤ 0) := by omega
    simp only [h1, if_false]
    rw [if_pos ⟨hfit, h63⟩]
    simp [killed, rowBlk]
  · rw [hnew]
    have h1 : ¬ (n + m ≤ n) := by omega
    simp only [h1, if_false]
    rw [if_pos ⟨hfit, h63⟩]
    have hbo : ¬ b < E.old := by omega
    have hrd : rdRow E g i.size n (.slice (some ⟨b, 0, none⟩) n n) = some cs := by
      have hn0 : n ≠ 0 := by omega
      simp [rdRow, rd, hbo, hg, hlen, hn0]
      rw [← hlen, List.take_length]
    have hop : opens E g ⟨b, 0, none⟩ n el i.size = some true := by
      simp [opens, hbo, hg, hlen]
    simp only [hrd, hop, hone]
    simp [killed, rowBlk]

/-- A row behind an append. -/
theorem Row.appended {h : T} {old nx sz nid : Nat} {el : TypeId} {s : Value} {n m : Nat} {cs new : List Value} (hr : Row h.get old nx sz el s n cs) (ho : old ≤ nid) (hm : 0 < m) (hl : new.length = m * sz) {nx' : Nat} (hx : nid < nx') :
    Row (upds h (killed s ++ [(nid, some (.cells (cs ++ new) el false))])).get old nx' sz el (.slice (some ⟨nid, 0, none⟩) (n + m) (n + m)) (n + m) (cs ++ new) := by
  have hc : cs.length = n * sz := hr.len.choose_spec.choose_spec.2
  refine .inr ⟨nid, rfl, ho, hx, by omega, ?_, by simp [hc, hl, Nat.add_mul]⟩
  unfold killed
  cases rowBlk s <;> simp [upds, T.get_set_self]
end Go.Ab
