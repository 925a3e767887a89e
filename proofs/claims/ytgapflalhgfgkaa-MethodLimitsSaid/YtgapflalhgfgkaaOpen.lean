/- What a method is that comes in. -/
import Derived.Test.YtgapflalhgfgkaaRows 
import Derived.WalkKit
import Derived.Carry
import Derived.ProofKit
import Derived.OpenShut
import Derived.ShutString
import Derived.ChangeOld
import Derived.Below
import Derived.Test.YtgapflalhgfgkaaFwG3
namespace Go.Proofs.Ytgapflalhgfgkaa
open Go.ChangeShapes Go.WideShapes Go.ChangeAt Go.RowKit Go.Ab
open Go.ChangeMaps (open_string shut_string)
set_option linter.all false
set_option maxHeartbeats 4000000
set_option maxRecDepth 100000
/-- A method that came in: its rows. -/
structure InM (w : World) where
  k : Int
  wk : -9223372036854775808 ≤ k ∧ k ≤ 9223372036854775807
  bi : Int
  wb : -9223372036854775808 ≤ bi ∧ bi ≤ 9223372036854775807
  a : Option Addr
  n : Nat
  c : Nat
  b : Nat
  o : Nat
  old : oldV w.heap.size (.slice a n c) = true
  nc : n ≤ c
  mx : c ≤ maxLen
  ha : 0 < n → a = some ⟨b, o, none⟩ ∧ b < w.heap.size
  F : Nat → ByteArray
  fs : ∀ j, j < n → (F j).size ≤ maxLen
  rd : ∀ j, j < n → ∀ sum pr, rdOld ⟨Try.prog, w.heap.size, fun a => w.cell? a, sum, pr⟩ b (o + j * 1) 1 = some [.string (F j)]
  a2 : Option Addr
  n2 : Nat
  c2 : Nat
  b2 : Nat
  o2 : Nat
  old2 : oldV w.heap.size (.slice a2 n2 c2) = true
  nc2 : n2 ≤ c2
  mx2 : c2 ≤ maxLen
  ha2 : 0 < n2 → a2 = some ⟨b2, o2, none⟩ ∧ b2 < w.heap.size
  G : Nat → Int
  gs : ∀ j, j < n2 → -9223372036854775808 ≤ G j ∧ G j ≤ 9223372036854775807
  rd2 : ∀ j, j < n2 → ∀ sum pr, rdOld ⟨Try.prog, w.heap.size, fun a => w.cell? a, sum, pr⟩ b2 (o2 + j * 1) 1 = some [.int .i64 (G j)]
def InM.val {w : World} (m : InM w) : Value := .agg #[.int .i64 m.k, .slice m.a m.n m.c, .slice m.a2 m.n2 m.c2, .int .i64 m.bi]
theorem openM {H : Type} {enc : TypeId × Value → H} {w : World} {v : Value} {dd : DataW H} {ps : List MemPlace} (h : DataW.Trod enc Try.prog w 0 (fun _ => true) true 25 v dd ps) (hok : Value.okWide Try.prog w .any 0 25 v) : ∃ m : InM w, v = m.val := by
  obtain ⟨fuel, hf⟩ := h
  simp only [Value.okWide, Try.underlying25] at hok
  obtain ⟨cs, rfl, hsz, ts, hts, _, hcell⟩ := hok
  have e4 : Try.prog.cellsOf 25 = 4 := by kernel_rfl
  have ets : Try.prog.cellTypes Try.prog.depth 25 = some [3, 22, 23, 3] := by kernel_rfl
  rw [ets] at hts
  cases hts
  rw [e4] at hsz
  obtain ⟨l⟩ := cs
  obtain ⟨v0, v1, v2, v3, rfl⟩ : ∃ v0 v1 v2 v3, l = [v0, v1, v2, v3] := by
    match l, hsz with
    | [v0, v1, v2, v3], _ => exact ⟨v0, v1, v2, v3, rfl⟩
  obtain ⟨u1, hu1, c1⟩ := hcell 1 v1 rfl
  obtain ⟨u2, hu2, c2⟩ := hcell 2 v2 rfl
  cases hu1
  cases hu2
  have k1 : Value.okWide Try.prog w .any 0 22 v1 := by simp only [Value.okWide, Try.underlying22]; exact c1
  have k2 : Value.okWide Try.prog w .any 0 23 v2 := by simp only [Value.okWide, Try.underlying23]; exact c2
  obtain ⟨a, n, c, rfl⟩ := okWide_slice Try.underlying22 k1
  obtain ⟨a', n', c', rfl⟩ := okWide_slice Try.underlying23 k2
  obtain ⟨xs, m, _, _, _, hxl, hx⟩ := DataW.trod_struct Try.underlying25 hf
  have z3 : Try.prog.cellsOf 3 = 1 := by kernel_rfl
  have z22 : Try.prog.cellsOf 22 = 1 := by kernel_rfl
  have z23 : Try.prog.cellsOf 23 = 1 := by kernel_rfl
  have hl4 : xs.length = 4 := by rw [hxl]; rfl
  match xs, hl4 with
  | [x0, x1, x2, x3], _ =>
    have t0 := hx 0 { name := "Kind", type := 3, offset := 0, embedded := false, tag := "", pkgPath := "", byteOffset := 0 } rfl
    have t1 := hx 1 { name := "S", type := 22, offset := 1, embedded := false, tag := "", pkgPath := "", byteOffset := 8 } rfl
    have t2 := hx 2 { name := "N", type := 23, offset := 2, embedded := false, tag := "", pkgPath := "", byteOffset := 32 } rfl
    have t3 := hx 3 { name := "Bits", type := 3, offset := 3, embedded := false, tag := "", pkgPath := "", byteOffset := 56 } rfl
    simp only [z3, z22, z23, Value.cells, List.toList_toArray, List.drop_zero, List.drop_succ_cons, List.take_succ_cons, List.take_zero, List.getElem?_cons_zero, List.getElem?_cons_succ] at t0 t1 t2 t3
    obtain ⟨k, hk, _, wk⟩ := DataW.trod_int Try.underlying3 t0
    obtain ⟨bi, hb, _, wb⟩ := DataW.trod_int Try.underlying3 t3
    simp only [List.cons.injEq, and_true] at hk hb
    subst hk hb
    obtain ⟨aa, nn, cc, bb, oo, C, e, q1, q2, q3, q4, q5⟩ := open_flat (d := 10) (ks := [.str]) Try.underlying22 (by kernel_rfl) (by kernel_rfl) ⟨m, t1⟩ k1
    obtain ⟨aa', nn', cc', bb', oo', C', e', q1', q2', q3', q4', q5'⟩ := open_flat (d := 10) (ks := [.int .i64]) Try.underlying23 (by kernel_rfl) (by kernel_rfl) ⟨m, t2⟩ k2
    cases e
    cases e'
    have hs : ∀ j, ∃ s : ByteArray, j < n → C j = [.string s] ∧ s.size ≤ maxLen := by
      intro j
      by_cases hj : j < n
      · obtain ⟨g, _⟩ := q5 j hj
        generalize C j = l at g
        obtain ⟨x0, r, rfl, y0, g⟩ := ckAll_str g
        obtain rfl := ckAll_nil g
        exact ⟨x0, fun _ => ⟨rfl, y0⟩⟩
      · exact ⟨.empty, fun h => absurd h hj⟩
    have hi : ∀ j, ∃ s : Int, j < n' → C' j = [.int .i64 s] ∧ (Lit.int .i64 s).wf = true := by
      intro j
      by_cases hj : j < n'
      · obtain ⟨g, _⟩ := q5' j hj
        generalize C' j = l at g
        obtain ⟨x0, r, rfl, y0, g⟩ := ckAll_int g
        obtain rfl := ckAll_nil g
        exact ⟨x0, fun _ => ⟨rfl, y0⟩⟩
      · exact ⟨0, fun h => absurd h hj⟩
    obtain ⟨F, hF⟩ := Classical.axiomOfChoice hs
    obtain ⟨G, hG⟩ := Classical.axiomOfChoice hi
    exact ⟨⟨k, fits64 wk, bi, fits64 wb, a, n, c, bb, oo, q1, q2, q3, q4, F, fun j hj => (hF j hj).2, fun j hj sum pr => by have := (q5 j hj).2 sum pr; rw [(hF j hj).1] at this; exact this,
      a', n', c', bb', oo', q1', q2', q3', q4', G, fun j hj => fits64 (hG j hj).2, fun j hj sum pr => by have := (q5' j hj).2 sum pr; rw [(hG j hj).1] at this; exact this⟩, rfl⟩
end Go.Proofs.Ytgapflalhgfgkaa
