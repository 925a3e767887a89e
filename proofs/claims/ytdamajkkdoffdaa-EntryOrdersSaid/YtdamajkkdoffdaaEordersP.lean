/- EntryOrders holds of every three entries: no conditions. -/
/-
  THE SHELL OF A PROOF OF 'Rows.EntryOrdersSaid' ('mailcoach/mailcoachlaw14.EntryOrders'), WRITTEN BY PROGRAM (proof-skeleton.mjs) off the guide's own print for that function. Not trusted: Lean checks it.
  YOURS ARE THE HOLES MARKED 'HOLE' (each bears 'sorry'). ALL ELSE IS THE GUIDE's TEMPLATE (howto/template/XProofs.lean) at this function's number and types: leave it.
-/
import Derived.Test.YtdamajkkdoffdaaRows
import Derived.WalkKit
import Derived.Carry
import Derived.Test.YtdamajkkdoffdaaEorders
import Derived.ProofKit
import Derived.OpenShut
import Derived.ShutString
import Derived.ChangeOld
import Derived.Below
namespace Go.Proofs.Ytdamajkkdoffdaa.entryOrders
open Go.ChangeShapes Go.WideShapes Go.ChangeAt Go.RowKit
open Go.ChangeMaps (open_string shut_string)
set_option linter.unusedVariables false      -- a walk need not use every 'w<i>' (that an integer argument fits its kind)

theorem own : ownKnob Try.prog.godebug = none := by kernel_rfl

theorem laidOut : laidOutB Try.prog = true := by kernel_rfl

theorem cellInt {P : Program} {w : World} {r : Reach} {b : Nat} {t : TypeId} {k : IntKind} {v : Value} (ht : P.underlying t = some (.int k)) (h : Cell.okWide P w r b t v) : ∃ n, v = .int k n :=
  okWide_int ht (w := w) (r := r) (base := b) (by simpa only [Value.okWide, ht] using h)
theorem cellString {P : Program} {w : World} {r : Reach} {b : Nat} {t : TypeId} {v : Value} (ht : P.underlying t = some .string) (h : Cell.okWide P w r b t v) : ∃ s, v = .string s :=
  okWide_string ht (w := w) (r := r) (base := b) (by simpa only [Value.okWide, ht] using h)
theorem cellBool {P : Program} {w : World} {r : Reach} {b : Nat} {t : TypeId} {v : Value} (ht : P.underlying t = some .bool) (h : Cell.okWide P w r b t v) : ∃ s, v = .bool s :=
  okWide_bool ht (w := w) (r := r) (base := b) (by simpa only [Value.okWide, ht] using h)

/-- An entry that came in, opened to its ten fields. -/
theorem openEntry {w : World} {r : Reach} {b : Nat} {v : Value} (h : Value.okWide Try.prog w r b 25 v) : ∃ (a0 : Int) (a1 : Int) (a2 : Int) (a3 : ByteArray) (a4 : ByteArray) (a5 : Int) (a6 : Int) (a7 : Int) (a8 : Bool) (a9 : Int), v = eV a0 a1 a2 a3 a4 a5 a6 a7 a8 a9 := by
  simp only [Value.okWide, Try.underlying25] at h
  obtain ⟨cs, rfl, hsz, ts, hts, _, hc⟩ := h
  have e : Try.prog.cellTypes Try.prog.depth 25 = some [3, 3, 3, 9, 9, 3, 3, 3, 4, 3] := by kernel_rfl
  rw [e] at hts
  cases hts
  have hs : cs.size = 10 := hsz.trans (by kernel_rfl)
  obtain ⟨l⟩ := cs
  rcases l with _ | ⟨x0, _ | ⟨x1, _ | ⟨x2, _ | ⟨x3, _ | ⟨x4, _ | ⟨x5, _ | ⟨x6, _ | ⟨x7, _ | ⟨x8, _ | ⟨x9, _ | ⟨y, l⟩⟩⟩⟩⟩⟩⟩⟩⟩⟩⟩ <;> simp at hs
  obtain ⟨u0, hu0, c0⟩ := hc 0 _ rfl
  obtain rfl : u0 = 3 := by simpa using hu0.symm
  obtain ⟨a0, rfl⟩ := cellInt Try.underlying3 c0
  obtain ⟨u1, hu1, c1⟩ := hc 1 _ rfl
  obtain rfl : u1 = 3 := by simpa using hu1.symm
  obtain ⟨a1, rfl⟩ := cellInt Try.underlying3 c1
  obtain ⟨u2, hu2, c2⟩ := hc 2 _ rfl
  obtain rfl : u2 = 3 := by simpa using hu2.symm
  obtain ⟨a2, rfl⟩ := cellInt Try.underlying3 c2
  obtain ⟨u3, hu3, c3⟩ := hc 3 _ rfl
  obtain rfl : u3 = 9 := by simpa using hu3.symm
  obtain ⟨a3, rfl⟩ := cellString Try.underlying9 c3
  obtain ⟨u4, hu4, c4⟩ := hc 4 _ rfl
  obtain rfl : u4 = 9 := by simpa using hu4.symm
  obtain ⟨a4, rfl⟩ := cellString Try.underlying9 c4
  obtain ⟨u5, hu5, c5⟩ := hc 5 _ rfl
  obtain rfl : u5 = 3 := by simpa using hu5.symm
  obtain ⟨a5, rfl⟩ := cellInt Try.underlying3 c5
  obtain ⟨u6, hu6, c6⟩ := hc 6 _ rfl
  obtain rfl : u6 = 3 := by simpa using hu6.symm
  obtain ⟨a6, rfl⟩ := cellInt Try.underlying3 c6
  obtain ⟨u7, hu7, c7⟩ := hc 7 _ rfl
  obtain rfl : u7 = 3 := by simpa using hu7.symm
  obtain ⟨a7, rfl⟩ := cellInt Try.underlying3 c7
  obtain ⟨u8, hu8, c8⟩ := hc 8 _ rfl
  obtain rfl : u8 = 4 := by simpa using hu8.symm
  obtain ⟨a8, rfl⟩ := cellBool Try.underlying4 c8
  obtain ⟨u9, hu9, c9⟩ := hc 9 _ rfl
  obtain rfl : u9 = 3 := by simpa using hu9.symm
  obtain ⟨a9, rfl⟩ := cellInt Try.underlying3 c9
  exact ⟨a0, a1, a2, a3, a4, a5, a6, a7, a8, a9, rfl⟩

/-! ### THE ROW's STEP: WRITTEN OUT: LEAVE IT -/
set_option maxRecDepth 100000 in
theorem lifted (os : Os) (started : os.Started) (H : Type) (enc : TypeId × Value → H) :
    ReturnsInHanded {} Try.checked os 4 .any (Rows.entryOrdersSpec.pre6 enc Try.prog Try.f4 Rows.entryOrdersRow.domain false) (Rows.entryOrdersSpec.post enc Try.prog Try.f4 false true false false) := by
  refine returnsInHanded_of_change (C := Try.checked) own started (by kernel_rfl) Try.func4
    (ChangeSpec.witness6 (enc := enc) (C := Try.checked) false ⟨#[], #[.agg #[.int .i64 0, .int .i64 0, .int .i64 0, .string .empty, .string .empty, .int .i64 0, .int .i64 0, .int .i64 0, .bool false, .int .i64 0], .agg #[.int .i64 0, .int .i64 0, .int .i64 0, .string .empty, .string .empty, .int .i64 0, .int .i64 0, .int .i64 0, .bool false, .int .i64 0], .agg #[.int .i64 0, .int .i64 0, .int .i64 0, .string .empty, .string .empty, .int .i64 0, .int .i64 0, .int .i64 0, .bool false, .int .i64 0]], []⟩ 8 (by kernel_rfl) (by kernel_rfl) (by kernel_rfl) (by kernel_rfl)) ?_
  intro W base args ds gs before hval0 hW hcnd _
  have hval : ∀ (j : Nat) t v, Try.f4.params[j]? = some t → args[j]? = some v → Value.okWide Try.prog W .any base t v := hval0
  have hW' := hW
  obtain ⟨p, q, hA0, hV, rfl, hfz, hnd⟩ := hW
  have hA : DataW.TrodAll enc Try.prog W 0 (fun _ => true) true Try.f4.params.toList args.toList ds p := hA0
  rw [Try.params4] at hA hval
  obtain ⟨v0, vs0, d0, ds0, p0, q0, hargs, rfl, rfl, h0, r0⟩ := trodAll_cons hA
  obtain ⟨v1, vs1, d1, ds1, p1, q1, rfl, rfl, rfl, h1, r1⟩ := trodAll_cons r0
  obtain ⟨v2, vs2, d2, ds2, p2, q2, rfl, rfl, rfl, h2, r2⟩ := trodAll_cons r1
  obtain ⟨rfl, rfl, rfl⟩ := trodAll_nil r2
  obtain rfl : args = #[v0, v1, v2] := by cases args; simp_all
  obtain ⟨rfl, rfl⟩ := trodVars_none hV
  obtain ⟨a0, a1, a2, a3, a4, a5, a6, a7, a8, a9, rfl⟩ := openEntry (hval 0 25 v0 rfl rfl)
  have lt0 : ∀ x ∈ p0, x.block < W.heap.size := by obtain ⟨m, hm⟩ := h0; exact DataW.trod_lt m _ _ _ hm
  obtain ⟨b0, b1, b2, b3, b4, b5, b6, b7, b8, b9, rfl⟩ := openEntry (hval 1 25 v1 rfl rfl)
  have lt1 : ∀ x ∈ p1, x.block < W.heap.size := by obtain ⟨m, hm⟩ := h1; exact DataW.trod_lt m _ _ _ hm
  obtain ⟨d0, d1, d2, d3, d4, d5, d6, d7, d8, d9, rfl⟩ := openEntry (hval 2 25 v2 rfl rfl)
  have lt2 : ∀ x ∈ p2, x.block < W.heap.size := by obtain ⟨m, hm⟩ := h2; exact DataW.trod_lt m _ _ _ hm
  clear hA0 hval0
  refine (walkOrders a0 a1 a2 a3 a4 a5 a6 a7 a8 a9 b0 b1 b2 b3 b4 b5 b6 b7 b8 b9 d0 d1 d2 d3 d4 d5 d6 d7 d8 d9 W).mono fun e W' ⟨he, bel⟩ => ?_
  subst he
  exact ⟨_, rfl, _, _, _, [], _, [], hW', trodAll_mk1 (shut_bool Try.underlying4 _), (trodAll_cons_mk (Below.trod laidOut (by kernel_rfl) (of_decide_eq_true (by kernel_rfl)) h0 bel lt0) (trodAll_cons_mk (Below.trod laidOut (by kernel_rfl) (of_decide_eq_true (by kernel_rfl)) h1 bel lt1) (trodAll_cons_mk (Below.trod laidOut (by kernel_rfl) (of_decide_eq_true (by kernel_rfl)) h2 bel lt2) trodAll_mk0))), rfl, bel.frame _, fun h => by cases h⟩

theorem over : Rows.entryOrdersRow.holds Try.pinned (OpenSpec.ofChange Rows.entryOrdersSpec) :=
  OpenClaim.holds_of_wide 4 Try.f4 rfl rfl rfl rfl rfl rfl rfl ⟨rfl, rfl, rfl, rfl, rfl⟩ rfl rfl rfl rfl rfl (by kernel_rfl) Try.func4 (by kernel_rfl)
    (of_decide_eq_true (by kernel_rfl)) (by unfold Func.isWrapper; first | (rw [if_pos (by decide +kernel)]; kernel_rfl) | (rw [if_neg (by decide +kernel)]; exact ⟨rfl, rfl⟩))
    (fun os started H enc _ => lifted os started H enc)

/-- ████ THE STATEMENT ████ -/
theorem proved : Rows.EntryOrdersSaid :=
  over
#print axioms proved
end Go.Proofs.Ytdamajkkdoffdaa.entryOrders
