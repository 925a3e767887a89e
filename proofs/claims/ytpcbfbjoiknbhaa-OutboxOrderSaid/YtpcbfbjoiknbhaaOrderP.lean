/- OutboxOrder holds of every input: no conditions. -/
import Derived.Test.YtpcbfbjoiknbhaaRows
import Derived.WalkKit
import Derived.Carry
import Derived.ProofKit
import Derived.OpenShut
import Derived.ShutString
import Derived.ChangeOld
import Derived.Below
import Derived.Test.YtpcbfbjoiknbhaaOrder
import Derived.Test.YtpcbfbjoiknbhaaFwG3
namespace Go.Proofs.Ytpcbfbjoiknbhaa.outboxOrder
open Go.ChangeShapes Go.WideShapes Go.ChangeAt Go.RowKit Go.Ab
open Go.ChangeMaps (open_string shut_string)
set_option linter.unusedVariables false
set_option maxHeartbeats 4000000
theorem own : ownKnob Try.prog.godebug = none := by kernel_rfl
theorem laidOut : laidOutB Try.prog = true := by kernel_rfl
set_option maxRecDepth 100000 in
theorem lifted (os : Os) (started : os.Started) (H : Type) (enc : TypeId × Value → H) :
    ReturnsInHanded {} Try.checked os 5 .any (Rows.outboxOrderSpec.pre6 enc Try.prog Try.f5 Rows.outboxOrderRow.domain false) (Rows.outboxOrderSpec.post enc Try.prog Try.f5 false true false false) := by
  refine returnsInHanded_of_change (C := Try.checked) own started (by kernel_rfl) Try.func5
    (ChangeSpec.witness6 (enc := enc) (C := Try.checked) false ⟨#[], #[.string .empty, .slice none 0 0], []⟩ 8 (by kernel_rfl) (by kernel_rfl) (by kernel_rfl) (by kernel_rfl)) ?_
  intro W base args ds gs before hval0 hW hcnd _
  have hval : ∀ (j : Nat) t v, Try.f5.params[j]? = some t → args[j]? = some v → Value.okWide Try.prog W .any base t v := hval0
  have hW' := hW
  obtain ⟨p, q, hA0, hV, rfl, hfz, hnd⟩ := hW
  have hA : DataW.TrodAll enc Try.prog W 0 (fun _ => true) true Try.f5.params.toList args.toList ds p := hA0
  rw [Try.params5] at hA hval
  obtain ⟨v0, vs0, d0, ds0, p0, q0, hargs, rfl, rfl, h0, r0⟩ := trodAll_cons hA
  obtain ⟨v1, vs1, d1, ds1, p1, q1, rfl, rfl, rfl, h1, r1⟩ := trodAll_cons r0
  obtain ⟨rfl, rfl, rfl⟩ := trodAll_nil r1
  obtain rfl : args = #[v0, v1] := by cases args; simp_all
  obtain ⟨rfl, rfl⟩ := trodVars_none hV
  have k0 := h0
  have lt0 : ∀ x ∈ p0, x.block < W.heap.size := by obtain ⟨m, hm⟩ := k0; exact DataW.trod_lt m _ _ _ hm
  have k1 := h1
  have lt1 : ∀ x ∈ p1, x.block < W.heap.size := by obtain ⟨m, hm⟩ := k1; exact DataW.trod_lt m _ _ _ hm
  obtain ⟨a0, rfl⟩ := okWide_string Try.underlying9 (hval 0 9 v0 rfl rfl)
  have w0 : a0.size ≤ maxLen := by
    obtain ⟨fu, hf⟩ := h0
    obtain ⟨s, e, _, hs⟩ := DataW.trod_string Try.underlying9 hf
    simp [Value.cells] at e
    subst e
    exact hs
  obtain ⟨a1, n1, c1, b1, o1, C1, rfl, ho1, hn1, hm1, ha1, hC1⟩ := open_flat (d := 10) (ks := [.int .u8]) Try.underlying37 (by kernel_rfl) (by kernel_rfl) h1 (hval 1 37 v1 rfl rfl)
  have hx1 : ∀ j, ∃ p : Int, j < n1 → C1 j = [.int .u8 p] ∧ ((Lit.int .u8 p).wf = true) := by
    intro j
    by_cases hj : j < n1
    · obtain ⟨g, _⟩ := hC1 j hj
      generalize C1 j = l at g
      obtain ⟨x0, r, rfl, y0, g⟩ := ckAll_int g
      obtain rfl := ckAll_nil g
      exact ⟨x0, fun _ => ⟨rfl, y0⟩⟩
    · exact ⟨(0 : Int), fun h => absurd h hj⟩
  obtain ⟨F1, hF1⟩ := Classical.axiomOfChoice hx1
  clear hA0 hval0
  refine (walkOrder (w := W) a0 w0 a1 n1 c1 b1 o1 ho1 hn1 hm1 ha1 (fun j => F1 j) (fun j hj sum pr => by have := (hC1 j hj).2 sum pr; rw [(hF1 j hj).1] at this; exact this) (fun j hj => fits8 ((hF1 j hj).2))).mono fun e W' ⟨he, bel⟩ => ?_
  subst he
  exact ⟨_, rfl, _, _, _, [], _, [], hW', trodAll_mk1 (shut_bool Try.underlying4 _), (trodAll_cons_mk (Below.trod laidOut (by kernel_rfl) (of_decide_eq_true (by kernel_rfl)) k0 bel lt0) (trodAll_cons_mk (Below.trod laidOut (by kernel_rfl) (of_decide_eq_true (by kernel_rfl)) k1 bel lt1) trodAll_mk0)), rfl, bel.frame _, fun h => by cases h⟩
theorem over : Rows.outboxOrderRow.holds Try.pinned (OpenSpec.ofChange Rows.outboxOrderSpec) :=
  OpenClaim.holds_of_wide 5 Try.f5 rfl rfl rfl rfl rfl rfl rfl ⟨rfl, rfl, rfl, rfl, rfl⟩ rfl rfl rfl rfl rfl (by kernel_rfl) Try.func5 (by kernel_rfl)
    (of_decide_eq_true (by kernel_rfl)) (by unfold Func.isWrapper; first | (rw [if_pos (by decide +kernel)]; kernel_rfl) | (rw [if_neg (by decide +kernel)]; exact ⟨rfl, rfl⟩))
    (fun os started H enc _ => lifted os started H enc)
theorem proved : Rows.OutboxOrderSaid := over
#print axioms proved
end Go.Proofs.Ytpcbfbjoiknbhaa.outboxOrder
