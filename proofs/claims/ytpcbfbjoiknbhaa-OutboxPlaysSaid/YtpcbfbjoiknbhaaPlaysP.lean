/- OutboxPlays holds of every input: no conditions. -/
import Derived.Test.YtpcbfbjoiknbhaaRows
import Derived.WalkKit
import Derived.Carry
import Derived.ProofKit
import Derived.OpenShut
import Derived.ShutString
import Derived.ChangeOld
import Derived.Below
import Derived.Test.YtpcbfbjoiknbhaaPlays
import Derived.Test.YtpcbfbjoiknbhaaFwG3
namespace Go.Proofs.Ytpcbfbjoiknbhaa.outboxPlays
open Go.ChangeShapes Go.WideShapes Go.ChangeAt Go.RowKit Go.Ab
open Go.ChangeMaps (open_string shut_string)
set_option linter.unusedVariables false
set_option maxHeartbeats 4000000
theorem own : ownKnob Try.prog.godebug = none := by kernel_rfl
theorem laidOut : laidOutB Try.prog = true := by kernel_rfl
set_option maxRecDepth 100000 in
theorem lifted (os : Os) (started : os.Started) (H : Type) (enc : TypeId × Value → H) :
    ReturnsInHanded {} Try.checked os 3 .any (Rows.outboxPlaysSpec.pre6 enc Try.prog Try.f3 Rows.outboxPlaysRow.domain false) (Rows.outboxPlaysSpec.post enc Try.prog Try.f3 false true false false) := by
  refine returnsInHanded_of_change (C := Try.checked) own started (by kernel_rfl) Try.func3
    (ChangeSpec.witness6 (enc := enc) (C := Try.checked) false ⟨#[], #[.slice none 0 0], []⟩ 8 (by kernel_rfl) (by kernel_rfl) (by kernel_rfl) (by kernel_rfl)) ?_
  intro W base args ds gs before hval0 hW hcnd _
  have hval : ∀ (j : Nat) t v, Try.f3.params[j]? = some t → args[j]? = some v → Value.okWide Try.prog W .any base t v := hval0
  have hW' := hW
  obtain ⟨p, q, hA0, hV, rfl, hfz, hnd⟩ := hW
  have hA : DataW.TrodAll enc Try.prog W 0 (fun _ => true) true Try.f3.params.toList args.toList ds p := hA0
  rw [Try.params3] at hA hval
  obtain ⟨v0, vs0, d0, ds0, p0, q0, hargs, rfl, rfl, h0, r0⟩ := trodAll_cons hA
  obtain ⟨rfl, rfl, rfl⟩ := trodAll_nil r0
  obtain rfl : args = #[v0] := by cases args; simp_all
  obtain ⟨rfl, rfl⟩ := trodVars_none hV
  have k0 := h0
  have lt0 : ∀ x ∈ p0, x.block < W.heap.size := by obtain ⟨m, hm⟩ := k0; exact DataW.trod_lt m _ _ _ hm
  obtain ⟨a0, n0, c0, b0, o0, C0, rfl, ho0, hn0, hm0, ha0, hC0⟩ := open_flat (d := 10) (ks := [.bool, .int .i64, .str]) Try.underlying22 (by kernel_rfl) (by kernel_rfl) h0 (hval 0 22 v0 rfl rfl)
  have hx0 : ∀ j, ∃ p : Bool × Int × ByteArray, j < n0 → C0 j = [.bool p.1, .int .i64 p.2.1, .string p.2.2] ∧ ((Lit.int .i64 p.2.1).wf = true ∧ (p.2.2).size ≤ maxLen) := by
    intro j
    by_cases hj : j < n0
    · obtain ⟨g, _⟩ := hC0 j hj
      generalize C0 j = l at g
      obtain ⟨x0, r, e, gn⟩ := ckAll_bool g; subst e; clear g; have g := gn
      obtain ⟨x1, r, rfl, y1, g⟩ := ckAll_int g
      obtain ⟨x2, r, rfl, y2, g⟩ := ckAll_str g
      obtain rfl := ckAll_nil g
      exact ⟨(x0, x1, x2), fun _ => ⟨rfl, ⟨y1, y2⟩⟩⟩
    · exact ⟨(false, (0 : Int), ByteArray.empty), fun h => absurd h hj⟩
  obtain ⟨F0, hF0⟩ := Classical.axiomOfChoice hx0
  clear hA0 hval0
  refine (walkPlays (w := W) a0 n0 c0 b0 o0 ho0 hn0 hm0 ha0 (fun j => (F0 j).1) (fun j => (F0 j).2.1) (fun j => (F0 j).2.2) (fun j hj sum pr => by have := (hC0 j hj).2 sum pr; rw [(hF0 j hj).1] at this; exact this) (fun j hj => ⟨fits64 ((hF0 j hj).2.1), (hF0 j hj).2.2⟩)).mono fun e W' ⟨he, bel⟩ => ?_
  subst he
  exact ⟨_, rfl, _, _, _, [], _, [], hW', trodAll_mk1 (shut_bool Try.underlying4 _), (trodAll_cons_mk (Below.trod laidOut (by kernel_rfl) (of_decide_eq_true (by kernel_rfl)) k0 bel lt0) trodAll_mk0), rfl, bel.frame _, fun h => by cases h⟩
theorem over : Rows.outboxPlaysRow.holds Try.pinned (OpenSpec.ofChange Rows.outboxPlaysSpec) :=
  OpenClaim.holds_of_wide 3 Try.f3 rfl rfl rfl rfl rfl rfl rfl ⟨rfl, rfl, rfl, rfl, rfl⟩ rfl rfl rfl rfl rfl (by kernel_rfl) Try.func3 (by kernel_rfl)
    (of_decide_eq_true (by kernel_rfl)) (by unfold Func.isWrapper; first | (rw [if_pos (by decide +kernel)]; kernel_rfl) | (rw [if_neg (by decide +kernel)]; exact ⟨rfl, rfl⟩))
    (fun os started H enc _ => lifted os started H enc)
theorem proved : Rows.OutboxPlaysSaid := over
#print axioms proved
end Go.Proofs.Ytpcbfbjoiknbhaa.outboxPlays
