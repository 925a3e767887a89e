/- The builder's methods, walked in the model: a builder that is the first part of a larger object. -/
import Derived.Test.YtpcbfbjoiknbhaaProg 
import Derived.WalkKit
import Derived.Lib.FrozenHead
import Derived.Laws.Externs
namespace Go.Proofs.Ytpcbfbjoiknbhaa
open Go.RowKit
set_option linter.all false
set_option maxHeartbeats 1000000
set_option maxRecDepth 100000
theorem cc_used (b : Nat) (w : World) (h0 : w.cell? ⟨b, 0, none⟩ = some (.pointer (some ⟨b, 0, none⟩))) :
    Calls Try.prog 20 #[.pointer (some ⟨b, 0, none⟩)] w fun e w' => e = .returned (.tuple #[]) ∧ w' = w := by
  obtain ⟨j, hj, _⟩ : ∃ j, Try.prog.info? 42 = some j ∧ j.size ≠ 0 := ⟨_, rfl, by decide⟩
  go_enter Try.func20, Try.ntmps20
  go_wp2
  rw [Lib.run_neq_ptr_same w _ Try.underlying40 hj]
  go_wp2
  go_end0
  exact ⟨rfl, rfl⟩
theorem cc_fresh (b : Nat) (w : World) (h0 : w.cell? ⟨b, 0, none⟩ = some (.pointer none)) (hsh : w.shape? b = some (44, 4)) (hfz : w.frozen? ⟨b, 0, none⟩ = false) :
    Calls Try.prog 20 #[.pointer (some ⟨b, 0, none⟩)] w fun e w' => e = .returned (.tuple #[]) ∧ w' = w.setCell ⟨b, 0, none⟩ (.pointer (some ⟨b, 0, none⟩)) := by
  obtain ⟨j, hj, hjs⟩ : ∃ j, Try.prog.info? 42 = some j ∧ j.size ≠ 0 := ⟨_, rfl, by decide⟩
  go_enter Try.func20, Try.ntmps20
  go_wp2
  rw [Lib.run_to_unsafe w ⟨b, 0, none⟩ Try.underlying40 Try.underlying50 hj hjs hsh (show 0 < 4 by omega)]
  simp only [Result.andThen]
  rw [Oper.upon_value]
  go_wp2
  rw [run_callFunc_extern Try.func21 (by kernel_rfl) (by kernel_rfl) (by kernel_rfl) (e := Extern.AbiNoEscape.same) (by kernel_rfl)]
  rw [Lib.run_noEscape]
  simp only [Result.andThen]
  rw [Oper.upon_value]
  go_wp2
  rw [Lib.run_from_unsafe w ⟨b, 0, none⟩ Try.underlying50 Try.underlying40 hj hsh (by kernel_rfl)]
  simp only [Result.andThen]
  rw [Oper.upon_value]
  go_wp2
  go_end0
  exact ⟨rfl, rfl⟩
theorem wpl_run {P : Program} (w : World) {ops : Array Oper} {rest : List Oper} {o : Oper} {a : Act} {Q : Exit → Act → World → Prop} (hgd : o.guard = none) (sl x : Operand) (t u : TypeId)
    (ho : o.op = .call { callee := .builtin .append, args := #[sl, x], argTypes := #[t, u] }) (v vx v' : Value) (w2 : World) (hs : a.eval sl = v) (hx : a.eval x = vx)
    (hr : (Builtin.append_ #[t, u] o.type #[v, vx]).run P w = .ok v' w2) (h : wpList P ops Q rest (a.put o.dst v') w2) : wpList P ops Q (o :: rest) a w := by
  refine wpList_plain hgd fun K hK => ?_
  unfold Oper.wp execOp
  simp only [ho, resolve, invoke, builtin, Sem.run_bind, Sem.run_pure, Result.andThen_ok, List.map_toArray, List.map_cons, List.map_nil, hs, hx, hr]
  exact hK _ _ h
/-- WriteString. -/
theorem ws_any (b : Nat) (w w1 w2 : World) (v : Value) (s : ByteArray) (ao : Option Addr) (n cap : Nat) (u : Value) (hcc : Calls Try.prog 20 #[.pointer (some ⟨b, 0, none⟩)] w fun e w' => e = .returned (.tuple #[]) ∧ w' = w1)
    (c1 : w1.cell? ⟨b, 1, none⟩ = some v) (hr : (Builtin.append_ #[37, 9] 37 #[v, .string s]).run Try.prog w1 = .ok (.slice ao n cap) w2) (c2 : w2.cell? ⟨b, 1, none⟩ = some u) (f2 : w2.frozen? ⟨b, 1, none⟩ = false) :
    Calls Try.prog 19 #[.pointer (some ⟨b, 0, none⟩), .string s] w fun e w' => e = .returned (.tuple #[.int .i64 s.size, .nilIface]) ∧ w' = w2.setCell ⟨b, 1, none⟩ (.slice ao n cap) := by
  go_enter Try.func19, Try.ntmps19
  go_wp2_with (go_at_call 20; refine hcc.mono ?_)
  rintro e w' ⟨rfl, rfl⟩
  go_wp2_with (at_builtin; refine wpl_run _ rfl _ _ 37 9 rfl _ _ _ _ rfl rfl hr ?_)
  go_wp2
  go_ret2
  exact ⟨rfl, rfl⟩
/-- String. -/
theorem st_any (b : Nat) (w w2 : World) (sa pa : Option Addr) (n cap : Nat) (st : ByteArray) (c1 : w.drew.cell? ⟨b, 1, none⟩ = some (.slice sa n cap))
    (hSD : (Builtin.unsafeSliceData_ #[37] 49 #[.slice sa n cap]).run Try.prog w.drew = .ok (.pointer pa) w.drew)
    (hUS : (Builtin.unsafeString_ #[49, 3] 9 #[.pointer pa, .int .i64 n]).run Try.prog w.drew = .ok (.string st) w2) :
    Calls Try.prog 18 #[.pointer (some ⟨b, 0, none⟩)] w fun e w' => e = .returned (.string st) ∧ w' = w2 := by
  go_enter Try.func18, Try.ntmps18
  go_wp2
  go_region
  all_goals (go_wp2; go_ret; exact ⟨rfl, rfl⟩)
end Go.Proofs.Ytpcbfbjoiknbhaa
