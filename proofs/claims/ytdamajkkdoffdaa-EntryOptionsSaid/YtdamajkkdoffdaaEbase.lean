/- The functions of 'entry' that only compute, for the laws of layer 14. -/
import Derived.Test.YtdamajkkdoffdaaFacts
import Derived.Test.YtdamajkkdoffdaaRows
namespace Go.Proofs.Ytdamajkkdoffdaa
open Go.Ab
set_option linter.all false
set_option maxRecDepth 10000
set_option maxHeartbeats 4000000
attribute [local irreducible] W WR WLoop WHop WCall bindV

theorem mixed : Try.prog.follows .mixedOrders = true := by kernel_rfl
noncomputable def c13 : Code := Try.f13.body.getD .skip
noncomputable def s13 : List Value → Option Value := evS Try.prog prs ([] : Tbl) 1000000 13 Try.f13 c13
noncomputable def T13 : Tbl := (13, lift s13) :: ([] : Tbl)
theorem T13ok : TblOK Try.prog T13 := TblOK.cons mixed prsOk Try.func13 rfl (TblOK.nil Try.prog) 1000000
noncomputable def c12 : Code := Try.f12.body.getD .skip
noncomputable def s12 : List Value → Option Value := evS Try.prog prs T13 1000000 12 Try.f12 c12
noncomputable def T12 : Tbl := (12, lift s12) :: T13
theorem T12ok : TblOK Try.prog T12 := TblOK.cons mixed prsOk Try.func12 rfl T13ok 1000000
noncomputable def c11 : Code := Try.f11.body.getD .skip
noncomputable def s11 : List Value → Option Value := evS Try.prog prs T12 1000000 11 Try.f11 c11
noncomputable def T11 : Tbl := (11, lift s11) :: T12
theorem T11ok : TblOK Try.prog T11 := TblOK.cons mixed prsOk Try.func11 rfl T12ok 1000000
noncomputable def c10 : Code := Try.f10.body.getD .skip
noncomputable def s10 : List Value → Option Value := evS Try.prog prs T11 1000000 10 Try.f10 c10
noncomputable def T10 : Tbl := (10, lift s10) :: T11
theorem T10ok : TblOK Try.prog T10 := TblOK.cons mixed prsOk Try.func10 rfl T11ok 1000000
noncomputable def c9 : Code := Try.f9.body.getD .skip
noncomputable def s9 : List Value → Option Value := evS Try.prog prs T10 1000000 9 Try.f9 c9
noncomputable def T9 : Tbl := (9, lift s9) :: T10
theorem T9ok : TblOK Try.prog T9 := TblOK.cons mixed prsOk Try.func9 rfl T10ok 1000000
noncomputable def c8 : Code := Try.f8.body.getD .skip
noncomputable def s8 : List Value → Option Value := evS Try.prog prs T9 1000000 8 Try.f8 c8
noncomputable def T8 : Tbl := (8, lift s8) :: T9
theorem T8ok : TblOK Try.prog T8 := TblOK.cons mixed prsOk Try.func8 rfl T9ok 1000000
noncomputable def c7 : Code := Try.f7.body.getD .skip
noncomputable def s7 : List Value → Option Value := evS Try.prog prs T8 1000000 7 Try.f7 c7
noncomputable def T7 : Tbl := (7, lift s7) :: T8
theorem T7ok : TblOK Try.prog T7 := TblOK.cons mixed prsOk Try.func7 rfl T8ok 1000000
noncomputable def c6 : Code := Try.f6.body.getD .skip
noncomputable def s6 : List Value → Option Value := evS Try.prog prs T7 1000000 6 Try.f6 c6
noncomputable def T6 : Tbl := (6, lift s6) :: T7
theorem T6ok : TblOK Try.prog T6 := TblOK.cons mixed prsOk Try.func6 rfl T7ok 1000000
theorem call13 {args : List Value} {σ : St} {Q : Value → St → Prop} : WCall (callT T6) 13 args σ Q = bindV (s13 args) fun v => Q v σ := by
  unfold T6
  rw [wcall_skip (by decide)]; unfold T7
  rw [wcall_skip (by decide)]; unfold T8
  rw [wcall_skip (by decide)]; unfold T9
  rw [wcall_skip (by decide)]; unfold T10
  rw [wcall_skip (by decide)]; unfold T11
  rw [wcall_skip (by decide)]; unfold T12
  rw [wcall_skip (by decide)]; unfold T13
  exact wcall_pure
theorem call12 {args : List Value} {σ : St} {Q : Value → St → Prop} : WCall (callT T6) 12 args σ Q = bindV (s12 args) fun v => Q v σ := by
  unfold T6
  rw [wcall_skip (by decide)]; unfold T7
  rw [wcall_skip (by decide)]; unfold T8
  rw [wcall_skip (by decide)]; unfold T9
  rw [wcall_skip (by decide)]; unfold T10
  rw [wcall_skip (by decide)]; unfold T11
  rw [wcall_skip (by decide)]; unfold T12
  exact wcall_pure
theorem call11 {args : List Value} {σ : St} {Q : Value → St → Prop} : WCall (callT T6) 11 args σ Q = bindV (s11 args) fun v => Q v σ := by
  unfold T6
  rw [wcall_skip (by decide)]; unfold T7
  rw [wcall_skip (by decide)]; unfold T8
  rw [wcall_skip (by decide)]; unfold T9
  rw [wcall_skip (by decide)]; unfold T10
  rw [wcall_skip (by decide)]; unfold T11
  exact wcall_pure
theorem call10 {args : List Value} {σ : St} {Q : Value → St → Prop} : WCall (callT T6) 10 args σ Q = bindV (s10 args) fun v => Q v σ := by
  unfold T6
  rw [wcall_skip (by decide)]; unfold T7
  rw [wcall_skip (by decide)]; unfold T8
  rw [wcall_skip (by decide)]; unfold T9
  rw [wcall_skip (by decide)]; unfold T10
  exact wcall_pure
theorem call9 {args : List Value} {σ : St} {Q : Value → St → Prop} : WCall (callT T6) 9 args σ Q = bindV (s9 args) fun v => Q v σ := by
  unfold T6
  rw [wcall_skip (by decide)]; unfold T7
  rw [wcall_skip (by decide)]; unfold T8
  rw [wcall_skip (by decide)]; unfold T9
  exact wcall_pure
theorem call8 {args : List Value} {σ : St} {Q : Value → St → Prop} : WCall (callT T6) 8 args σ Q = bindV (s8 args) fun v => Q v σ := by
  unfold T6
  rw [wcall_skip (by decide)]; unfold T7
  rw [wcall_skip (by decide)]; unfold T8
  exact wcall_pure
theorem call7 {args : List Value} {σ : St} {Q : Value → St → Prop} : WCall (callT T6) 7 args σ Q = bindV (s7 args) fun v => Q v σ := by
  unfold T6
  rw [wcall_skip (by decide)]; unfold T7
  exact wcall_pure
theorem call6 {args : List Value} {σ : St} {Q : Value → St → Prop} : WCall (callT T6) 6 args σ Q = bindV (s6 args) fun v => Q v σ := by
  unfold T6
  exact wcall_pure

theorem known_eq : s6 [] = some (.bool true) := by kernel_rfl

abbrev eV (a0 a1 a2 : Int) (a3 a4 : ByteArray) (a5 a6 a7 : Int) (a8 : Bool) (a9 : Int) : Value := .agg #[.int .i64 a0, .int .i64 a1, .int .i64 a2, .string a3, .string a4, .int .i64 a5, .int .i64 a6, .int .i64 a7, .bool a8, .int .i64 a9]
abbrev oV (o0 o1 : ByteArray) (o2 o3 o4 o5 : Int) : Value := .agg #[.string o0, .string o1, .int .i64 o2, .int .i64 o3, .int .i64 o4, .int .i64 o5]

theorem gone_eq (a0 a1 a2 : Int) (a3 a4 : ByteArray) (a5 a6 a7 : Int) (a8 : Bool) (a9 n : Int) :
    s8 [eV a0 a1 a2 a3 a4 a5 a6 a7 a8 a9, .int .i64 n] = some (.bool (decide (0 < a7) && decide (a7 ≤ n))) := by
  refine evS_w2 14 [ResultVar.tmp 4] rfl rfl rfl rfl ?_
  unfold c8 Try.f8
  simp only [Option.getD_some, List.length_cons, List.length_nil, List.replicate, List.cons_append, List.nil_append, Nat.reduceAdd, Nat.reduceSub]
  by_cases h1 : 0 < a7
  all_goals
    repeat' first
      | refine w_seq ?_
      | refine w_region rfl ?_
      | (refine wr_cons ?_; simp only [WStep, Region.wanted, yieldA, callOf, callee?, evOp, Opd, put, onward, caught, jumps, hasLabel, List.getD_cons_zero, List.getD_cons_succ, List.set_cons_zero, List.set_cons_succ, List.getElem?_cons_zero, List.getElem?_cons_succ, Option.bind_some, if_true, if_false, reduceIte, bindV_some, bindV_none, bindV_map, upds, evLoad, evStore, evBuiltin, rd, wr, wrList, oneCell, Value.cells, Option.isSome_none, Option.isNone_none, Bool.false_eq_true, Bool.not_true, Bool.not_false, Bool.or_self, Bool.or_false, Bool.false_or, Bool.and_true, Bool.true_and, Nat.zero_add, Nat.add_zero, List.length_cons, List.length_nil, Nat.reduceAdd, Nat.reduceLeDiff, Nat.reduceSub, Nat.reduceMul, Nat.reduceEqDiff, Nat.reduceLT, Nat.not_lt_zero, decide_false, decide_true, List.drop_succ_cons, List.drop_zero, List.drop_nil, List.take_succ_cons, List.take_zero, List.map_cons, List.map_nil, List.all_cons, List.all_nil, List.cons_append, List.nil_append, List.append_nil, nlt, Nat.lt_irrefl, Nat.add_assoc, T.get_set_self, T.get_set, Nat.add_left_cancel_iff, Nat.left_eq_add, Nat.add_eq_left, Nat.right_eq_add, Nat.reduceEqDiff, envNil, envAt, List.size_toArray, bin_add, bin_sub, bin_mul, bin_lss, bin_leq, bin_gtr, bin_geq, bin_eql, bin_neq, bin_and, bin_or, bin_xor, bin_andNot, bin_seql, bin_sneq, un_not, un_neg, min_int, max_int, bin_beql, bin_rem, bin_quo, conv_int, Int.reduceEq, Int.reduceLT, Int.reduceLE, Int.reduceAdd, Int.reduceMul, Int.reduceSub, Int.reduceNeg, ne_eq, not_false_eq_true, not_true_eq_false, beq_self_eq_true, scal_int, resR_tmp, resR_cell, resR_none, resR_two, resR_three, or_true, true_and, or_false, scal_bool, decide_eq_true_eq, decide_eq_false_iff_not, Try.underlying25, Try.underlying3, ag25, ag3, fa25_7, ip25, ip3, is25, is3, sz25, sz3, ze25, ze3, h1])
      | (refine wr_nil ?_; (try simp only [onward, caught, jumps]); (try dsimp only))
      | (refine w_skip ?_; (try simp only [onward, caught, jumps]); (try dsimp only))
      | (refine w_ret ?_; (try simp only [onward, caught, jumps]); (try dsimp only))
      | (refine w_exit ?_; (try simp only [onward, caught, jumps, reduceIte, Nat.reduceEqDiff]); (try dsimp only))
      | (refine w_goto ?_; (try simp only [onward, caught, jumps, hasLabel, reduceIte, Nat.reduceEqDiff]); (try dsimp only))
      | (refine w_label ?_; (try simp only [onward, caught, jumps]); (try dsimp only))
      | (refine w_label_at ?_; (try simp only [onward, caught, jumps]); (try dsimp only))
      | refine w_cond_t rfl rfl ?_
      | refine w_cond_f rfl rfl ?_
      | refine w_block ?_
      | refine w_scope ?_
      | (refine whop_pass ?_; (try dsimp only))
      | refine w_seq_at rfl ?_
      | refine w_seq_past rfl ?_
      | (refine And.intro (by first | exact Or.inr trivial | exact Or.inr rfl | exact Or.inl rfl | exact Or.inl trivial) ?_; try (simp only [WStep, Region.wanted, yieldA, callOf, callee?, evOp, Opd, put, onward, caught, jumps, hasLabel, List.getD_cons_zero, List.getD_cons_succ, List.set_cons_zero, List.set_cons_succ, List.getElem?_cons_zero, List.getElem?_cons_succ, Option.bind_some, if_true, if_false, reduceIte, bindV_some, bindV_none, bindV_map, upds, evLoad, evStore, evBuiltin, rd, wr, wrList, oneCell, Value.cells, Option.isSome_none, Option.isNone_none, Bool.false_eq_true, Bool.not_true, Bool.not_false, Bool.or_self, Bool.or_false, Bool.false_or, Bool.and_true, Bool.true_and, Nat.zero_add, Nat.add_zero, List.length_cons, List.length_nil, Nat.reduceAdd, Nat.reduceLeDiff, Nat.reduceSub, Nat.reduceMul, Nat.reduceEqDiff, Nat.reduceLT, Nat.not_lt_zero, decide_false, decide_true, List.drop_succ_cons, List.drop_zero, List.drop_nil, List.take_succ_cons, List.take_zero, List.map_cons, List.map_nil, List.all_cons, List.all_nil, List.cons_append, List.nil_append, List.append_nil, nlt, Nat.lt_irrefl, Nat.add_assoc, T.get_set_self, T.get_set, Nat.add_left_cancel_iff, Nat.left_eq_add, Nat.add_eq_left, Nat.right_eq_add, Nat.reduceEqDiff, envNil, envAt, List.size_toArray, bin_add, bin_sub, bin_mul, bin_lss, bin_leq, bin_gtr, bin_geq, bin_eql, bin_neq, bin_and, bin_or, bin_xor, bin_andNot, bin_seql, bin_sneq, un_not, un_neg, min_int, max_int, bin_beql, bin_rem, bin_quo, conv_int, Int.reduceEq, Int.reduceLT, Int.reduceLE, Int.reduceAdd, Int.reduceMul, Int.reduceSub, Int.reduceNeg, ne_eq, not_false_eq_true, not_true_eq_false, beq_self_eq_true, scal_int, resR_tmp, resR_cell, resR_none, resR_two, resR_three, or_true, true_and, or_false, scal_bool, decide_eq_true_eq, decide_eq_false_iff_not, Try.underlying25, Try.underlying3, ag25, ag3, fa25_7, ip25, ip3, is25, is3, sz25, sz3, ze25, ze3, h1]))
  all_goals simp [h1]

theorem for_eq (a0 a1 a2 : Int) (a3 a4 : ByteArray) (a5 a6 a7 : Int) (a8 : Bool) (a9 : Int) (o0 o1 : ByteArray) (o2 o3 o4 o5 n : Int) :
    s7 [eV a0 a1 a2 a3 a4 a5 a6 a7 a8 a9, oV o0 o1 o2 o3 o4 o5, .int .i64 n] = some (eV a0 a1 a2 a3 a4 (if (if o4 < a5 then o4 else a5) < 0 then 0 else (if o4 < a5 then o4 else a5)) a6
      (let ttl := if a6 ≤ 0 then o3 else if 0 < o3 then (if o3 < a6 then o3 else a6) else a6
       if 0 < ttl then IntKind.i64.wrap (n + ttl) else 0) a8 a9) := by
  refine evS_w2 36 [ResultVar.cell 6 25] rfl rfl rfl rfl ?_
  unfold c7 Try.f7
  simp only [Option.getD_some, List.length_cons, List.length_nil, List.replicate, List.cons_append, List.nil_append, Nat.reduceAdd, Nat.reduceSub]
  by_cases h1 : a6 ≤ 0
  · by_cases h2 : 0 < o3
    · repeat' first
      | refine w_seq ?_
      | refine w_region rfl ?_
      | (refine wr_cons ?_; simp only [WStep, Region.wanted, yieldA, callOf, callee?, evOp, Opd, put, onward, caught, jumps, hasLabel, List.getD_cons_zero, List.getD_cons_succ, List.set_cons_zero, List.set_cons_succ, List.getElem?_cons_zero, List.getElem?_cons_succ, Option.bind_some, if_true, if_false, reduceIte, bindV_some, bindV_none, bindV_map, upds, evLoad, evStore, evBuiltin, rd, wr, wrList, oneCell, Value.cells, Option.isSome_none, Option.isNone_none, Bool.false_eq_true, Bool.not_true, Bool.not_false, Bool.or_self, Bool.or_false, Bool.false_or, Bool.and_true, Bool.true_and, Nat.zero_add, Nat.add_zero, List.length_cons, List.length_nil, Nat.reduceAdd, Nat.reduceLeDiff, Nat.reduceSub, Nat.reduceMul, Nat.reduceEqDiff, Nat.reduceLT, Nat.not_lt_zero, decide_false, decide_true, List.drop_succ_cons, List.drop_zero, List.drop_nil, List.take_succ_cons, List.take_zero, List.map_cons, List.map_nil, List.all_cons, List.all_nil, List.cons_append, List.nil_append, List.append_nil, nlt, Nat.lt_irrefl, Nat.add_assoc, T.get_set_self, T.get_set, Nat.add_left_cancel_iff, Nat.left_eq_add, Nat.add_eq_left, Nat.right_eq_add, Nat.reduceEqDiff, envNil, envAt, List.size_toArray, bin_add, bin_sub, bin_mul, bin_lss, bin_leq, bin_gtr, bin_geq, bin_eql, bin_neq, bin_and, bin_or, bin_xor, bin_andNot, bin_seql, bin_sneq, un_not, un_neg, min_int, max_int, bin_beql, bin_rem, bin_quo, conv_int, Int.reduceEq, Int.reduceLT, Int.reduceLE, Int.reduceAdd, Int.reduceMul, Int.reduceSub, Int.reduceNeg, ne_eq, not_false_eq_true, not_true_eq_false, beq_self_eq_true, scal_int, resR_tmp, resR_cell, resR_none, resR_two, resR_three, or_true, true_and, or_false, scal_bool, decide_eq_true_eq, decide_eq_false_iff_not, Try.underlying25, Try.underlying28, Try.underlying3, ag25, ag28, ag3, fa25_5, fa25_6, fa25_7, fa28_3, fa28_4, ip25, ip28, ip3, is25, is28, is3, sz25, sz28, sz3, ze25, ze28, ze3, h1, h2])
      | (refine wr_nil ?_; (try simp only [onward, caught, jumps]); (try dsimp only))
      | (refine w_skip ?_; (try simp only [onward, caught, jumps]); (try dsimp only))
      | (refine w_ret ?_; (try simp only [onward, caught, jumps]); (try dsimp only))
      | (refine w_exit ?_; (try simp only [onward, caught, jumps, reduceIte, Nat.reduceEqDiff]); (try dsimp only))
      | (refine w_goto ?_; (try simp only [onward, caught, jumps, hasLabel, reduceIte, Nat.reduceEqDiff]); (try dsimp only))
      | (refine w_label ?_; (try simp only [onward, caught, jumps]); (try dsimp only))
      | (refine w_label_at ?_; (try simp only [onward, caught, jumps]); (try dsimp only))
      | refine w_cond_t rfl rfl ?_
      | refine w_cond_f rfl rfl ?_
      | refine w_block ?_
      | refine w_scope ?_
      | (refine whop_pass ?_; (try dsimp only))
      | refine w_seq_at rfl ?_
      | refine w_seq_past rfl ?_
      | (refine And.intro (by first | exact Or.inr trivial | exact Or.inr rfl | exact Or.inl rfl | exact Or.inl trivial) ?_; try (simp only [WStep, Region.wanted, yieldA, callOf, callee?, evOp, Opd, put, onward, caught, jumps, hasLabel, List.getD_cons_zero, List.getD_cons_succ, List.set_cons_zero, List.set_cons_succ, List.getElem?_cons_zero, List.getElem?_cons_succ, Option.bind_some, if_true, if_false, reduceIte, bindV_some, bindV_none, bindV_map, upds, evLoad, evStore, evBuiltin, rd, wr, wrList, oneCell, Value.cells, Option.isSome_none, Option.isNone_none, Bool.false_eq_true, Bool.not_true, Bool.not_false, Bool.or_self, Bool.or_false, Bool.false_or, Bool.and_true, Bool.true_and, Nat.zero_add, Nat.add_zero, List.length_cons, List.length_nil, Nat.reduceAdd, Nat.reduceLeDiff, Nat.reduceSub, Nat.reduceMul, Nat.reduceEqDiff, Nat.reduceLT, Nat.not_lt_zero, decide_false, decide_true, List.drop_succ_cons, List.drop_zero, List.drop_nil, List.take_succ_cons, List.take_zero, List.map_cons, List.map_nil, List.all_cons, List.all_nil, List.cons_append, List.nil_append, List.append_nil, nlt, Nat.lt_irrefl, Nat.add_assoc, T.get_set_self, T.get_set, Nat.add_left_cancel_iff, Nat.left_eq_add, Nat.add_eq_left, Nat.right_eq_add, Nat.reduceEqDiff, envNil, envAt, List.size_toArray, bin_add, bin_sub, bin_mul, bin_lss, bin_leq, bin_gtr, bin_geq, bin_eql, bin_neq, bin_and, bin_or, bin_xor, bin_andNot, bin_seql, bin_sneq, un_not, un_neg, min_int, max_int, bin_beql, bin_rem, bin_quo, conv_int, Int.reduceEq, Int.reduceLT, Int.reduceLE, Int.reduceAdd, Int.reduceMul, Int.reduceSub, Int.reduceNeg, ne_eq, not_false_eq_true, not_true_eq_false, beq_self_eq_true, scal_int, resR_tmp, resR_cell, resR_none, resR_two, resR_three, or_true, true_and, or_false, scal_bool, decide_eq_true_eq, decide_eq_false_iff_not, Try.underlying25, Try.underlying28, Try.underlying3, ag25, ag28, ag3, fa25_5, fa25_6, fa25_7, fa28_3, fa28_4, ip25, ip28, ip3, is25, is28, is3, sz25, sz28, sz3, ze25, ze28, ze3, h1, h2]))
      all_goals simp [h1, h2]
    · repeat' first
      | refine w_seq ?_
      | refine w_region rfl ?_
      | (refine wr_cons ?_; simp only [WStep, Region.wanted, yieldA, callOf, callee?, evOp, Opd, put, onward, caught, jumps, hasLabel, List.getD_cons_zero, List.getD_cons_succ, List.set_cons_zero, List.set_cons_succ, List.getElem?_cons_zero, List.getElem?_cons_succ, Option.bind_some, if_true, if_false, reduceIte, bindV_some, bindV_none, bindV_map, upds, evLoad, evStore, evBuiltin, rd, wr, wrList, oneCell, Value.cells, Option.isSome_none, Option.isNone_none, Bool.false_eq_true, Bool.not_true, Bool.not_false, Bool.or_self, Bool.or_false, Bool.false_or, Bool.and_true, Bool.true_and, Nat.zero_add, Nat.add_zero, List.length_cons, List.length_nil, Nat.reduceAdd, Nat.reduceLeDiff, Nat.reduceSub, Nat.reduceMul, Nat.reduceEqDiff, Nat.reduceLT, Nat.not_lt_zero, decide_false, decide_true, List.drop_succ_cons, List.drop_zero, List.drop_nil, List.take_succ_cons, List.take_zero, List.map_cons, List.map_nil, List.all_cons, List.all_nil, List.cons_append, List.nil_append, List.append_nil, nlt, Nat.lt_irrefl, Nat.add_assoc, T.get_set_self, T.get_set, Nat.add_left_cancel_iff, Nat.left_eq_add, Nat.add_eq_left, Nat.right_eq_add, Nat.reduceEqDiff, envNil, envAt, List.size_toArray, bin_add, bin_sub, bin_mul, bin_lss, bin_leq, bin_gtr, bin_geq, bin_eql, bin_neq, bin_and, bin_or, bin_xor, bin_andNot, bin_seql, bin_sneq, un_not, un_neg, min_int, max_int, bin_beql, bin_rem, bin_quo, conv_int, Int.reduceEq, Int.reduceLT, Int.reduceLE, Int.reduceAdd, Int.reduceMul, Int.reduceSub, Int.reduceNeg, ne_eq, not_false_eq_true, not_true_eq_false, beq_self_eq_true, scal_int, resR_tmp, resR_cell, resR_none, resR_two, resR_three, or_true, true_and, or_false, scal_bool, decide_eq_true_eq, decide_eq_false_iff_not, Try.underlying25, Try.underlying28, Try.underlying3, ag25, ag28, ag3, fa25_5, fa25_6, fa25_7, fa28_3, fa28_4, ip25, ip28, ip3, is25, is28, is3, sz25, sz28, sz3, ze25, ze28, ze3, h1, h2])
      | (refine wr_nil ?_; (try simp only [onward, caught, jumps]); (try dsimp only))
      | (refine w_skip ?_; (try simp only [onward, caught, jumps]); (try dsimp only))
      | (refine w_ret ?_; (try simp only [onward, caught, jumps]); (try dsimp only))
      | (refine w_exit ?_; (try simp only [onward, caught, jumps, reduceIte, Nat.reduceEqDiff]); (try dsimp only))
      | (refine w_goto ?_; (try simp only [onward, caught, jumps, hasLabel, reduceIte, Nat.reduceEqDiff]); (try dsimp only))
      | (refine w_label ?_; (try simp only [onward, caught, jumps]); (try dsimp only))
      | (refine w_label_at ?_; (try simp only [onward, caught, jumps]); (try dsimp only))
      | refine w_cond_t rfl rfl ?_
      | refine w_cond_f rfl rfl ?_
      | refine w_block ?_
      | refine w_scope ?_
      | (refine whop_pass ?_; (try dsimp only))
      | refine w_seq_at rfl ?_
      | refine w_seq_past rfl ?_
      | (refine And.intro (by first | exact Or.inr trivial | exact Or.inr rfl | exact Or.inl rfl | exact Or.inl trivial) ?_; try (simp only [WStep, Region.wanted, yieldA, callOf, callee?, evOp, Opd, put, onward, caught, jumps, hasLabel, List.getD_cons_zero, List.getD_cons_succ, List.set_cons_zero, List.set_cons_succ, List.getElem?_cons_zero, List.getElem?_cons_succ, Option.bind_some, if_true, if_false, reduceIte, bindV_some, bindV_none, bindV_map, upds, evLoad, evStore, evBuiltin, rd, wr, wrList, oneCell, Value.cells, Option.isSome_none, Option.isNone_none, Bool.false_eq_true, Bool.not_true, Bool.not_false, Bool.or_self, Bool.or_false, Bool.false_or, Bool.and_true, Bool.true_and, Nat.zero_add, Nat.add_zero, List.length_cons, List.length_nil, Nat.reduceAdd, Nat.reduceLeDiff, Nat.reduceSub, Nat.reduceMul, Nat.reduceEqDiff, Nat.reduceLT, Nat.not_lt_zero, decide_false, decide_true, List.drop_succ_cons, List.drop_zero, List.drop_nil, List.take_succ_cons, List.take_zero, List.map_cons, List.map_nil, List.all_cons, List.all_nil, List.cons_append, List.nil_append, List.append_nil, nlt, Nat.lt_irrefl, Nat.add_assoc, T.get_set_self, T.get_set, Nat.add_left_cancel_iff, Nat.left_eq_add, Nat.add_eq_left, Nat.right_eq_add, Nat.reduceEqDiff, envNil, envAt, List.size_toArray, bin_add, bin_sub, bin_mul, bin_lss, bin_leq, bin_gtr, bin_geq, bin_eql, bin_neq, bin_and, bin_or, bin_xor, bin_andNot, bin_seql, bin_sneq, un_not, un_neg, min_int, max_int, bin_beql, bin_rem, bin_quo, conv_int, Int.reduceEq, Int.reduceLT, Int.reduceLE, Int.reduceAdd, Int.reduceMul, Int.reduceSub, Int.reduceNeg, ne_eq, not_false_eq_true, not_true_eq_false, beq_self_eq_true, scal_int, resR_tmp, resR_cell, resR_none, resR_two, resR_three, or_true, true_and, or_false, scal_bool, decide_eq_true_eq, decide_eq_false_iff_not, Try.underlying25, Try.underlying28, Try.underlying3, ag25, ag28, ag3, fa25_5, fa25_6, fa25_7, fa28_3, fa28_4, ip25, ip28, ip3, is25, is28, is3, sz25, sz28, sz3, ze25, ze28, ze3, h1, h2]))
      all_goals simp [h1, h2]
  · by_cases h2 : 0 < o3
    · have h3 : 0 < if o3 < a6 then o3 else a6 := by split <;> omega
      repeat' first
      | refine w_seq ?_
      | refine w_region rfl ?_
      | (refine wr_cons ?_; simp only [WStep, Region.wanted, yieldA, callOf, callee?, evOp, Opd, put, onward, caught, jumps, hasLabel, List.getD_cons_zero, List.getD_cons_succ, List.set_cons_zero, List.set_cons_succ, List.getElem?_cons_zero, List.getElem?_cons_succ, Option.bind_some, if_true, if_false, reduceIte, bindV_some, bindV_none, bindV_map, upds, evLoad, evStore, evBuiltin, rd, wr, wrList, oneCell, Value.cells, Option.isSome_none, Option.isNone_none, Bool.false_eq_true, Bool.not_true, Bool.not_false, Bool.or_self, Bool.or_false, Bool.false_or, Bool.and_true, Bool.true_and, Nat.zero_add, Nat.add_zero, List.length_cons, List.length_nil, Nat.reduceAdd, Nat.reduceLeDiff, Nat.reduceSub, Nat.reduceMul, Nat.reduceEqDiff, Nat.reduceLT, Nat.not_lt_zero, decide_false, decide_true, List.drop_succ_cons, List.drop_zero, List.drop_nil, List.take_succ_cons, List.take_zero, List.map_cons, List.map_nil, List.all_cons, List.all_nil, List.cons_append, List.nil_append, List.append_nil, nlt, Nat.lt_irrefl, Nat.add_assoc, T.get_set_self, T.get_set, Nat.add_left_cancel_iff, Nat.left_eq_add, Nat.add_eq_left, Nat.right_eq_add, Nat.reduceEqDiff, envNil, envAt, List.size_toArray, bin_add, bin_sub, bin_mul, bin_lss, bin_leq, bin_gtr, bin_geq, bin_eql, bin_neq, bin_and, bin_or, bin_xor, bin_andNot, bin_seql, bin_sneq, un_not, un_neg, min_int, max_int, bin_beql, bin_rem, bin_quo, conv_int, Int.reduceEq, Int.reduceLT, Int.reduceLE, Int.reduceAdd, Int.reduceMul, Int.reduceSub, Int.reduceNeg, ne_eq, not_false_eq_true, not_true_eq_false, beq_self_eq_true, scal_int, resR_tmp, resR_cell, resR_none, resR_two, resR_three, or_true, true_and, or_false, scal_bool, decide_eq_true_eq, decide_eq_false_iff_not, Try.underlying25, Try.underlying28, Try.underlying3, ag25, ag28, ag3, fa25_5, fa25_6, fa25_7, fa28_3, fa28_4, ip25, ip28, ip3, is25, is28, is3, sz25, sz28, sz3, ze25, ze28, ze3, h1, h2, h3])
      | (refine wr_nil ?_; (try simp only [onward, caught, jumps]); (try dsimp only))
      | (refine w_skip ?_; (try simp only [onward, caught, jumps]); (try dsimp only))
      | (refine w_ret ?_; (try simp only [onward, caught, jumps]); (try dsimp only))
      | (refine w_exit ?_; (try simp only [onward, caught, jumps, reduceIte, Nat.reduceEqDiff]); (try dsimp only))
      | (refine w_goto ?_; (try simp only [onward, caught, jumps, hasLabel, reduceIte, Nat.reduceEqDiff]); (try dsimp only))
      | (refine w_label ?_; (try simp only [onward, caught, jumps]); (try dsimp only))
      | (refine w_label_at ?_; (try simp only [onward, caught, jumps]); (try dsimp only))
      | refine w_cond_t rfl rfl ?_
      | refine w_cond_f rfl rfl ?_
      | refine w_block ?_
      | refine w_scope ?_
      | (refine whop_pass ?_; (try dsimp only))
      | refine w_seq_at rfl ?_
      | refine w_seq_past rfl ?_
      | (refine And.intro (by first | exact Or.inr trivial | exact Or.inr rfl | exact Or.inl rfl | exact Or.inl trivial) ?_; try (simp only [WStep, Region.wanted, yieldA, callOf, callee?, evOp, Opd, put, onward, caught, jumps, hasLabel, List.getD_cons_zero, List.getD_cons_succ, List.set_cons_zero, List.set_cons_succ, List.getElem?_cons_zero, List.getElem?_cons_succ, Option.bind_some, if_true, if_false, reduceIte, bindV_some, bindV_none, bindV_map, upds, evLoad, evStore, evBuiltin, rd, wr, wrList, oneCell, Value.cells, Option.isSome_none, Option.isNone_none, Bool.false_eq_true, Bool.not_true, Bool.not_false, Bool.or_self, Bool.or_false, Bool.false_or, Bool.and_true, Bool.true_and, Nat.zero_add, Nat.add_zero, List.length_cons, List.length_nil, Nat.reduceAdd, Nat.reduceLeDiff, Nat.reduceSub, Nat.reduceMul, Nat.reduceEqDiff, Nat.reduceLT, Nat.not_lt_zero, decide_false, decide_true, List.drop_succ_cons, List.drop_zero, List.drop_nil, List.take_succ_cons, List.take_zero, List.map_cons, List.map_nil, List.all_cons, List.all_nil, List.cons_append, List.nil_append, List.append_nil, nlt, Nat.lt_irrefl, Nat.add_assoc, T.get_set_self, T.get_set, Nat.add_left_cancel_iff, Nat.left_eq_add, Nat.add_eq_left, Nat.right_eq_add, Nat.reduceEqDiff, envNil, envAt, List.size_toArray, bin_add, bin_sub, bin_mul, bin_lss, bin_leq, bin_gtr, bin_geq, bin_eql, bin_neq, bin_and, bin_or, bin_xor, bin_andNot, bin_seql, bin_sneq, un_not, un_neg, min_int, max_int, bin_beql, bin_rem, bin_quo, conv_int, Int.reduceEq, Int.reduceLT, Int.reduceLE, Int.reduceAdd, Int.reduceMul, Int.reduceSub, Int.reduceNeg, ne_eq, not_false_eq_true, not_true_eq_false, beq_self_eq_true, scal_int, resR_tmp, resR_cell, resR_none, resR_two, resR_three, or_true, true_and, or_false, scal_bool, decide_eq_true_eq, decide_eq_false_iff_not, Try.underlying25, Try.underlying28, Try.underlying3, ag25, ag28, ag3, fa25_5, fa25_6, fa25_7, fa28_3, fa28_4, ip25, ip28, ip3, is25, is28, is3, sz25, sz28, sz3, ze25, ze28, ze3, h1, h2, h3]))
      all_goals simp [h1, h2, h3]
    · have h3 : 0 < a6 := by omega
      repeat' first
      | refine w_seq ?_
      | refine w_region rfl ?_
      | (refine wr_cons ?_; simp only [WStep, Region.wanted, yieldA, callOf, callee?, evOp, Opd, put, onward, caught, jumps, hasLabel, List.getD_cons_zero, List.getD_cons_succ, List.set_cons_zero, List.set_cons_succ, List.getElem?_cons_zero, List.getElem?_cons_succ, Option.bind_some, if_true, if_false, reduceIte, bindV_some, bindV_none, bindV_map, upds, evLoad, evStore, evBuiltin, rd, wr, wrList, oneCell, Value.cells, Option.isSome_none, Option.isNone_none, Bool.false_eq_true, Bool.not_true, Bool.not_false, Bool.or_self, Bool.or_false, Bool.false_or, Bool.and_true, Bool.true_and, Nat.zero_add, Nat.add_zero, List.length_cons, List.length_nil, Nat.reduceAdd, Nat.reduceLeDiff, Nat.reduceSub, Nat.reduceMul, Nat.reduceEqDiff, Nat.reduceLT, Nat.not_lt_zero, decide_false, decide_true, List.drop_succ_cons, List.drop_zero, List.drop_nil, List.take_succ_cons, List.take_zero, List.map_cons, List.map_nil, List.all_cons, List.all_nil, List.cons_append, List.nil_append, List.append_nil, nlt, Nat.lt_irrefl, Nat.add_assoc, T.get_set_self, T.get_set, Nat.add_left_cancel_iff, Nat.left_eq_add, Nat.add_eq_left, Nat.right_eq_add, Nat.reduceEqDiff, envNil, envAt, List.size_toArray, bin_add, bin_sub, bin_mul, bin_lss, bin_leq, bin_gtr, bin_geq, bin_eql, bin_neq, bin_and, bin_or, bin_xor, bin_andNot, bin_seql, bin_sneq, un_not, un_neg, min_int, max_int, bin_beql, bin_rem, bin_quo, conv_int, Int.reduceEq, Int.reduceLT, Int.reduceLE, Int.reduceAdd, Int.reduceMul, Int.reduceSub, Int.reduceNeg, ne_eq, not_false_eq_true, not_true_eq_false, beq_self_eq_true, scal_int, resR_tmp, resR_cell, resR_none, resR_two, resR_three, or_true, true_and, or_false, scal_bool, decide_eq_true_eq, decide_eq_false_iff_not, Try.underlying25, Try.underlying28, Try.underlying3, ag25, ag28, ag3, fa25_5, fa25_6, fa25_7, fa28_3, fa28_4, ip25, ip28, ip3, is25, is28, is3, sz25, sz28, sz3, ze25, ze28, ze3, h1, h2, h3])
      | (refine wr_nil ?_; (try simp only [onward, caught, jumps]); (try dsimp only))
      | (refine w_skip ?_; (try simp only [onward, caught, jumps]); (try dsimp only))
      | (refine w_ret ?_; (try simp only [onward, caught, jumps]); (try dsimp only))
      | (refine w_exit ?_; (try simp only [onward, caught, jumps, reduceIte, Nat.reduceEqDiff]); (try dsimp only))
      | (refine w_goto ?_; (try simp only [onward, caught, jumps, hasLabel, reduceIte, Nat.reduceEqDiff]); (try dsimp only))
      | (refine w_label ?_; (try simp only [onward, caught, jumps]); (try dsimp only))
      | (refine w_label_at ?_; (try simp only [onward, caught, jumps]); (try dsimp only))
      | refine w_cond_t rfl rfl ?_
      | refine w_cond_f rfl rfl ?_
      | refine w_block ?_
      | refine w_scope ?_
      | (refine whop_pass ?_; (try dsimp only))
      | refine w_seq_at rfl ?_
      | refine w_seq_past rfl ?_
      | (refine And.intro (by first | exact Or.inr trivial | exact Or.inr rfl | exact Or.inl rfl | exact Or.inl trivial) ?_; try (simp only [WStep, Region.wanted, yieldA, callOf, callee?, evOp, Opd, put, onward, caught, jumps, hasLabel, List.getD_cons_zero, List.getD_cons_succ, List.set_cons_zero, List.set_cons_succ, List.getElem?_cons_zero, List.getElem?_cons_succ, Option.bind_some, if_true, if_false, reduceIte, bindV_some, bindV_none, bindV_map, upds, evLoad, evStore, evBuiltin, rd, wr, wrList, oneCell, Value.cells, Option.isSome_none, Option.isNone_none, Bool.false_eq_true, Bool.not_true, Bool.not_false, Bool.or_self, Bool.or_false, Bool.false_or, Bool.and_true, Bool.true_and, Nat.zero_add, Nat.add_zero, List.length_cons, List.length_nil, Nat.reduceAdd, Nat.reduceLeDiff, Nat.reduceSub, Nat.reduceMul, Nat.reduceEqDiff, Nat.reduceLT, Nat.not_lt_zero, decide_false, decide_true, List.drop_succ_cons, List.drop_zero, List.drop_nil, List.take_succ_cons, List.take_zero, List.map_cons, List.map_nil, List.all_cons, List.all_nil, List.cons_append, List.nil_append, List.append_nil, nlt, Nat.lt_irrefl, Nat.add_assoc, T.get_set_self, T.get_set, Nat.add_left_cancel_iff, Nat.left_eq_add, Nat.add_eq_left, Nat.right_eq_add, Nat.reduceEqDiff, envNil, envAt, List.size_toArray, bin_add, bin_sub, bin_mul, bin_lss, bin_leq, bin_gtr, bin_geq, bin_eql, bin_neq, bin_and, bin_or, bin_xor, bin_andNot, bin_seql, bin_sneq, un_not, un_neg, min_int, max_int, bin_beql, bin_rem, bin_quo, conv_int, Int.reduceEq, Int.reduceLT, Int.reduceLE, Int.reduceAdd, Int.reduceMul, Int.reduceSub, Int.reduceNeg, ne_eq, not_false_eq_true, not_true_eq_false, beq_self_eq_true, scal_int, resR_tmp, resR_cell, resR_none, resR_two, resR_three, or_true, true_and, or_false, scal_bool, decide_eq_true_eq, decide_eq_false_iff_not, Try.underlying25, Try.underlying28, Try.underlying3, ag25, ag28, ag3, fa25_5, fa25_6, fa25_7, fa28_3, fa28_4, ip25, ip28, ip3, is25, is28, is3, sz25, sz28, sz3, ze25, ze28, ze3, h1, h2, h3]))
      all_goals simp [h1, h2, h3]
end Go.Proofs.Ytdamajkkdoffdaa
