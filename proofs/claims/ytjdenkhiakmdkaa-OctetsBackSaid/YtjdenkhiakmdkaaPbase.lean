/- The functions of 'octets' and of its reference, answered. -/
import Derived.Test.YtjdenkhiakmdkaaFacts
import Derived.Test.YtjdenkhiakmdkaaRows
namespace Go.Proofs.Ytjdenkhiakmdkaa
open Go.Ab Go.RowKit
set_option linter.all false
set_option maxRecDepth 10000
set_option maxHeartbeats 8000000

theorem mixed : Try.prog.follows .mixedOrders = true := by kernel_rfl
noncomputable def c15 : Code := Try.f15.body.getD .skip
noncomputable def s15 : List Value → Option Value := evS Try.prog prs ([] : Tbl) 1000000 15 Try.f15 c15
noncomputable def T15 : Tbl := (15, lift s15) :: ([] : Tbl)
theorem T15ok : TblOK Try.prog T15 := TblOK.cons mixed prsOk Try.func15 rfl (TblOK.nil Try.prog) 1000000
noncomputable def c14 : Code := Try.f14.body.getD .skip
noncomputable def s14 : List Value → Option Value := evS Try.prog prs T15 1000000 14 Try.f14 c14
noncomputable def T14 : Tbl := (14, lift s14) :: T15
theorem T14ok : TblOK Try.prog T14 := TblOK.cons mixed prsOk Try.func14 rfl T15ok 1000000
noncomputable def c11 : Code := Try.f11.body.getD .skip
noncomputable def s11 : List Value → Option Value := evS Try.prog prs T14 1000000 11 Try.f11 c11
noncomputable def T11 : Tbl := (11, lift s11) :: T14
theorem T11ok : TblOK Try.prog T11 := TblOK.cons mixed prsOk Try.func11 rfl T14ok 1000000
noncomputable def c9 : Code := Try.f9.body.getD .skip
noncomputable def s9 : List Value → Option Value := evS Try.prog prs T11 1000000 9 Try.f9 c9
noncomputable def T9 : Tbl := (9, lift s9) :: T11
theorem T9ok : TblOK Try.prog T9 := TblOK.cons mixed prsOk Try.func9 rfl T11ok 1000000
noncomputable def c13 : Code := Try.f13.body.getD .skip
noncomputable def s13 : List Value → Option Value := evS Try.prog prs T9 1000000 13 Try.f13 c13
noncomputable def T13 : Tbl := (13, lift s13) :: T9
theorem T13ok : TblOK Try.prog T13 := TblOK.cons mixed prsOk Try.func13 rfl T9ok 1000000
noncomputable def c12 : Code := Try.f12.body.getD .skip
noncomputable def s12 : List Value → Option Value := evS Try.prog prs T13 1000000 12 Try.f12 c12
noncomputable def T12 : Tbl := (12, lift s12) :: T13
theorem T12ok : TblOK Try.prog T12 := TblOK.cons mixed prsOk Try.func12 rfl T13ok 1000000
noncomputable def c8 : Code := Try.f8.body.getD .skip
noncomputable def s8 : List Value → Option Value := evS Try.prog prs T12 1000000 8 Try.f8 c8
noncomputable def T8 : Tbl := (8, lift s8) :: T12
theorem T8ok : TblOK Try.prog T8 := TblOK.cons mixed prsOk Try.func8 rfl T12ok 1000000
noncomputable def c10 : Code := Try.f10.body.getD .skip
noncomputable def s10 : List Value → Option Value := evS Try.prog prs T8 1000000 10 Try.f10 c10
noncomputable def T10 : Tbl := (10, lift s10) :: T8
theorem T10ok : TblOK Try.prog T10 := TblOK.cons mixed prsOk Try.func10 rfl T8ok 1000000
noncomputable def c7 : Code := Try.f7.body.getD .skip
noncomputable def s7 : List Value → Option Value := evS Try.prog prs T10 1000000 7 Try.f7 c7
noncomputable def T7 : Tbl := (7, lift s7) :: T10
theorem T7ok : TblOK Try.prog T7 := TblOK.cons mixed prsOk Try.func7 rfl T10ok 1000000
theorem call15 {args : List Value} {σ : St} {Q : Value → St → Prop} : WCall (callT T7) 15 args σ Q = bindV (s15 args) fun v => Q v σ := by
  unfold T7
  rw [wcall_skip (by decide)]; unfold T10
  rw [wcall_skip (by decide)]; unfold T8
  rw [wcall_skip (by decide)]; unfold T12
  rw [wcall_skip (by decide)]; unfold T13
  rw [wcall_skip (by decide)]; unfold T9
  rw [wcall_skip (by decide)]; unfold T11
  rw [wcall_skip (by decide)]; unfold T14
  rw [wcall_skip (by decide)]; unfold T15
  exact wcall_pure
theorem call14 {args : List Value} {σ : St} {Q : Value → St → Prop} : WCall (callT T7) 14 args σ Q = bindV (s14 args) fun v => Q v σ := by
  unfold T7
  rw [wcall_skip (by decide)]; unfold T10
  rw [wcall_skip (by decide)]; unfold T8
  rw [wcall_skip (by decide)]; unfold T12
  rw [wcall_skip (by decide)]; unfold T13
  rw [wcall_skip (by decide)]; unfold T9
  rw [wcall_skip (by decide)]; unfold T11
  rw [wcall_skip (by decide)]; unfold T14
  exact wcall_pure
theorem call11 {args : List Value} {σ : St} {Q : Value → St → Prop} : WCall (callT T7) 11 args σ Q = bindV (s11 args) fun v => Q v σ := by
  unfold T7
  rw [wcall_skip (by decide)]; unfold T10
  rw [wcall_skip (by decide)]; unfold T8
  rw [wcall_skip (by decide)]; unfold T12
  rw [wcall_skip (by decide)]; unfold T13
  rw [wcall_skip (by decide)]; unfold T9
  rw [wcall_skip (by decide)]; unfold T11
  exact wcall_pure
theorem call9 {args : List Value} {σ : St} {Q : Value → St → Prop} : WCall (callT T7) 9 args σ Q = bindV (s9 args) fun v => Q v σ := by
  unfold T7
  rw [wcall_skip (by decide)]; unfold T10
  rw [wcall_skip (by decide)]; unfold T8
  rw [wcall_skip (by decide)]; unfold T12
  rw [wcall_skip (by decide)]; unfold T13
  rw [wcall_skip (by decide)]; unfold T9
  exact wcall_pure
theorem call13 {args : List Value} {σ : St} {Q : Value → St → Prop} : WCall (callT T7) 13 args σ Q = bindV (s13 args) fun v => Q v σ := by
  unfold T7
  rw [wcall_skip (by decide)]; unfold T10
  rw [wcall_skip (by decide)]; unfold T8
  rw [wcall_skip (by decide)]; unfold T12
  rw [wcall_skip (by decide)]; unfold T13
  exact wcall_pure
theorem call12 {args : List Value} {σ : St} {Q : Value → St → Prop} : WCall (callT T7) 12 args σ Q = bindV (s12 args) fun v => Q v σ := by
  unfold T7
  rw [wcall_skip (by decide)]; unfold T10
  rw [wcall_skip (by decide)]; unfold T8
  rw [wcall_skip (by decide)]; unfold T12
  exact wcall_pure
theorem call8 {args : List Value} {σ : St} {Q : Value → St → Prop} : WCall (callT T7) 8 args σ Q = bindV (s8 args) fun v => Q v σ := by
  unfold T7
  rw [wcall_skip (by decide)]; unfold T10
  rw [wcall_skip (by decide)]; unfold T8
  exact wcall_pure
theorem call10 {args : List Value} {σ : St} {Q : Value → St → Prop} : WCall (callT T7) 10 args σ Q = bindV (s10 args) fun v => Q v σ := by
  unfold T7
  rw [wcall_skip (by decide)]; unfold T10
  exact wcall_pure
theorem call7 {args : List Value} {σ : St} {Q : Value → St → Prop} : WCall (callT T7) 7 args σ Q = bindV (s7 args) fun v => Q v σ := by
  unfold T7
  exact wcall_pure
theorem known_eq : s7 [] = some (.bool true) := by kernel_rfl
theorem cv5_3 {E : Env} (hE : E.P = Try.prog) {g : Nat → Option Blk} {nid : Nat} {a : Int} : evConvert E g nid 5 3 (.int .u8 a) = some ⟨.int .i64 (IntKind.i64.wrap a), [], []⟩ :=
  conv_int (by rw [hE]; exact Try.underlying5) (by rw [hE]; exact Try.underlying3)
theorem cv3_5 {E : Env} (hE : E.P = Try.prog) {g : Nat → Option Blk} {nid : Nat} {a : Int} : evConvert E g nid 3 5 (.int .i64 a) = some ⟨.int .u8 (IntKind.u8.wrap a), [], []⟩ :=
  conv_int (by rw [hE]; exact Try.underlying3) (by rw [hE]; exact Try.underlying5)

theorem call13b {args : List Value} {σ : St} {Q : Value → St → Prop} : WCall (callT T13) 13 args σ Q = bindV (s13 args) fun v => Q v σ := by
  unfold T13; exact wcall_pure
theorem call8b {args : List Value} {σ : St} {Q : Value → St → Prop} : WCall (callT T8) 8 args σ Q = bindV (s8 args) fun v => Q v σ := by
  unfold T8; exact wcall_pure

def zs (n : Nat) : ByteArray := ⟨(List.replicate n (0 : UInt8)).toArray⟩
theorem zs_size (n : Nat) : (zs n).size = n := by simp [zs, ByteArray.size]
def b1 (n : Int) : ByteArray := ⟨#[byteV (.int .u8 (IntKind.u8.wrap n))]⟩
theorem b1_size (n : Int) : (b1 n).size = 1 := rfl

theorem mk42 {E : Env} (hE : E.P = Try.prog) {nid : Nat} {n : Int} (h0 : 0 ≤ n) (h1 : n ≤ 1000) :
    evMakeSlice E nid 42 (.int .i64 n) (.int .i64 n) = some ⟨.slice (some ⟨nid, 0, none⟩) n.toNat n.toNat, [(nid, some (.cells (List.replicate n.toNat (.int .u8 0)) 5 true))], []⟩ := by
  have e1 : elemT Try.prog 42 = some 5 := by kernel_rfl
  have e2 : (Try.prog.info? 5).map (fun i => (i.bytes, i.size)) = some (1, 1) := by kernel_rfl
  unfold evMakeSlice
  simp only [hE, e1, ze5]
  cases hi : Try.prog.info? 5 with
  | none => rw [hi] at e2; cases e2
  | some i =>
    rw [hi] at e2
    simp only [Option.map_some, Option.some.injEq, Prod.mk.injEq] at e2
    obtain ⟨e3, e4⟩ := e2
    simp only [e3, e4, List.size_toArray, List.length_cons, List.length_nil]
    rw [if_pos ⟨h0, Int.le_refl _, by omega, by simp; omega, trivial, by omega⟩]
    simp [zeroRow]
theorem mk42_1 {E : Env} (hE : E.P = Try.prog) {nid : Nat} : evMakeSlice E nid 42 (.int .i64 1) (.int .i64 1) = some ⟨.slice (some ⟨nid, 0, none⟩) 1 1, [(nid, some (.cells [.int .u8 0] 5 true))], []⟩ := mk42 hE (by decide) (by decide)

theorem cv42 {E : Env} (hE : E.P = Try.prog) {g : Nat → Option Blk} {nid b n : Nat} (hb : (b < E.old) = False) (hg : g b = some (.cells (List.replicate n (.int .u8 0)) 5 true)) :
    evConvert E g nid 42 9 (.slice (some ⟨b, 0, none⟩) n n) = some ⟨.string (zs n), [], [b]⟩ := by
  unfold evConvert
  simp only [hE, Try.underlying42, Try.underlying9, Try.underlying5]
  have : rd E g ⟨b, 0, none⟩ n = some (List.replicate n (.int .u8 0)) := by
    simp [rd, hb, hg]
  have h2 : bytesOf? (List.replicate n (Value.int .u8 0)) = some (zs n) := by
    simp [bytesOf?, zs, isByte, byteV]
  simp only [this, h2, Option.map_some]
theorem cv42_1 {E : Env} (hE : E.P = Try.prog) {g : Nat → Option Blk} {nid b : Nat} {x : Int} (hb : (b < E.old) = False) (hg : g b = some (.cells [.int .u8 (IntKind.u8.wrap x)] 5 true)) :
    evConvert E g nid 42 9 (.slice (some ⟨b, 0, none⟩) 1 1) = some ⟨.string (b1 x), [], [b]⟩ := by
  unfold evConvert
  simp only [hE, Try.underlying42, Try.underlying9, Try.underlying5]
  have : rd E g ⟨b, 0, none⟩ 1 = some [.int .u8 (IntKind.u8.wrap x)] := by
    simp [rd, hb, hg]
  have h2 : bytesOf? [.int .u8 (IntKind.u8.wrap x)] = some (b1 x) := by
    simp [bytesOf?, b1, isByte]
  simp only [this, h2, Option.map_some]

theorem len9 {x : ByteArray} : evLen Try.prog #[9] (.string x) = some (.int .i64 x.size) := by
  simp [evLen, Try.underlying9]
theorem ix9 {s : ByteArray} (h : 0 < s.size) : evIndex Try.prog 9 (.string s) (.int .i64 0) = some (.int .u8 (s[0]!).toNat) := by
  simp [evIndex, Try.underlying9, h]
theorem sadd9 {xo yo : Operand} {x y : ByteArray} (h : x.size + y.size ≤ 1000000) : evBin Try.prog .add 9 xo yo (.string x) (.string y) = some (.string (x ++ y)) := by
  rw [evBin_scalar ip9 is9 rfl rfl]
  have : ¬ (((x.size + y.size : Nat) : Int) > IntKind.i64.max) := by
    have : IntKind.i64.max = 9223372036854775807 := by decide
    omega
  simp only [eqGuard, binOp, Op.stringOp, if_neg this]
  rfl
theorem slFrom {E : Env} (hE : E.P = Try.prog) {g : Nat → Option Blk} {s : ByteArray} {n : Int} (h0 : 0 ≤ n) (h1 : n ≤ s.size) : evSlice E g 9 (.string s) (some (.int .i64 n)) none none = some ⟨.string (s.extract n.toNat s.size), [], []⟩ := by
  simp [evSlice, hE, Try.underlying9, bound?, h0, h1]
  try omega
theorem slTo {E : Env} (hE : E.P = Try.prog) {g : Nat → Option Blk} {s : ByteArray} {n : Int} (h0 : 0 ≤ n) (h1 : n ≤ s.size) : evSlice E g 9 (.string s) none (some (.int .i64 n)) none = some ⟨.string (s.extract 0 n.toNat), [], []⟩ := by
  simp [evSlice, hE, Try.underlying9, bound?, h0, h1]
  try omega
theorem or8 {v : Int} (h0 : 0 ≤ v) (h1 : v ≤ 255) : IntKind.i64.wrap ((BitVec.ofInt IntKind.i64.bits 0 ||| BitVec.ofInt IntKind.i64.bits v).toNat) = v := by
  have : ∀ i : Fin 256, IntKind.i64.wrap ((BitVec.ofInt IntKind.i64.bits 0 ||| BitVec.ofInt IntKind.i64.bits (i.val : Int)).toNat) = (i.val : Int) := by decide +kernel
  have h := this ⟨v.toNat, by omega⟩
  simp only [Int.toNat_of_nonneg h0] at h
  exact h
/-- The number that the first so many bytes tell. -/
def takeN (s : ByteArray) : Nat → Int
  | 0 => 0
  | i + 1 => takeN s i * 256 + ((s[i]!).toNat : Int)

theorem takeN_bd (s : ByteArray) : ∀ i, 0 ≤ takeN s i ∧ takeN s i < 256 ^ i
  | 0 => by simp [takeN]
  | i + 1 => by
    have h := takeN_bd s i
    have hb := (s[i]!).toNat_lt
    simp only [takeN]
    refine ⟨by omega, ?_⟩
    rw [Int.pow_succ]
    omega

theorem wrap_id {k : IntKind} {n : Int} (h : k = .i64) (h0 : -9223372036854775808 ≤ n) (h1 : n ≤ 9223372036854775807) : k.wrap n = n := by
  subst h
  by_cases hh : n % 2 ^ 64 ≥ 2 ^ 63 <;> simp [IntKind.wrap, IntKind.bits, IntKind.signed, hh] <;> omega

theorem byte_wrap (b : UInt8) : IntKind.i64.wrap (b.toNat : Int) = b.toNat := by
  have := b.toNat_lt
  exact wrap_id rfl (by omega) (by omega)

theorem or_step (a : Int) (b : UInt8) (h0 : 0 ≤ a) (h1 : a < 281474976710656) :
    IntKind.i64.wrap ((BitVec.ofInt IntKind.i64.bits (IntKind.i64.wrap (a * 2 ^ min (Int.toNat 8) IntKind.i64.bits)) ||| BitVec.ofInt IntKind.i64.bits (b.toNat : Int)).toNat) = a * 256 + b.toNat := by
  have hb := b.toNat_lt
  have e : a * 2 ^ min (Int.toNat 8) IntKind.i64.bits = a * 256 := by
    have : min (Int.toNat 8) IntKind.i64.bits = 8 := by decide
    rw [this]; rfl
  have e3 : IntKind.i64.wrap (a * 256) = a * 256 := wrap_id rfl (by omega) (by omega)
  rw [e, e3]
  obtain ⟨n, rfl⟩ : ∃ n : Nat, a = (n : Int) := ⟨a.toNat, by omega⟩
  have e2 : (BitVec.ofInt IntKind.i64.bits ((n : Int) * 256) ||| BitVec.ofInt IntKind.i64.bits (b.toNat : Int)).toNat = 256 * n + b.toNat := by
    rw [BitVec.toNat_or]
    have x1 : (BitVec.ofInt IntKind.i64.bits ((n : Int) * 256)).toNat = 2 ^ 8 * n := by
      simp only [BitVec.toNat_ofInt, IntKind.bits]
      omega
    have x2 : (BitVec.ofInt IntKind.i64.bits (b.toNat : Int)).toNat = b.toNat := by
      simp only [BitVec.toNat_ofInt, IntKind.bits]
      omega
    rw [x1, x2, ← Nat.two_pow_add_eq_or_of_lt (by omega)]
  rw [e2, wrap_id rfl (by omega) (by omega)]
  omega

theorem st (s : ByteArray) (i : Nat) (hi : i ≤ 6) :
    IntKind.i64.wrap ((BitVec.ofInt IntKind.i64.bits (IntKind.i64.wrap (takeN s i * 2 ^ min (Int.toNat 8) IntKind.i64.bits)) ||| BitVec.ofInt IntKind.i64.bits ((s[i]!).toNat : Int)).toNat) = takeN s (i + 1) := by
  have h := takeN_bd s i
  have : (256 : Int) ^ i ≤ 256 ^ 6 := by
    rcases i with _ | _ | _ | _ | _ | _ | _ | i <;> first | decide | omega
  exact or_step _ _ h.1 (by have : (256 : Int) ^ 6 = 281474976710656 := by decide
                            omega)
theorem st0 (s : ByteArray) : IntKind.i64.wrap ((BitVec.ofInt IntKind.i64.bits 0 ||| BitVec.ofInt IntKind.i64.bits ((s[0]!).toNat : Int)).toNat) = takeN s 1 := by
  have hb := (s[0]!).toNat_lt
  have := or8 (v := ((s[0]!).toNat : Int)) (by omega) (by omega)
  rw [this]; simp [takeN]
theorem ixk (s : ByteArray) (i : Nat) (h : i < s.size) : evIndex Try.prog 9 (.string s) (.int .i64 (i : Int)) = some (.int .u8 (s[i]!).toNat) := by
  simp [evIndex, Try.underlying9, h]
attribute [local irreducible] W WR WLoop WHop WCall bindV

theorem rz : IntKind.i64.wrap 0 = 0 := by decide
theorem rz1 : IntKind.i64.wrap 1 = 1 := by decide
theorem ia42 {b : Nat} : evIndexAddr Try.prog 42 (.slice (some ⟨b, 0, none⟩) 1 1) (.int .i64 0) = some (.pointer (some ⟨b, 0, none⟩)) := by kernel_rfl
theorem num_eq (n : Int) : s13 [.int .i64 n, .int .i64 1] = some (.string (b1 n)) := by
  have cv (E : Env) (hE : E.P = Try.prog) (g : Nat → Option Blk) (nid b : Nat) (hb : (b < E.old) = False) (hg : g b = some (.cells [.int .u8 (IntKind.u8.wrap n)] 5 true)) := cv42_1 hE (g := g) (nid := nid) (b := b) (x := n) hb hg
  (refine evS_w2 26 [ResultVar.tmp 4] rfl rfl rfl rfl ?_; unfold c13 Try.f13; simp only [Option.getD_some, List.length_cons, List.length_nil, List.replicate, List.cons_append, List.nil_append, Nat.reduceAdd, Nat.reduceSub])
  (repeat' (first | refine w_seq ?_ | refine w_region rfl ?_ | refine w_region_pairs _ rfl ?_ | (refine wr_cons ?_; simp only [Option.map_some, Option.map_none, List.getElem?_toArray, WStep, Region.wanted, yieldA, callOf, callee?, evOp, Opd, put, onward, caught, jumps, hasLabel, List.getD_cons_zero, List.getD_cons_succ, List.set_cons_zero, List.set_cons_succ, List.getElem?_cons_zero, List.getElem?_cons_succ, Option.bind_some, if_true, if_false, reduceIte, bindV_some, bindV_none, bindV_map, upds, evLoad, evStore, evBuiltin, rd, wr, wrList, oneCell, Value.cells, Option.isSome_none, Option.isNone_none, Bool.false_eq_true, Bool.not_true, Bool.not_false, Bool.or_self, Bool.or_false, Bool.false_or, Bool.and_true, Bool.true_and, Nat.zero_add, Nat.add_zero, List.length_cons, List.length_nil, Nat.reduceAdd, Nat.reduceLeDiff, Nat.reduceSub, Nat.reduceMul, Nat.reduceEqDiff, Nat.reduceLT, Nat.not_lt_zero, decide_false, decide_true, List.drop_succ_cons, List.drop_zero, List.drop_nil, List.take_succ_cons, List.take_zero, List.map_cons, List.map_nil, List.all_cons, List.all_nil, List.cons_append, List.nil_append, List.append_nil, nlt, Nat.lt_irrefl, Nat.add_assoc, T.get_set_self, T.get_set, Nat.add_left_cancel_iff, Nat.left_eq_add, Nat.add_eq_left, Nat.right_eq_add, Nat.reduceEqDiff, envNil, envAt, List.size_toArray, bin_add, bin_sub, bin_mul, bin_lss, bin_leq, bin_gtr, bin_geq, bin_eql, bin_neq, bin_and, bin_or, bin_xor, bin_andNot, bin_seql, bin_sneq, un_not, un_neg, min_int, max_int, bin_beql, bin_rem, bin_quo, conv_int, Int.reduceEq, Int.reduceLT, Int.reduceLE, Int.reduceAdd, Int.reduceMul, Int.reduceSub, Int.reduceNeg, ne_eq, not_false_eq_true, not_true_eq_false, beq_self_eq_true, Bool.false_and, Bool.and_false, Bool.true_or, Bool.or_true, Bool.true_beq, Bool.false_beq, scal_int, resR_tmp, resR_cell, resR_none, resR_two, resR_three, or_true, true_and, or_false, scal_bool, decide_eq_true_eq, decide_eq_false_iff_not, Try.underlying3, Try.underlying42, Try.underlying5, Try.underlying9, ag3, ag42, ag5, ag9, el42, ip3, ip42, ip5, ip9, is3, is42, is5, is9, sz3, sz42, sz5, sz9, ze3, ze42, ze5, ze9, rz, rz1, ia42, bin_shr, mk42_1, cv3_5, cv]) | (refine wr_nil ?_; (try simp only [onward, caught, jumps]); (try dsimp only)) | (refine w_skip ?_; (try simp only [onward, caught, jumps]); (try dsimp only)) | (refine w_ret ?_; (try simp only [onward, caught, jumps]); (try dsimp only)) | (refine w_exit ?_; (try simp only [onward, caught, jumps, reduceIte, Nat.reduceEqDiff]); (try dsimp only)) | (refine w_goto ?_; (try simp only [onward, caught, jumps, hasLabel, reduceIte, Nat.reduceEqDiff]); (try dsimp only)) | (refine w_label ?_; (try simp only [onward, caught, jumps]); (try dsimp only)) | (refine w_label_at ?_; (try simp only [onward, caught, jumps]); (try dsimp only)) | refine w_cond_t rfl rfl ?_ | refine w_cond_f rfl rfl ?_ | refine w_block ?_ | refine w_scope ?_ | refine w_loop ?_ | (refine wloop_round ?_; (try dsimp only)) | (refine whop_pass ?_; (try dsimp only)) | refine w_seq_at rfl ?_ | refine w_seq_past rfl ?_ | (refine And.intro (by first | exact Or.inr trivial | exact Or.inr rfl | exact Or.inl rfl | exact Or.inl trivial) ?_; (try (simp only [Option.map_some, Option.map_none, List.getElem?_toArray, WStep, Region.wanted, yieldA, callOf, callee?, evOp, Opd, put, onward, caught, jumps, hasLabel, List.getD_cons_zero, List.getD_cons_succ, List.set_cons_zero, List.set_cons_succ, List.getElem?_cons_zero, List.getElem?_cons_succ, Option.bind_some, if_true, if_false, reduceIte, bindV_some, bindV_none, bindV_map, upds, evLoad, evStore, evBuiltin, rd, wr, wrList, oneCell, Value.cells, Option.isSome_none, Option.isNone_none, Bool.false_eq_true, Bool.not_true, Bool.not_false, Bool.or_self, Bool.or_false, Bool.false_or, Bool.and_true, Bool.true_and, Nat.zero_add, Nat.add_zero, List.length_cons, List.length_nil, Nat.reduceAdd, Nat.reduceLeDiff, Nat.reduceSub, Nat.reduceMul, Nat.reduceEqDiff, Nat.reduceLT, Nat.not_lt_zero, decide_false, decide_true, List.drop_succ_cons, List.drop_zero, List.drop_nil, List.take_succ_cons, List.take_zero, List.map_cons, List.map_nil, List.all_cons, List.all_nil, List.cons_append, List.nil_append, List.append_nil, nlt, Nat.lt_irrefl, Nat.add_assoc, T.get_set_self, T.get_set, Nat.add_left_cancel_iff, Nat.left_eq_add, Nat.add_eq_left, Nat.right_eq_add, Nat.reduceEqDiff, envNil, envAt, List.size_toArray, bin_add, bin_sub, bin_mul, bin_lss, bin_leq, bin_gtr, bin_geq, bin_eql, bin_neq, bin_and, bin_or, bin_xor, bin_andNot, bin_seql, bin_sneq, un_not, un_neg, min_int, max_int, bin_beql, bin_rem, bin_quo, conv_int, Int.reduceEq, Int.reduceLT, Int.reduceLE, Int.reduceAdd, Int.reduceMul, Int.reduceSub, Int.reduceNeg, ne_eq, not_false_eq_true, not_true_eq_false, beq_self_eq_true, Bool.false_and, Bool.and_false, Bool.true_or, Bool.or_true, Bool.true_beq, Bool.false_beq, scal_int, resR_tmp, resR_cell, resR_none, resR_two, resR_three, or_true, true_and, or_false, scal_bool, decide_eq_true_eq, decide_eq_false_iff_not, Try.underlying3, Try.underlying42, Try.underlying5, Try.underlying9, ag3, ag42, ag5, ag9, el42, ip3, ip42, ip5, ip9, is3, is42, is5, is9, sz3, sz42, sz5, sz9, ze3, ze42, ze5, ze9, rz, rz1, ia42, bin_shr, mk42_1, cv3_5, cv])); (try with_reducible rfl); (try rfl)) | refine And.intro (by simp [prs, envAt, envNil, pairsOk, indep, effSame, beqV, beqL, beqF, disj, T.get_set]; done) ?_))
  all_goals trace_state
theorem text_eq (s : ByteArray) (h : s.size ≤ 255) : s12 [.string s] = some (.tuple #[.string (b1 s.size ++ s), .int .i64 0]) := by
  (refine evS_w2 12 [ResultVar.tmp 2, ResultVar.tmp 3] rfl rfl rfl rfl ?_; unfold c12 Try.f12; simp only [Option.getD_some, List.length_cons, List.length_nil, List.replicate, List.cons_append, List.nil_append, Nat.reduceAdd, Nat.reduceSub])
  have k1 : ¬ (255 : Int) < s.size := by omega
  have k2 : (b1 s.size).size + s.size ≤ 1000000 := by rw [b1_size]; omega
  (repeat' (first | refine w_seq ?_ | refine w_region rfl ?_ | refine w_region_pairs _ rfl ?_ | (refine wr_cons ?_; simp only [Option.map_some, Option.map_none, List.getElem?_toArray, WStep, Region.wanted, yieldA, callOf, callee?, evOp, Opd, put, onward, caught, jumps, hasLabel, List.getD_cons_zero, List.getD_cons_succ, List.set_cons_zero, List.set_cons_succ, List.getElem?_cons_zero, List.getElem?_cons_succ, Option.bind_some, if_true, if_false, reduceIte, bindV_some, bindV_none, bindV_map, upds, evLoad, evStore, evBuiltin, rd, wr, wrList, oneCell, Value.cells, Option.isSome_none, Option.isNone_none, Bool.false_eq_true, Bool.not_true, Bool.not_false, Bool.or_self, Bool.or_false, Bool.false_or, Bool.and_true, Bool.true_and, Nat.zero_add, Nat.add_zero, List.length_cons, List.length_nil, Nat.reduceAdd, Nat.reduceLeDiff, Nat.reduceSub, Nat.reduceMul, Nat.reduceEqDiff, Nat.reduceLT, Nat.not_lt_zero, decide_false, decide_true, List.drop_succ_cons, List.drop_zero, List.drop_nil, List.take_succ_cons, List.take_zero, List.map_cons, List.map_nil, List.all_cons, List.all_nil, List.cons_append, List.nil_append, List.append_nil, nlt, Nat.lt_irrefl, Nat.add_assoc, T.get_set_self, T.get_set, Nat.add_left_cancel_iff, Nat.left_eq_add, Nat.add_eq_left, Nat.right_eq_add, Nat.reduceEqDiff, envNil, envAt, List.size_toArray, bin_add, bin_sub, bin_mul, bin_lss, bin_leq, bin_gtr, bin_geq, bin_eql, bin_neq, bin_and, bin_or, bin_xor, bin_andNot, bin_seql, bin_sneq, un_not, un_neg, min_int, max_int, bin_beql, bin_rem, bin_quo, conv_int, Int.reduceEq, Int.reduceLT, Int.reduceLE, Int.reduceAdd, Int.reduceMul, Int.reduceSub, Int.reduceNeg, ne_eq, not_false_eq_true, not_true_eq_false, beq_self_eq_true, Bool.false_and, Bool.and_false, Bool.true_or, Bool.or_true, Bool.true_beq, Bool.false_beq, scal_int, resR_tmp, resR_cell, resR_none, resR_two, resR_three, or_true, true_and, or_false, scal_bool, decide_eq_true_eq, decide_eq_false_iff_not, Try.underlying3, Try.underlying9, ag3, ag9, ip3, ip9, is3, is9, sz3, sz9, ze3, ze9, len9, call13b, num_eq, k1, sadd9, k2]) | (refine wr_nil ?_; (try simp only [onward, caught, jumps]); (try dsimp only)) | (refine w_skip ?_; (try simp only [onward, caught, jumps]); (try dsimp only)) | (refine w_ret ?_; (try simp only [onward, caught, jumps]); (try dsimp only)) | (refine w_exit ?_; (try simp only [onward, caught, jumps, reduceIte, Nat.reduceEqDiff]); (try dsimp only)) | (refine w_goto ?_; (try simp only [onward, caught, jumps, hasLabel, reduceIte, Nat.reduceEqDiff]); (try dsimp only)) | (refine w_label ?_; (try simp only [onward, caught, jumps]); (try dsimp only)) | (refine w_label_at ?_; (try simp only [onward, caught, jumps]); (try dsimp only)) | refine w_cond_t rfl rfl ?_ | refine w_cond_f rfl rfl ?_ | refine w_block ?_ | refine w_scope ?_ | refine w_loop ?_ | (refine wloop_round ?_; (try dsimp only)) | (refine whop_pass ?_; (try dsimp only)) | refine w_seq_at rfl ?_ | refine w_seq_past rfl ?_ | (refine And.intro (by first | exact Or.inr trivial | exact Or.inr rfl | exact Or.inl rfl | exact Or.inl trivial) ?_; (try (simp only [Option.map_some, Option.map_none, List.getElem?_toArray, WStep, Region.wanted, yieldA, callOf, callee?, evOp, Opd, put, onward, caught, jumps, hasLabel, List.getD_cons_zero, List.getD_cons_succ, List.set_cons_zero, List.set_cons_succ, List.getElem?_cons_zero, List.getElem?_cons_succ, Option.bind_some, if_true, if_false, reduceIte, bindV_some, bindV_none, bindV_map, upds, evLoad, evStore, evBuiltin, rd, wr, wrList, oneCell, Value.cells, Option.isSome_none, Option.isNone_none, Bool.false_eq_true, Bool.not_true, Bool.not_false, Bool.or_self, Bool.or_false, Bool.false_or, Bool.and_true, Bool.true_and, Nat.zero_add, Nat.add_zero, List.length_cons, List.length_nil, Nat.reduceAdd, Nat.reduceLeDiff, Nat.reduceSub, Nat.reduceMul, Nat.reduceEqDiff, Nat.reduceLT, Nat.not_lt_zero, decide_false, decide_true, List.drop_succ_cons, List.drop_zero, List.drop_nil, List.take_succ_cons, List.take_zero, List.map_cons, List.map_nil, List.all_cons, List.all_nil, List.cons_append, List.nil_append, List.append_nil, nlt, Nat.lt_irrefl, Nat.add_assoc, T.get_set_self, T.get_set, Nat.add_left_cancel_iff, Nat.left_eq_add, Nat.add_eq_left, Nat.right_eq_add, Nat.reduceEqDiff, envNil, envAt, List.size_toArray, bin_add, bin_sub, bin_mul, bin_lss, bin_leq, bin_gtr, bin_geq, bin_eql, bin_neq, bin_and, bin_or, bin_xor, bin_andNot, bin_seql, bin_sneq, un_not, un_neg, min_int, max_int, bin_beql, bin_rem, bin_quo, conv_int, Int.reduceEq, Int.reduceLT, Int.reduceLE, Int.reduceAdd, Int.reduceMul, Int.reduceSub, Int.reduceNeg, ne_eq, not_false_eq_true, not_true_eq_false, beq_self_eq_true, Bool.false_and, Bool.and_false, Bool.true_or, Bool.or_true, Bool.true_beq, Bool.false_beq, scal_int, resR_tmp, resR_cell, resR_none, resR_two, resR_three, or_true, true_and, or_false, scal_bool, decide_eq_true_eq, decide_eq_false_iff_not, Try.underlying3, Try.underlying9, ag3, ag9, ip3, ip9, is3, is9, sz3, sz9, ze3, ze9, len9, call13b, num_eq, k1, sadd9, k2])); (try with_reducible rfl); (try rfl)) | refine And.intro (by simp [prs, envAt, envNil, pairsOk, indep, effSame, beqV, beqL, beqF, disj, T.get_set]; done) ?_))
  all_goals trace_state
theorem take_eq (s : ByteArray) (h : 0 < s.size) : s8 [.string s, .int .i64 1] = some (.tuple #[.int .i64 (s[0]!).toNat, .string (s.extract 1 s.size), .int .i64 0]) := by
  (refine evS_w2 33 [ResultVar.tmp 4, ResultVar.tmp 5, ResultVar.tmp 6] rfl rfl rfl rfl ?_; unfold c8 Try.f8; simp only [Option.getD_some, List.length_cons, List.length_nil, List.replicate, List.cons_append, List.nil_append, Nat.reduceAdd, Nat.reduceSub])
  have k1 : ¬ (s.size : Int) < 1 := by omega
  have k2 : (1 : Int) ≤ s.size := by omega
  have k3 := (s[0]!).toNat_lt
  have k4 : IntKind.i64.wrap ((s[0]!).toNat : Int) = (s[0]!).toNat := by
    by_cases hh : ((s[0]!).toNat : Int) % 2 ^ 64 ≥ 2 ^ 63 <;> simp [IntKind.wrap, IntKind.bits, IntKind.signed, hh] <;> omega
  have k5 := or8 (v := ((s[0]!).toNat : Int)) (by omega) (by omega)
  (repeat' (first | refine w_seq ?_ | refine w_region rfl ?_ | refine w_region_pairs _ rfl ?_ | (refine wr_cons ?_; simp only [Option.map_some, Option.map_none, List.getElem?_toArray, WStep, Region.wanted, yieldA, callOf, callee?, evOp, Opd, put, onward, caught, jumps, hasLabel, List.getD_cons_zero, List.getD_cons_succ, List.set_cons_zero, List.set_cons_succ, List.getElem?_cons_zero, List.getElem?_cons_succ, Option.bind_some, if_true, if_false, reduceIte, bindV_some, bindV_none, bindV_map, upds, evLoad, evStore, evBuiltin, rd, wr, wrList, oneCell, Value.cells, Option.isSome_none, Option.isNone_none, Bool.false_eq_true, Bool.not_true, Bool.not_false, Bool.or_self, Bool.or_false, Bool.false_or, Bool.and_true, Bool.true_and, Nat.zero_add, Nat.add_zero, List.length_cons, List.length_nil, Nat.reduceAdd, Nat.reduceLeDiff, Nat.reduceSub, Nat.reduceMul, Nat.reduceEqDiff, Nat.reduceLT, Nat.not_lt_zero, decide_false, decide_true, List.drop_succ_cons, List.drop_zero, List.drop_nil, List.take_succ_cons, List.take_zero, List.map_cons, List.map_nil, List.all_cons, List.all_nil, List.cons_append, List.nil_append, List.append_nil, nlt, Nat.lt_irrefl, Nat.add_assoc, T.get_set_self, T.get_set, Nat.add_left_cancel_iff, Nat.left_eq_add, Nat.add_eq_left, Nat.right_eq_add, Nat.reduceEqDiff, envNil, envAt, List.size_toArray, bin_add, bin_sub, bin_mul, bin_lss, bin_leq, bin_gtr, bin_geq, bin_eql, bin_neq, bin_and, bin_or, bin_xor, bin_andNot, bin_seql, bin_sneq, un_not, un_neg, min_int, max_int, bin_beql, bin_rem, bin_quo, conv_int, Int.reduceEq, Int.reduceLT, Int.reduceLE, Int.reduceAdd, Int.reduceMul, Int.reduceSub, Int.reduceNeg, ne_eq, not_false_eq_true, not_true_eq_false, beq_self_eq_true, Bool.false_and, Bool.and_false, Bool.true_or, Bool.or_true, Bool.true_beq, Bool.false_beq, scal_int, resR_tmp, resR_cell, resR_none, resR_two, resR_three, or_true, true_and, or_false, scal_bool, decide_eq_true_eq, decide_eq_false_iff_not, Try.underlying3, Try.underlying5, Try.underlying9, ag3, ag5, ag9, ip3, ip5, ip9, is3, is5, is9, sz3, sz5, sz9, ze3, ze5, ze9, rz, rz1, Int.zero_mul, len9, ix9, h, k1, k2, k4, k5, cv5_3, slFrom, bin_shl]) | (refine wr_nil ?_; (try simp only [onward, caught, jumps]); (try dsimp only)) | (refine w_skip ?_; (try simp only [onward, caught, jumps]); (try dsimp only)) | (refine w_ret ?_; (try simp only [onward, caught, jumps]); (try dsimp only)) | (refine w_exit ?_; (try simp only [onward, caught, jumps, reduceIte, Nat.reduceEqDiff]); (try dsimp only)) | (refine w_goto ?_; (try simp only [onward, caught, jumps, hasLabel, reduceIte, Nat.reduceEqDiff]); (try dsimp only)) | (refine w_label ?_; (try simp only [onward, caught, jumps]); (try dsimp only)) | (refine w_label_at ?_; (try simp only [onward, caught, jumps]); (try dsimp only)) | refine w_cond_t rfl rfl ?_ | refine w_cond_f rfl rfl ?_ | refine w_block ?_ | refine w_scope ?_ | refine w_loop ?_ | (refine wloop_round ?_; (try dsimp only)) | (refine whop_pass ?_; (try dsimp only)) | refine w_seq_at rfl ?_ | refine w_seq_past rfl ?_ | (refine And.intro (by first | exact Or.inr trivial | exact Or.inr rfl | exact Or.inl rfl | exact Or.inl trivial) ?_; (try (simp only [Option.map_some, Option.map_none, List.getElem?_toArray, WStep, Region.wanted, yieldA, callOf, callee?, evOp, Opd, put, onward, caught, jumps, hasLabel, List.getD_cons_zero, List.getD_cons_succ, List.set_cons_zero, List.set_cons_succ, List.getElem?_cons_zero, List.getElem?_cons_succ, Option.bind_some, if_true, if_false, reduceIte, bindV_some, bindV_none, bindV_map, upds, evLoad, evStore, evBuiltin, rd, wr, wrList, oneCell, Value.cells, Option.isSome_none, Option.isNone_none, Bool.false_eq_true, Bool.not_true, Bool.not_false, Bool.or_self, Bool.or_false, Bool.false_or, Bool.and_true, Bool.true_and, Nat.zero_add, Nat.add_zero, List.length_cons, List.length_nil, Nat.reduceAdd, Nat.reduceLeDiff, Nat.reduceSub, Nat.reduceMul, Nat.reduceEqDiff, Nat.reduceLT, Nat.not_lt_zero, decide_false, decide_true, List.drop_succ_cons, List.drop_zero, List.drop_nil, List.take_succ_cons, List.take_zero, List.map_cons, List.map_nil, List.all_cons, List.all_nil, List.cons_append, List.nil_append, List.append_nil, nlt, Nat.lt_irrefl, Nat.add_assoc, T.get_set_self, T.get_set, Nat.add_left_cancel_iff, Nat.left_eq_add, Nat.add_eq_left, Nat.right_eq_add, Nat.reduceEqDiff, envNil, envAt, List.size_toArray, bin_add, bin_sub, bin_mul, bin_lss, bin_leq, bin_gtr, bin_geq, bin_eql, bin_neq, bin_and, bin_or, bin_xor, bin_andNot, bin_seql, bin_sneq, un_not, un_neg, min_int, max_int, bin_beql, bin_rem, bin_quo, conv_int, Int.reduceEq, Int.reduceLT, Int.reduceLE, Int.reduceAdd, Int.reduceMul, Int.reduceSub, Int.reduceNeg, ne_eq, not_false_eq_true, not_true_eq_false, beq_self_eq_true, Bool.false_and, Bool.and_false, Bool.true_or, Bool.or_true, Bool.true_beq, Bool.false_beq, scal_int, resR_tmp, resR_cell, resR_none, resR_two, resR_three, or_true, true_and, or_false, scal_bool, decide_eq_true_eq, decide_eq_false_iff_not, Try.underlying3, Try.underlying5, Try.underlying9, ag3, ag5, ag9, ip3, ip5, ip9, is3, is5, is9, sz3, sz5, sz9, ze3, ze5, ze9, rz, rz1, Int.zero_mul, len9, ix9, h, k1, k2, k4, k5, cv5_3, slFrom, bin_shl])); (try with_reducible rfl); (try rfl)) | refine And.intro (by simp [prs, envAt, envNil, pairsOk, indep, effSame, beqV, beqL, beqF, disj, T.get_set]; done) ?_))
  all_goals trace_state
theorem tt_eq (s : ByteArray) (m : Int) (h : 0 < s.size) (k : Int) (hk : ((s[0]!).toNat : Int) = k) :
    s10 [.string s, .int .i64 m] = some (if m < k then .tuple #[.string ⟨#[]⟩, .string s, .int .i64 15] else if ((s.extract 1 s.size).size : Int) < k then .tuple #[.string ⟨#[]⟩, .string s, .int .i64 11]
      else .tuple #[.string ((s.extract 1 s.size).extract 0 k.toNat), .string ((s.extract 1 s.size).extract k.toNat (s.extract 1 s.size).size), .int .i64 0]) := by
  have hk0 : 0 ≤ k := by omega
  have te := take_eq s h
  rw [hk] at te
  generalize s.extract 1 s.size = r at te ⊢
  by_cases h1 : m < k
  · rw [if_pos h1]
    (refine evS_w2 38 [ResultVar.tmp 4, ResultVar.tmp 5, ResultVar.tmp 6] rfl rfl rfl rfl ?_; unfold c10 Try.f10; simp only [Option.getD_some, List.length_cons, List.length_nil, List.replicate, List.cons_append, List.nil_append, Nat.reduceAdd, Nat.reduceSub])
    (repeat' (first | refine w_seq ?_ | refine w_region rfl ?_ | refine w_region_pairs _ rfl ?_ | (refine wr_cons ?_; simp only [Option.map_some, Option.map_none, List.getElem?_toArray, WStep, Region.wanted, yieldA, callOf, callee?, evOp, Opd, put, onward, caught, jumps, hasLabel, List.getD_cons_zero, List.getD_cons_succ, List.set_cons_zero, List.set_cons_succ, List.getElem?_cons_zero, List.getElem?_cons_succ, Option.bind_some, if_true, if_false, reduceIte, bindV_some, bindV_none, bindV_map, upds, evLoad, evStore, evBuiltin, rd, wr, wrList, oneCell, Value.cells, Option.isSome_none, Option.isNone_none, Bool.false_eq_true, Bool.not_true, Bool.not_false, Bool.or_self, Bool.or_false, Bool.false_or, Bool.and_true, Bool.true_and, Nat.zero_add, Nat.add_zero, List.length_cons, List.length_nil, Nat.reduceAdd, Nat.reduceLeDiff, Nat.reduceSub, Nat.reduceMul, Nat.reduceEqDiff, Nat.reduceLT, Nat.not_lt_zero, decide_false, decide_true, List.drop_succ_cons, List.drop_zero, List.drop_nil, List.take_succ_cons, List.take_zero, List.map_cons, List.map_nil, List.all_cons, List.all_nil, List.cons_append, List.nil_append, List.append_nil, nlt, Nat.lt_irrefl, Nat.add_assoc, T.get_set_self, T.get_set, Nat.add_left_cancel_iff, Nat.left_eq_add, Nat.add_eq_left, Nat.right_eq_add, Nat.reduceEqDiff, envNil, envAt, List.size_toArray, bin_add, bin_sub, bin_mul, bin_lss, bin_leq, bin_gtr, bin_geq, bin_eql, bin_neq, bin_and, bin_or, bin_xor, bin_andNot, bin_seql, bin_sneq, un_not, un_neg, min_int, max_int, bin_beql, bin_rem, bin_quo, conv_int, Int.reduceEq, Int.reduceLT, Int.reduceLE, Int.reduceAdd, Int.reduceMul, Int.reduceSub, Int.reduceNeg, ne_eq, not_false_eq_true, not_true_eq_false, beq_self_eq_true, Bool.false_and, Bool.and_false, Bool.true_or, Bool.or_true, Bool.true_beq, Bool.false_beq, scal_int, resR_tmp, resR_cell, resR_none, resR_two, resR_three, or_true, true_and, or_false, scal_bool, decide_eq_true_eq, decide_eq_false_iff_not, Try.underlying23, Try.underlying3, Try.underlying9, ag23, ag3, ag9, ip23, ip3, ip9, is23, is3, is9, sz23, sz3, sz9, ze23, ze3, ze9, call8b, te, len9, h1]) | (refine wr_nil ?_; (try simp only [onward, caught, jumps]); (try dsimp only)) | (refine w_skip ?_; (try simp only [onward, caught, jumps]); (try dsimp only)) | (refine w_ret ?_; (try simp only [onward, caught, jumps]); (try dsimp only)) | (refine w_exit ?_; (try simp only [onward, caught, jumps, reduceIte, Nat.reduceEqDiff]); (try dsimp only)) | (refine w_goto ?_; (try simp only [onward, caught, jumps, hasLabel, reduceIte, Nat.reduceEqDiff]); (try dsimp only)) | (refine w_label ?_; (try simp only [onward, caught, jumps]); (try dsimp only)) | (refine w_label_at ?_; (try simp only [onward, caught, jumps]); (try dsimp only)) | refine w_cond_t rfl rfl ?_ | refine w_cond_f rfl rfl ?_ | refine w_block ?_ | refine w_scope ?_ | refine w_loop ?_ | (refine wloop_round ?_; (try dsimp only)) | (refine whop_pass ?_; (try dsimp only)) | refine w_seq_at rfl ?_ | refine w_seq_past rfl ?_ | (refine And.intro (by first | exact Or.inr trivial | exact Or.inr rfl | exact Or.inl rfl | exact Or.inl trivial) ?_; (try (simp only [Option.map_some, Option.map_none, List.getElem?_toArray, WStep, Region.wanted, yieldA, callOf, callee?, evOp, Opd, put, onward, caught, jumps, hasLabel, List.getD_cons_zero, List.getD_cons_succ, List.set_cons_zero, List.set_cons_succ, List.getElem?_cons_zero, List.getElem?_cons_succ, Option.bind_some, if_true, if_false, reduceIte, bindV_some, bindV_none, bindV_map, upds, evLoad, evStore, evBuiltin, rd, wr, wrList, oneCell, Value.cells, Option.isSome_none, Option.isNone_none, Bool.false_eq_true, Bool.not_true, Bool.not_false, Bool.or_self, Bool.or_false, Bool.false_or, Bool.and_true, Bool.true_and, Nat.zero_add, Nat.add_zero, List.length_cons, List.length_nil, Nat.reduceAdd, Nat.reduceLeDiff, Nat.reduceSub, Nat.reduceMul, Nat.reduceEqDiff, Nat.reduceLT, Nat.not_lt_zero, decide_false, decide_true, List.drop_succ_cons, List.drop_zero, List.drop_nil, List.take_succ_cons, List.take_zero, List.map_cons, List.map_nil, List.all_cons, List.all_nil, List.cons_append, List.nil_append, List.append_nil, nlt, Nat.lt_irrefl, Nat.add_assoc, T.get_set_self, T.get_set, Nat.add_left_cancel_iff, Nat.left_eq_add, Nat.add_eq_left, Nat.right_eq_add, Nat.reduceEqDiff, envNil, envAt, List.size_toArray, bin_add, bin_sub, bin_mul, bin_lss, bin_leq, bin_gtr, bin_geq, bin_eql, bin_neq, bin_and, bin_or, bin_xor, bin_andNot, bin_seql, bin_sneq, un_not, un_neg, min_int, max_int, bin_beql, bin_rem, bin_quo, conv_int, Int.reduceEq, Int.reduceLT, Int.reduceLE, Int.reduceAdd, Int.reduceMul, Int.reduceSub, Int.reduceNeg, ne_eq, not_false_eq_true, not_true_eq_false, beq_self_eq_true, Bool.false_and, Bool.and_false, Bool.true_or, Bool.or_true, Bool.true_beq, Bool.false_beq, scal_int, resR_tmp, resR_cell, resR_none, resR_two, resR_three, or_true, true_and, or_false, scal_bool, decide_eq_true_eq, decide_eq_false_iff_not, Try.underlying23, Try.underlying3, Try.underlying9, ag23, ag3, ag9, ip23, ip3, ip9, is23, is3, is9, sz23, sz3, sz9, ze23, ze3, ze9, call8b, te, len9, h1])); (try with_reducible rfl); (try rfl)) | refine And.intro (by simp [prs, envAt, envNil, pairsOk, indep, effSame, beqV, beqL, beqF, disj, T.get_set]; done) ?_))
    all_goals trace_state
  · rw [if_neg h1]
    by_cases h2 : (r.size : Int) < k
    · rw [if_pos h2]
      (refine evS_w2 38 [ResultVar.tmp 4, ResultVar.tmp 5, ResultVar.tmp 6] rfl rfl rfl rfl ?_; unfold c10 Try.f10; simp only [Option.getD_some, List.length_cons, List.length_nil, List.replicate, List.cons_append, List.nil_append, Nat.reduceAdd, Nat.reduceSub])
      (repeat' (first | refine w_seq ?_ | refine w_region rfl ?_ | refine w_region_pairs _ rfl ?_ | (refine wr_cons ?_; simp only [Option.map_some, Option.map_none, List.getElem?_toArray, WStep, Region.wanted, yieldA, callOf, callee?, evOp, Opd, put, onward, caught, jumps, hasLabel, List.getD_cons_zero, List.getD_cons_succ, List.set_cons_zero, List.set_cons_succ, List.getElem?_cons_zero, List.getElem?_cons_succ, Option.bind_some, if_true, if_false, reduceIte, bindV_some, bindV_none, bindV_map, upds, evLoad, evStore, evBuiltin, rd, wr, wrList, oneCell, Value.cells, Option.isSome_none, Option.isNone_none, Bool.false_eq_true, Bool.not_true, Bool.not_false, Bool.or_self, Bool.or_false, Bool.false_or, Bool.and_true, Bool.true_and, Nat.zero_add, Nat.add_zero, List.length_cons, List.length_nil, Nat.reduceAdd, Nat.reduceLeDiff, Nat.reduceSub, Nat.reduceMul, Nat.reduceEqDiff, Nat.reduceLT, Nat.not_lt_zero, decide_false, decide_true, List.drop_succ_cons, List.drop_zero, List.drop_nil, List.take_succ_cons, List.take_zero, List.map_cons, List.map_nil, List.all_cons, List.all_nil, List.cons_append, List.nil_append, List.append_nil, nlt, Nat.lt_irrefl, Nat.add_assoc, T.get_set_self, T.get_set, Nat.add_left_cancel_iff, Nat.left_eq_add, Nat.add_eq_left, Nat.right_eq_add, Nat.reduceEqDiff, envNil, envAt, List.size_toArray, bin_add, bin_sub, bin_mul, bin_lss, bin_leq, bin_gtr, bin_geq, bin_eql, bin_neq, bin_and, bin_or, bin_xor, bin_andNot, bin_seql, bin_sneq, un_not, un_neg, min_int, max_int, bin_beql, bin_rem, bin_quo, conv_int, Int.reduceEq, Int.reduceLT, Int.reduceLE, Int.reduceAdd, Int.reduceMul, Int.reduceSub, Int.reduceNeg, ne_eq, not_false_eq_true, not_true_eq_false, beq_self_eq_true, Bool.false_and, Bool.and_false, Bool.true_or, Bool.or_true, Bool.true_beq, Bool.false_beq, scal_int, resR_tmp, resR_cell, resR_none, resR_two, resR_three, or_true, true_and, or_false, scal_bool, decide_eq_true_eq, decide_eq_false_iff_not, Try.underlying23, Try.underlying3, Try.underlying9, ag23, ag3, ag9, ip23, ip3, ip9, is23, is3, is9, sz23, sz3, sz9, ze23, ze3, ze9, call8b, te, len9, h1, h2]) | (refine wr_nil ?_; (try simp only [onward, caught, jumps]); (try dsimp only)) | (refine w_skip ?_; (try simp only [onward, caught, jumps]); (try dsimp only)) | (refine w_ret ?_; (try simp only [onward, caught, jumps]); (try dsimp only)) | (refine w_exit ?_; (try simp only [onward, caught, jumps, reduceIte, Nat.reduceEqDiff]); (try dsimp only)) | (refine w_goto ?_; (try simp only [onward, caught, jumps, hasLabel, reduceIte, Nat.reduceEqDiff]); (try dsimp only)) | (refine w_label ?_; (try simp only [onward, caught, jumps]); (try dsimp only)) | (refine w_label_at ?_; (try simp only [onward, caught, jumps]); (try dsimp only)) | refine w_cond_t rfl rfl ?_ | refine w_cond_f rfl rfl ?_ | refine w_block ?_ | refine w_scope ?_ | refine w_loop ?_ | (refine wloop_round ?_; (try dsimp only)) | (refine whop_pass ?_; (try dsimp only)) | refine w_seq_at rfl ?_ | refine w_seq_past rfl ?_ | (refine And.intro (by first | exact Or.inr trivial | exact Or.inr rfl | exact Or.inl rfl | exact Or.inl trivial) ?_; (try (simp only [Option.map_some, Option.map_none, List.getElem?_toArray, WStep, Region.wanted, yieldA, callOf, callee?, evOp, Opd, put, onward, caught, jumps, hasLabel, List.getD_cons_zero, List.getD_cons_succ, List.set_cons_zero, List.set_cons_succ, List.getElem?_cons_zero, List.getElem?_cons_succ, Option.bind_some, if_true, if_false, reduceIte, bindV_some, bindV_none, bindV_map, upds, evLoad, evStore, evBuiltin, rd, wr, wrList, oneCell, Value.cells, Option.isSome_none, Option.isNone_none, Bool.false_eq_true, Bool.not_true, Bool.not_false, Bool.or_self, Bool.or_false, Bool.false_or, Bool.and_true, Bool.true_and, Nat.zero_add, Nat.add_zero, List.length_cons, List.length_nil, Nat.reduceAdd, Nat.reduceLeDiff, Nat.reduceSub, Nat.reduceMul, Nat.reduceEqDiff, Nat.reduceLT, Nat.not_lt_zero, decide_false, decide_true, List.drop_succ_cons, List.drop_zero, List.drop_nil, List.take_succ_cons, List.take_zero, List.map_cons, List.map_nil, List.all_cons, List.all_nil, List.cons_append, List.nil_append, List.append_nil, nlt, Nat.lt_irrefl, Nat.add_assoc, T.get_set_self, T.get_set, Nat.add_left_cancel_iff, Nat.left_eq_add, Nat.add_eq_left, Nat.right_eq_add, Nat.reduceEqDiff, envNil, envAt, List.size_toArray, bin_add, bin_sub, bin_mul, bin_lss, bin_leq, bin_gtr, bin_geq, bin_eql, bin_neq, bin_and, bin_or, bin_xor, bin_andNot, bin_seql, bin_sneq, un_not, un_neg, min_int, max_int, bin_beql, bin_rem, bin_quo, conv_int, Int.reduceEq, Int.reduceLT, Int.reduceLE, Int.reduceAdd, Int.reduceMul, Int.reduceSub, Int.reduceNeg, ne_eq, not_false_eq_true, not_true_eq_false, beq_self_eq_true, Bool.false_and, Bool.and_false, Bool.true_or, Bool.or_true, Bool.true_beq, Bool.false_beq, scal_int, resR_tmp, resR_cell, resR_none, resR_two, resR_three, or_true, true_and, or_false, scal_bool, decide_eq_true_eq, decide_eq_false_iff_not, Try.underlying23, Try.underlying3, Try.underlying9, ag23, ag3, ag9, ip23, ip3, ip9, is23, is3, is9, sz23, sz3, sz9, ze23, ze3, ze9, call8b, te, len9, h1, h2])); (try with_reducible rfl); (try rfl)) | refine And.intro (by simp [prs, envAt, envNil, pairsOk, indep, effSame, beqV, beqL, beqF, disj, T.get_set]; done) ?_))
      all_goals trace_state
    · rw [if_neg h2]
      have h3 : k ≤ r.size := by omega
      (refine evS_w2 38 [ResultVar.tmp 4, ResultVar.tmp 5, ResultVar.tmp 6] rfl rfl rfl rfl ?_; unfold c10 Try.f10; simp only [Option.getD_some, List.length_cons, List.length_nil, List.replicate, List.cons_append, List.nil_append, Nat.reduceAdd, Nat.reduceSub])
      (repeat' (first | refine w_seq ?_ | refine w_region rfl ?_ | refine w_region_pairs _ rfl ?_ | (refine wr_cons ?_; simp only [Option.map_some, Option.map_none, List.getElem?_toArray, WStep, Region.wanted, yieldA, callOf, callee?, evOp, Opd, put, onward, caught, jumps, hasLabel, List.getD_cons_zero, List.getD_cons_succ, List.set_cons_zero, List.set_cons_succ, List.getElem?_cons_zero, List.getElem?_cons_succ, Option.bind_some, if_true, if_false, reduceIte, bindV_some, bindV_none, bindV_map, upds, evLoad, evStore, evBuiltin, rd, wr, wrList, oneCell, Value.cells, Option.isSome_none, Option.isNone_none, Bool.false_eq_true, Bool.not_true, Bool.not_false, Bool.or_self, Bool.or_false, Bool.false_or, Bool.and_true, Bool.true_and, Nat.zero_add, Nat.add_zero, List.length_cons, List.length_nil, Nat.reduceAdd, Nat.reduceLeDiff, Nat.reduceSub, Nat.reduceMul, Nat.reduceEqDiff, Nat.reduceLT, Nat.not_lt_zero, decide_false, decide_true, List.drop_succ_cons, List.drop_zero, List.drop_nil, List.take_succ_cons, List.take_zero, List.map_cons, List.map_nil, List.all_cons, List.all_nil, List.cons_append, List.nil_append, List.append_nil, nlt, Nat.lt_irrefl, Nat.add_assoc, T.get_set_self, T.get_set, Nat.add_left_cancel_iff, Nat.left_eq_add, Nat.add_eq_left, Nat.right_eq_add, Nat.reduceEqDiff, envNil, envAt, List.size_toArray, bin_add, bin_sub, bin_mul, bin_lss, bin_leq, bin_gtr, bin_geq, bin_eql, bin_neq, bin_and, bin_or, bin_xor, bin_andNot, bin_seql, bin_sneq, un_not, un_neg, min_int, max_int, bin_beql, bin_rem, bin_quo, conv_int, Int.reduceEq, Int.reduceLT, Int.reduceLE, Int.reduceAdd, Int.reduceMul, Int.reduceSub, Int.reduceNeg, ne_eq, not_false_eq_true, not_true_eq_false, beq_self_eq_true, Bool.false_and, Bool.and_false, Bool.true_or, Bool.or_true, Bool.true_beq, Bool.false_beq, scal_int, resR_tmp, resR_cell, resR_none, resR_two, resR_three, or_true, true_and, or_false, scal_bool, decide_eq_true_eq, decide_eq_false_iff_not, Try.underlying23, Try.underlying3, Try.underlying9, ag23, ag3, ag9, ip23, ip3, ip9, is23, is3, is9, sz23, sz3, sz9, ze23, ze3, ze9, call8b, te, len9, h1, h2, slTo, slFrom, hk0, h3]) | (refine wr_nil ?_; (try simp only [onward, caught, jumps]); (try dsimp only)) | (refine w_skip ?_; (try simp only [onward, caught, jumps]); (try dsimp only)) | (refine w_ret ?_; (try simp only [onward, caught, jumps]); (try dsimp only)) | (refine w_exit ?_; (try simp only [onward, caught, jumps, reduceIte, Nat.reduceEqDiff]); (try dsimp only)) | (refine w_goto ?_; (try simp only [onward, caught, jumps, hasLabel, reduceIte, Nat.reduceEqDiff]); (try dsimp only)) | (refine w_label ?_; (try simp only [onward, caught, jumps]); (try dsimp only)) | (refine w_label_at ?_; (try simp only [onward, caught, jumps]); (try dsimp only)) | refine w_cond_t rfl rfl ?_ | refine w_cond_f rfl rfl ?_ | refine w_block ?_ | refine w_scope ?_ | refine w_loop ?_ | (refine wloop_round ?_; (try dsimp only)) | (refine whop_pass ?_; (try dsimp only)) | refine w_seq_at rfl ?_ | refine w_seq_past rfl ?_ | (refine And.intro (by first | exact Or.inr trivial | exact Or.inr rfl | exact Or.inl rfl | exact Or.inl trivial) ?_; (try (simp only [Option.map_some, Option.map_none, List.getElem?_toArray, WStep, Region.wanted, yieldA, callOf, callee?, evOp, Opd, put, onward, caught, jumps, hasLabel, List.getD_cons_zero, List.getD_cons_succ, List.set_cons_zero, List.set_cons_succ, List.getElem?_cons_zero, List.getElem?_cons_succ, Option.bind_some, if_true, if_false, reduceIte, bindV_some, bindV_none, bindV_map, upds, evLoad, evStore, evBuiltin, rd, wr, wrList, oneCell, Value.cells, Option.isSome_none, Option.isNone_none, Bool.false_eq_true, Bool.not_true, Bool.not_false, Bool.or_self, Bool.or_false, Bool.false_or, Bool.and_true, Bool.true_and, Nat.zero_add, Nat.add_zero, List.length_cons, List.length_nil, Nat.reduceAdd, Nat.reduceLeDiff, Nat.reduceSub, Nat.reduceMul, Nat.reduceEqDiff, Nat.reduceLT, Nat.not_lt_zero, decide_false, decide_true, List.drop_succ_cons, List.drop_zero, List.drop_nil, List.take_succ_cons, List.take_zero, List.map_cons, List.map_nil, List.all_cons, List.all_nil, List.cons_append, List.nil_append, List.append_nil, nlt, Nat.lt_irrefl, Nat.add_assoc, T.get_set_self, T.get_set, Nat.add_left_cancel_iff, Nat.left_eq_add, Nat.add_eq_left, Nat.right_eq_add, Nat.reduceEqDiff, envNil, envAt, List.size_toArray, bin_add, bin_sub, bin_mul, bin_lss, bin_leq, bin_gtr, bin_geq, bin_eql, bin_neq, bin_and, bin_or, bin_xor, bin_andNot, bin_seql, bin_sneq, un_not, un_neg, min_int, max_int, bin_beql, bin_rem, bin_quo, conv_int, Int.reduceEq, Int.reduceLT, Int.reduceLE, Int.reduceAdd, Int.reduceMul, Int.reduceSub, Int.reduceNeg, ne_eq, not_false_eq_true, not_true_eq_false, beq_self_eq_true, Bool.false_and, Bool.and_false, Bool.true_or, Bool.or_true, Bool.true_beq, Bool.false_beq, scal_int, resR_tmp, resR_cell, resR_none, resR_two, resR_three, or_true, true_and, or_false, scal_bool, decide_eq_true_eq, decide_eq_false_iff_not, Try.underlying23, Try.underlying3, Try.underlying9, ag23, ag3, ag9, ip23, ip3, ip9, is23, is3, is9, sz23, sz3, sz9, ze23, ze3, ze9, call8b, te, len9, h1, h2, slTo, slFrom, hk0, h3])); (try with_reducible rfl); (try rfl)) | refine And.intro (by simp [prs, envAt, envNil, pairsOk, indep, effSame, beqV, beqL, beqF, disj, T.get_set]; done) ?_))
      all_goals trace_state
end Go.Proofs.Ytjdenkhiakmdkaa
