/- A part of the proof that MethodLimits holds of every input. -/
import Derived.Test.YtgapflalhgfgkaaP
import Derived.Test.YtgapflalhgfgkaaOpen
namespace Go.Proofs.Ytgapflalhgfgkaa
open Go.Ab Go.RowKit
set_option linter.all false
set_option maxRecDepth 10000
set_option maxHeartbeats 8000000
theorem len_of {n : Nat} {α : Type} {F : Nat → α} : ((List.range n).map F).length = n := by simp
theorem e00 : eqM (⟨0, [], [], 0⟩ : Mt) ⟨0, [], [], 0⟩ = true := eqM_iff.2 rfl
theorem eqRR (m : Mt) : eqM m m = true := eqM_iff.2 rfl
attribute [local irreducible] O RO ROC ROCW W WR WLoop WHop WCall bindV evFunT OFun OFin OCond OReg OBack OBackP onward caught jumps BackK BackP RSV
/-- Rows of methods that came in. -/
theorem o_inM {w : World} {G : St → Prop} {L : List Res} (x : InM w)
    (h : ∀ m : Mt, m.k = x.k → m.b = x.bi → m.ss.length = x.n → m.ns.length = x.n2 → m.ss.length ≤ 9223372036854775807 → m.ns.length ≤ 9223372036854775807 → x.val = .agg #[.int .i64 m.k, .slice x.a m.ss.length x.c, .slice x.a2 m.ns.length x.c2, .int .i64 m.b] →
      O (envAt Try.prog prs w) (.row 2 (.slice x.a m.ss.length x.c) m.ss.length (flat strC m.ss) 9 1 :: .row 2 (.slice x.a2 m.ns.length x.c2) m.ns.length (flat intC m.ns) 3 1 :: L) G) : O (envAt Try.prog prs w) L G := by
  refine o_in (C := fun j => intC (x.G j)) (cap := x.c2) 3 x.ha2 (fun j hj => x.rd2 j hj _ _) ?_
  refine o_in (C := fun j => strC (x.F j)) (cap := x.c) 9 x.ha (fun j hj => x.rd j hj _ _) ?_
  rw [flat_range (f := intC), flat_range (f := strC)]
  have l1 : ((List.range x.n).map x.F).length = x.n := len_of
  have l2 : ((List.range x.n2).map x.G).length = x.n2 := len_of
  have b1 := x.nc
  have b2 := x.nc2
  have b3 := x.mx
  have b4 := x.mx2
  unfold maxLen at b3 b4
  have hh := h ⟨x.k, (List.range x.n).map x.F, (List.range x.n2).map x.G, x.bi⟩ rfl rfl l1 l2 (by simp only; omega) (by simp only; omega) (by unfold InM.val; simp only; rw [l1, l2])
  simp only at hh
  rw [l1, l2] at hh
  exact O.ent (by (repeat (first | apply Ent.refl | apply Ent.nil | apply Ent.cons (by (repeat (first | apply Sel.head | apply Sel.tail)); first | done | fail) | apply Ent.skip)); first | done | fail) hh
theorem argM {w : World} (x : InM w) : oldV w.heap.size x.val = true ∨ scalar x.val = true ∨ ∃ cs : Array Value, x.val = .agg cs ∧ ∀ c ∈ cs.toList, oldV w.heap.size c = true :=
  .inr (.inr ⟨_, rfl, fun c hc => by
    simp only [List.mem_cons, List.not_mem_nil, or_false] at hc
    rcases hc with rfl | rfl | rfl | rfl
    · rfl
    · exact x.old
    · exact x.old2
    · rfl⟩)
theorem rd_len {s : ByteArray} {m : Mt} (h : rdM s = .inr m) : m.ss.length ≤ 9223372036854775807 ∧ m.ns.length ≤ 9223372036854775807 := by
  obtain ⟨h1, _⟩ := rdM_back h
  have h2 := h1.t
  have h3 := h1.n
  have h4 := sh_bd m.k
  omega
/-- Bytes of one's own made a string, over what is owned. -/
theorem ev_convBSO {E : Env} {L R : List Res} {fr : List Value} {nid : Nat} {σ : St} {o : Oper} {P : Program} {s d e : TypeId} {x : Operand} {b off n m : Nat} {c : List Value} {el : TypeId} {ex : Bool} {bs : ByteArray} (ho : Own E σ L)
    (hop : o.op = .convert s d x) (hP : E.P = P) (hs : P.underlying s = some (.slice e)) (hd : P.underlying d = some .string) (he : P.underlying e = some (.int .u8)) (hx : Opd fr x = .slice (some ⟨b, off, none⟩) n m) (hq : Sel L (.blk b c el ex) R)
    (hle : off + n ≤ c.length) (hl : bytesOf? ((c.drop off).take n) = some bs) : evOp E (Opd fr) nid σ.heap.get o = some ⟨.string bs, [], [b]⟩ :=
  ev_convBS hop hP hs hd he hx (ho.get hq).1 (ho.get hq).2 hle hl
end Go.Proofs.Ytgapflalhgfgkaa
