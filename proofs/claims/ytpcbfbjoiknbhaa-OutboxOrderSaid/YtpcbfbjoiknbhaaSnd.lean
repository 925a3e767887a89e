/- A part of the proof that OutboxOrder holds of every input. -/
import Derived.Test.YtpcbfbjoiknbhaaEnt
namespace Go.Proofs.Ytpcbfbjoiknbhaa
open Go.Ab Go.RowKit
set_option linter.all false
set_option maxRecDepth 10000
set_option maxHeartbeats 2000000
theorem u44 : Try.prog.underlying 44 ≠ some (.int .u8) := by
  rw [Try.underlying44]; intro h; cases h
theorem cb5 : Try.prog.cellsOf 5 = 1 := by kernel_rfl
section
variable {E : Env} {w0 w : World} {μ : Mu} {σ : St} {nid : Nat}
theorem rel_cell (hr : Rel E w0 μ σ w) {ab : Nat} {c : List Value} {e : TypeId} {x : Bool} (hb : σ.heap.get ab = some (.cells c e x)) {p : Pl} (hp : μ ab = some p) {i : Nat} (hi : i < c.length) {v v' : Value} (hv : VRel E.old μ v v') :
    Rel E w0 μ ⟨σ.heap.set ab (some (.cells (c.set i v) e x)), σ.next⟩ (w.setCell ⟨p.c, p.st + i, none⟩ v') := by
  obtain ⟨p', hp', h1, h2, h3, C, fz, h4, h5, h6, h7, h8, h9, h10⟩ := hr.blk _ _ hb
  rw [hp] at hp'; cases hp'
  rw [setCell_eq_setRow w p.c (p.st + i) C e fz v' h4]
  refine hr.setB hb hp _ (by simp [World.setRow]) (fun k hk => setRow_other w p.c k _ hk) rfl rfl rfl ?_
  refine ⟨by rw [List.length_set]; exact h1, h2, h3, C.setIfInBounds (p.st + i) v', fz, setRow_heap w p.c C _ e fz h4, by simpa using h5, by simpa using h6, by simpa using h7, by simpa using h8, fun j u hj => ?_, fun j u hx hj hu => ?_, h10.2⟩
  · rw [List.getElem?_set] at hj
    split at hj
    · rename_i hij
      subst hij
      cases hj
      exact ⟨v', by rw [Array.getElem?_setIfInBounds_self_of_lt (by omega)], hv⟩
    · rename_i hij
      obtain ⟨u', q1, q2⟩ := h9 j u hj
      exact ⟨u', by rw [Array.getElem?_setIfInBounds_ne (by omega)]; exact q1, q2⟩
  · rw [Array.getElem?_setIfInBounds_ne (by omega)] at hu
    exact h10.1 j u hx hj hu
/-- An object of four cells, the builder at its head. -/
theorem obj_of (hP : E.P = Try.prog) (hr : Rel E w0 μ σ w) {ab : Nat} {c0 c1 c2 c3 : Value} (hb : σ.heap.get ab = some (.cells [c0, c1, c2, c3] 44 true)) : ∃ (p : Pl) (C : Array Value) (fz : Nat × Nat) (v0 v1 : Value), μ ab = some p ∧ p.st = 0 ∧ w.heap[p.c]? = some (.cells C 44 fz) ∧ C.size = 4 ∧ fz.2 ≤ fz.1 ∧ C[0]? = some v0 ∧ C[1]? = some v1 ∧ VRel E.old μ c0 v0 ∧ VRel E.old μ c1 v1 := by
  obtain ⟨p, hp, h1, h2, h3, C, fz, h4, h5, h6, h7, h8, h9, h10⟩ := hr.blk _ _ hb
  have h71 := h7 rfl
  simp at h1
  have hst : p.st = 0 := by omega
  obtain ⟨v0, a1, a2⟩ := h9 0 c0 rfl
  obtain ⟨v1, b1, b2⟩ := h9 1 c1 rfl
  rw [hst] at a1 b1
  exact ⟨p, C, fz, v0, v1, hp, hst, h4, by omega, h10.2 (by rw [hP]; exact u44), a1, b1, a2, b2⟩
theorem unfrozen {p : Pl} {C : Array Value} {fz : Nat × Nat} {e : TypeId} (h4 : w.heap[p.c]? = some (.cells C e fz)) (hfz : fz.2 ≤ fz.1) (i : Nat) : w.frozen? ⟨p.c, i, none⟩ = false := by
  obtain ⟨lo, hi⟩ := fz
  simp only at hfz
  simp only [World.frozen?, h4, Bool.and_eq_false_iff, decide_eq_false_iff_not]
  omega
theorem cell_at {p : Pl} {C : Array Value} {fz : Nat × Nat} {e : TypeId} (h4 : w.heap[p.c]? = some (.cells C e fz)) (i : Nat) : w.cell? ⟨p.c, i, none⟩ = C[i]? := by
  simp [World.cell?, h4]
/-- copyCheck. -/
theorem cc_sound (hP : E.P = Try.prog) (hr : Rel E w0 μ σ w) {a : Addr} (ha0 : a.off = 0) (has : a.spot = none) {q : Option Addr} {u x y : Value} (hb : σ.heap.get a.block = some (.cells [.pointer q, u, x, y] 44 true)) (hq : q = none ∨ q = some a) {p : Pl} (hp : μ a.block = some p) :
    ∃ w1, (Calls Try.prog 20 #[.pointer (some ⟨p.c, 0, none⟩)] w fun e w' => e = .returned (.tuple #[]) ∧ w' = w1) ∧ Rel E w0 μ ⟨σ.heap.set a.block (some (.cells [.pointer (some a), u, x, y] 44 true)), σ.next⟩ w1 := by
  obtain ⟨p', C, fz, v0, v1, hp', hst, h4, hC, hfz, g0, g1, r0, r1⟩ := obj_of hP hr hb
  rw [hp] at hp'; cases hp'
  have hd := hr.dom _ _ hp
  have hva : VRel E.old μ (.pointer (some a)) (.pointer (some ⟨p.c, 0, none⟩)) := .pointer _ _ ⟨has, rfl, .inr ⟨hd.2, p, hp, rfl, by simp only; omega⟩⟩
  rcases hq with rfl | rfl
  · have := r0.flat_eq rfl
    subst this
    refine ⟨_, cc_fresh p.c w (by rw [cell_at h4]; exact g0) (by simp [World.shape?, h4, hC]) (unfrozen h4 hfz 0), ?_⟩
    have := rel_cell hr hb hp (i := 0) (by simp) hva
    rw [hst] at this
    exact this
  · obtain ⟨c, rfl, hc⟩ := r0.inv_pointer
    obtain ⟨_, z1, z2 | ⟨_, p', hp', z2, z3⟩⟩ := hc
    · omega
    rw [hp] at hp'; cases hp'
    have hcc : c = ⟨p.c, 0, none⟩ := by cases c; simp at z1 z2 z3; simp [z1, z2, z3, ha0, hst]
    subst hcc
    refine ⟨w, cc_used p.c w (by rw [cell_at h4]; exact g0), ?_⟩
    refine rel_congr hr rfl fun k => ?_
    simp only
    by_cases hk : k = a.block
    · subst hk; rw [T.get_set_self]; exact hb.symm
    · rw [T.get_set_ne _ _ _ _ hk]
theorem wr_finish (hP : E.P = Try.prog) {w1 w2 : World} {a : Addr} (has : a.spot = none) {p : Pl} (hst : p.st = 0) {h2 : T} {nx : Nat} {μ' : Mu} (hrB : Rel E w0 μ' ⟨h2, nx⟩ w2) {u x y : Value} (hb2 : h2.get a.block = some (.cells [.pointer (some a), u, x, y] 44 true)) (hp : μ' a.block = some p) {s : ByteArray}
    (hcc : Calls Try.prog 20 #[.pointer (some ⟨p.c, 0, none⟩)] w fun e w' => e = .returned (.tuple #[]) ∧ w' = w1) {u1 : Value} (c1 : w1.cell? ⟨p.c, 1, none⟩ = some u1) {g' : Addr} {n cap n0 : Nat} {nid : Nat}
    (hrun : (Builtin.append_ #[37, 9] 37 #[u1, .string s]).run Try.prog w1 = .ok (.slice (some g') n cap) w2) (hv : VRel E.old μ' (.slice (some ⟨nid, 0, none⟩) n n) (.slice (some g') n cap)) :
    Calls Try.prog 19 #[.pointer (some ⟨p.c, 0, none⟩), .string s] w fun e w' => e = .returned (.tuple #[.int .i64 s.size, .nilIface]) ∧ Rel E w0 μ' ⟨h2.set a.block (some (.cells [.pointer (some a), .slice (some ⟨nid, 0, none⟩) n n, x, y] 44 true)), nx⟩ w' := by
  obtain ⟨p', C, fz, v0, v1, hp', _, h4, hC, hfz, g0, g1, r0, r1⟩ := obj_of hP hrB hb2
  rw [hp] at hp'; cases hp'
  refine (ws_any p.c w w1 w2 u1 s (some g') n cap v1 hcc c1 hrun (by rw [cell_at h4]; exact g1) (unfrozen h4 hfz 1)).mono ?_
  rintro e w' ⟨rfl, rfl⟩
  refine ⟨rfl, ?_⟩
  have := rel_cell hrB hb2 hp (i := 1) (by simp) hv
  rw [hst] at this
  exact this
end
theorem fn19 : ∃ fn, Try.prog.funcs[19]? = some fn ∧ fn.body.isSome = true ∧ fn.name ≠ "runtime.NumGoroutine" := ⟨_, Try.func19, rfl, by decide⟩
theorem fn18 : ∃ fn, Try.prog.funcs[18]? = some fn ∧ fn.body.isSome = true ∧ fn.name ≠ "runtime.NumGoroutine" := ⟨_, Try.func18, rfl, by decide⟩
theorem sWr_sound {E : Env} (hP : E.P = Try.prog) : FnSound E 19 sWr := by
  intro w0 args σ v σ' h
  obtain ⟨a, s, q, u, x, y, rfl, hg, c1, c2, c3, c4, c5, rfl, hh⟩ := sWr_inv h
  clear h
  refine .inl ⟨by rw [hP]; exact fn19, ?_, fun μ w args' hr hl => ?_⟩
  · rcases hh with ⟨_, rfl⟩ | ⟨g, k, cs, rfl, hg2, d1, d2, d3, d4, d5, rfl⟩ <;> simp [wrNil, wrSome]
  obtain ⟨x0, y0, hargs, hx, hy⟩ := hl.two
  obtain rfl := arr2 hargs
  have := hy.flat_eq rfl
  subst this
  obtain ⟨p, C, fz, v0, v1, hp, hst, h4, hC, hfz, g0, g1, r0, r1⟩ := obj_of hP hr hg
  obtain ⟨c, rfl, hc⟩ := hx.inv_pointer
  have hd := hr.dom _ _ hp
  obtain ⟨_, z1, z2 | ⟨_, p', hp', z2, z3⟩⟩ := hc
  · omega
  rw [hp] at hp'; cases hp'
  have hcc : c = ⟨p.c, 0, none⟩ := by cases c; simp at z1 z2 z3; simp [z1, z2, z3, c1, hst]
  subst hcc
  obtain ⟨w1, hC1, hrA⟩ := cc_sound hP hr c1 c2 hg c5 hp
  have hbA : (σ.heap.set a.block (some (.cells [.pointer (some a), u, x, y] 44 true))).get a.block = some (.cells [.pointer (some a), u, x, y] 44 true) := T.get_set_self _ _ _
  obtain ⟨p', C1, fz1, v01, v11, hp', _, h41, hC11, hfz1, g01, g11, r01, r11⟩ := obj_of (c0 := .pointer (some a)) (c1 := u) (c2 := x) (c3 := y) hP hrA hbA
  rw [hp] at hp'; cases hp'
  have hrA1 := rel_bump hrA 1
  have hmn : μ σ.next = none := by
    cases hm : μ σ.next with
    | none => rfl
    | some q => have := (hr.dom _ _ hm).1; omega
  have han : a.block ≠ σ.next := by omega
  have ho := hr.old_next
  rw [hP]
  rcases hh with ⟨rfl, rfl⟩ | ⟨g, k, cs, rfl, hg2, d1, d2, d3, d4, d5, rfl⟩
  · have := r11.flat_eq rfl
    subst this
    obtain ⟨g', cap', w2, μ', hrun, hvB, hrB, hag⟩ := app_nil (nid := σ.next) hP hrA1 ho (by simp) hmn s c3 c4
    have hpB : μ' a.block = some p := by rw [hag _ han]; exact hp
    refine (wr_finish hP c2 hst hrB (x := x) (y := y) (by rw [T.get_set_ne _ _ _ _ han]; exact hbA) hpB hC1 (by rw [cell_at h41]; exact g11) (n0 := 0) hrun hvB).mono ?_
    rintro e w' ⟨rfl, hR⟩
    exact ⟨_, μ', rfl, .of_plain rfl, hR, fun j hj => hag j (by omega)⟩
  · have hga : g.block ≠ a.block := by intro e; rw [e] at hg2; rw [hg2] at hg; cases hg
    have hgn : g.block ≠ σ.next := by
      obtain ⟨pg, hpg, _⟩ := hr.blk _ _ hg2
      have := (hr.dom _ _ hpg).1
      omega
    obtain ⟨g', cap', w2, μ', hrun, hvB, hrB, hag⟩ := app_some (nid := σ.next) hP hrA1 ho (by simp) hmn s c3 (g := g) (n := k) (cs := cs) d1 (by simp only; rw [T.get_set_ne _ _ _ _ hga]; exact hg2) d5 d2 d3 d4 r11
    have hpB : μ' a.block = some p := by rw [hag _ han]; exact hp
    refine (wr_finish hP c2 hst hrB (x := x) (y := y) (by rw [T.get_set_ne _ _ _ _ han, T.get_set_ne _ _ _ _ (Ne.symm hga)]; exact hbA) hpB hC1 (by rw [cell_at h41]; exact g11) (n0 := 0) hrun hvB).mono ?_
    rintro e w' ⟨rfl, hR⟩
    exact ⟨_, μ', rfl, .of_plain rfl, hR, fun j hj => hag j (by omega)⟩
end Go.Proofs.Ytpcbfbjoiknbhaa
