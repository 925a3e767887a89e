/- A part of the proof that OutboxOrder holds of every input. -/
import Derived.Test.YtpcbfbjoiknbhaaSnd
namespace Go.Proofs.Ytpcbfbjoiknbhaa
open Go.Ab Go.RowKit
set_option linter.all false
set_option maxRecDepth 10000
set_option maxHeartbeats 2000000
theorem rel_freeze {E : Env} {w0 w : World} {μ : Mu} {σ : St} (hr : Rel E w0 μ σ w) {gb : Nat} {cs : List Value} {el : TypeId} (hb : σ.heap.get gb = some (.froz cs el)) {p : Pl} (hp : μ gb = some p) (hn : 0 < cs.length) : Rel E w0 μ σ (w.freeze ⟨p.c, 0, none⟩ cs.length) := by
  obtain ⟨p', hp', h1, h2, h3, C, fz, h4, h5, ⟨h60, h6⟩, h7, h8, h9, h10⟩ := hr.blk _ _ hb
  rw [hp] at hp'; cases hp'
  have hlt : p.c < w.heap.size := (hr.new _ _ hp).2
  have hfz : ∃ fz', fz'.2 ≤ p.n ∧ (w.freeze ⟨p.c, 0, none⟩ cs.length).heap[p.c]? = some (.cells C el fz') := by
    obtain ⟨lo, hi⟩ := fz
    simp only at h7
    refine ⟨if lo == hi then (0, 0 + cs.length) else (min lo 0, max hi (0 + cs.length)), ?_, ?_⟩
    · split <;> simp only <;> omega
    · unfold World.freeze
      rw [if_neg (by omega)]
      simp [Array.getElem?_modify, h4]
  obtain ⟨fz', q1, q2⟩ := hfz
  have hs := hr.setB (b := .froz cs el) hb hp (w.freeze ⟨p.c, 0, none⟩ cs.length) (by unfold World.freeze; rw [if_neg (by omega)]; simp) (fun k hk => by unfold World.freeze; rw [if_neg (by omega)]; simp only [Array.getElem?_modify]; rw [if_neg (by omega)]) (by unfold World.freeze; rw [if_neg (by omega)]) (by unfold World.freeze; rw [if_neg (by omega)]) (by unfold World.freeze; rw [if_neg (by omega)])
    ⟨h1, h2, h3, C, fz', q2, h5, ⟨h60, h6⟩, q1, h8, h9, h10⟩
  refine rel_congr hs rfl fun k => ?_
  simp only
  by_cases hk : k = gb
  · subst hk; rw [T.get_set_self]; exact hb
  · rw [T.get_set_ne _ _ _ _ hk]
theorem sStr_sound {E : Env} (hP : E.P = Try.prog) : FnSound E 18 sStr := by
  intro w0 args σ v σ' h
  obtain ⟨rfl, a, q, u, x, y, rfl, hg, c1, c2, hh⟩ := sStr_inv h
  clear h
  refine .inl ⟨by rw [hP]; exact fn18, Nat.le_refl _, fun μ w args' hr hl => ?_⟩
  obtain ⟨x0, hargs, hx⟩ := hl.one
  obtain rfl := arr1 hargs
  obtain ⟨p, C, fz, v0, v1, hp, hst, h4, hC, hfz, g0, g1, r0, r1⟩ := obj_of hP hr hg
  obtain ⟨c, rfl, hc⟩ := hx.inv_pointer
  have hd := hr.dom _ _ hp
  obtain ⟨_, z1, z2 | ⟨_, p', hp', z2, z3⟩⟩ := hc
  · omega
  rw [hp] at hp'; cases hp'
  have hcc : c = ⟨p.c, 0, none⟩ := by cases c; simp at z1 z2 z3; simp [z1, z2, z3, c1, hst]
  subst hcc
  rw [hP]
  have h4d : w.drew.heap[p.c]? = some (.cells C 44 fz) := h4
  rcases hh with ⟨rfl, rfl⟩ | ⟨g, n, s, rfl, hg2, d1, d2, d3, d4, rfl⟩
  · have := r1.flat_eq rfl
    subst this
    refine (st_any p.c w w.drew none none 0 0 .empty (by rw [cell_at h4d]; exact g1) (Lib.run_unsafeSliceData_nil w.drew _ _ _ _) (Lib.run_unsafeString_none w.drew _ _ _ _)).mono ?_
    rintro e w' ⟨rfl, rfl⟩
    exact ⟨_, μ, rfl, .flat _ rfl, hr.drew, fun _ _ => rfl⟩
  · obtain ⟨cg, ck, rfl, hsr⟩ := r1.inv_slice
    obtain ⟨pg, hpg, h1, h2, h3, Cg, fzg, k4, k5, ⟨k60, k6⟩, k7, k8, k9, k10⟩ := hr.blk _ _ hg2
    have hdg := hr.dom _ _ hpg
    have hbl : (bytesR s).length = s.size := bytesR_len s
    rcases hsr with ⟨z, _⟩ | ⟨⟨r1', r2, r3⟩, hcap⟩
    · omega
    rcases r3 with ⟨z, _⟩ | ⟨_, p', hp', r3, r4⟩
    · omega
    rw [hpg] at hp'; cases hp'
    have hc : cg = ⟨pg.c, 0, none⟩ := by
      cases cg; simp at r2 r3 r4; simp [r2, r3, r4, d1, k60]
    subst hc
    have hck : ck ≠ 0 := by
      rcases hcap with rfl | ⟨_, g1, _⟩ <;> omega
    have k4d : w.drew.heap[pg.c]? = some (.cells Cg 5 fzg) := k4
    have hll : s.data.toList.length = n := by rw [← d2]; rfl
    have hUS := Lib.run_unsafeString_row (P := Try.prog) w.drew 49 3 9 5 Try.underlying49 cb5 pg.c Cg.size (by simp [World.shape?, k4d]) s.data.toList (by intro e; rw [e] at hll; simp at hll; omega) (by omega) (by omega) (fun j x hx => by
      rw [add_off _ _ rfl]
      simp only [World.cell?, k4d, Nat.zero_add, Option.isSome_none, Bool.false_eq_true, if_false]
      obtain ⟨v', q1, q2⟩ := k8 j (.int .u8 x.toNat) (by simp [bytesR]; exact ⟨x, by simpa using hx, rfl⟩)
      rw [q2.flat_eq rfl, k60, Nat.zero_add] at q1
      exact q1)
    rw [hll] at hUS
    refine (st_any p.c w _ (some ⟨pg.c, 0, none⟩) (some ⟨pg.c, 0, none⟩) n ck _ (by rw [cell_at h4d]; exact g1) (Lib.run_unsafeSliceData_row w.drew _ _ _ _ _ hck) hUS).mono ?_
    rintro e w' ⟨rfl, rfl⟩
    have hF := rel_freeze hr.drew hg2 hpg (by omega)
    rw [hbl, d2] at hF
    exact ⟨_, μ, rfl, .flat _ rfl, hF, fun _ _ => rfl⟩
end Go.Proofs.Ytpcbfbjoiknbhaa
