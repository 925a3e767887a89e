/- A part of the proof that OutboxOrder holds of every input. -/
import Derived.Test.YtpcbfbjoiknbhaaB
namespace Go.Proofs.Ytpcbfbjoiknbhaa
open Go.Ab Go.RowKit
set_option linter.all false
set_option maxRecDepth 10000
set_option maxHeartbeats 2000000
/-- The first pieces made others, one of them new. -/
theorem Own.remake {E : Env} {σ : St} {A A' L : List Res} {h' : T} (h : Own E σ (A ++ L)) (hn : (idsL A').Nodup) (hs : ∀ b ∈ idsL A', b ∈ idsL A ∨ b = σ.next) (hok : ∀ r ∈ A', r.ok E h'.get) (hf : ∀ b, b ∉ idsL A → b ≠ σ.next → h'.get b = σ.heap.get b) : Own E ⟨h', σ.next + 1⟩ (A' ++ L) := by
  have hd := h.nodup
  rw [idsL_append, List.nodup_append] at hd
  have hlt := h.lt
  rw [idsL_append] at hlt
  have hb := h.base
  refine ⟨by simp only; omega, ?_, ?_, ?_⟩
  · rw [idsL_append, List.nodup_append]
    refine ⟨hn, hd.2.1, fun a ha b hb => ?_⟩
    rcases hs a ha with ha | rfl
    · exact hd.2.2 a ha b hb
    · have := (hlt b (List.mem_append.2 (.inr hb))).2; omega
  · rw [idsL_append]
    intro b hb
    simp only
    rcases List.mem_append.1 hb with hb | hb
    · rcases hs b hb with hb | rfl
      · have := hlt b (List.mem_append.2 (.inl hb)); omega
      · omega
    · have := hlt b (List.mem_append.2 (.inr hb)); omega
  · intro r hr
    rcases List.mem_append.1 hr with hr | hr
    · exact hok r hr
    · refine Res.ok_congr (fun b hb => ?_) (h.ok r (by simp [hr]))
      refine hf b (fun hA => ?_) ?_
      · exact hd.2.2 b hA b (List.mem_flatMap.2 ⟨r, hr, hb⟩) rfl
      · have := (hlt b (List.mem_append.2 (.inr (List.mem_flatMap.2 ⟨r, hr, hb⟩)))).2; omega
/-- What went: nothing yet, or a block of bytes. -/
def bufV (G : ByteArray) (k : Nat) : Value := if G.size = 0 then .slice none 0 0 else .slice (some ⟨k, 0, none⟩) G.size G.size
def bufR (G : ByteArray) (k : Nat) : Res := if G.size = 0 then .many [] else .obj k (.froz (bytesR G) 5)
theorem size0 {G : ByteArray} (h : G.size = 0) : G = .empty := by
  apply ByteArray.ext; exact Array.eq_empty_of_size_eq_zero h
section
variable {E : Env} {d K0 : Nat} {Q : Value → St → Prop} {L R R1 : List Res} {q k : Nat} {G : ByteArray} {ad : Option Addr} {x y : Value}
/-- String. -/
theorem c18 (h1 : Sel L (.blk q [.pointer ad, bufV G k, x, y] 44 true) R) (h2 : Sel R (bufR G k) R1) (hG : G.size ≤ 1000000000) (K : O E (.blk q [.pointer ad, bufV G k, x, y] 44 true :: bufR G k :: R1) (Q (.string G))) :
    O E L fun σ => WCall (evFunT E T6 K0 d) 18 [.pointer (some ⟨q, 0, none⟩)] σ Q := by
  intro σ ho
  have ho2 : Own E σ (.blk q [.pointer ad, bufV G k, x, y] 44 true :: bufR G k :: R1) := ho.perm (h1.perm.trans (h2.perm.cons _))
  rw [stCall]
  by_cases hG0 : G.size = 0
  · have hg := ho2.get .head
    simp only [bufV, hG0, if_true] at hg
    have := sStr_nil (a := ⟨q, 0, none⟩) (σ := σ) hg.2 rfl rfl
    rw [this, ← size0 hG0]
    exact ⟨_, rfl, K σ ho2⟩
  · have hg := ho2.get .head
    have hg2 : σ.heap.get k = some (.froz (bytesR G) 5) := by
      have h3 := ho2.ok (bufR G k) (by simp)
      simp only [bufR, hG0, if_false, Res.ok] at h3
      exact h3
    simp only [bufV, hG0, if_false] at hg
    have := sStr_some (a := ⟨q, 0, none⟩) (σ := σ) (s := G) hg.2 rfl rfl hg2 rfl rfl (by omega) hG
    rw [this]
    exact ⟨_, rfl, K σ ho2⟩
/-- WriteString. -/
theorem c19 (h1 : Sel L (.blk q [.pointer ad, bufV G k, x, y] 44 true) R) (h2 : Sel R (bufR G k) R1) (had : ad = none ∨ ad = some ⟨q, 0, none⟩) (s : ByteArray) (hs : 0 < s.size) (hG : G.size + s.size ≤ 1000000000) (K : ∀ k', O E (.blk q [.pointer (some ⟨q, 0, none⟩), bufV (G ++ s) k', x, y] 44 true :: bufR (G ++ s) k' :: R1) (Q (.tuple #[.int .i64 s.size, .nilIface]))) :
    O E L fun σ => WCall (evFunT E T6 K0 d) 19 [.pointer (some ⟨q, 0, none⟩), .string s] σ Q := by
  intro σ ho
  have ho2 : Own E σ (.blk q [.pointer ad, bufV G k, x, y] 44 true :: bufR G k :: R1) := ho.perm (h1.perm.trans (h2.perm.cons _))
  rw [wrCall]
  have hg := ho2.get .head
  have hqn : q < σ.next := (ho2.lt q (by simp [idsL, Res.ids])).2
  have hsz : (G ++ s).size = G.size + s.size := ByteArray.size_append ..
  have hGs : ¬ (G ++ s).size = 0 := by omega
  have hGs2 : ¬ s.size = 0 := by omega
  have hGs3 : ¬ G.size + s.size = 0 := by omega
  by_cases hG0 : G.size = 0
  · simp only [bufV, hG0, if_true] at hg
    have := sWr_nil (a := ⟨q, 0, none⟩) (σ := σ) (s := s) hg.2 rfl rfl hs (by omega) had
    rw [this]
    have hGe := size0 hG0
    refine ⟨_, rfl, K σ.next _ ?_⟩
    have e1 : G ++ s = s := by rw [hGe]; simp
    simp only [bufV, bufR, hGs, hGs2, if_false, e1]
    unfold wrNil
    have hb0 : bufR G k = .many [] := by simp only [bufR, hG0, if_true]
    rw [hb0] at ho2
    refine Own.remake (A := [.blk q [.pointer ad, bufV G k, x, y] 44 true, .many []]) (A' := [.blk q [.pointer (some ⟨q, 0, none⟩), .slice (some ⟨σ.next, 0, none⟩) s.size s.size, x, y] 44 true, .obj σ.next (.froz (bytesR s) 5)]) (L := R1) ho2 ?_ ?_ ?_ ?_
    · simp [idsL, Res.ids]; omega
    · simp [idsL, Res.ids]
    · intro r hr
      simp only [List.mem_cons, List.not_mem_nil, or_false] at hr
      rcases hr with rfl | rfl
      · simp only [Res.ok]; exact T.get_set_self _ _ _
      · simp only [Res.ok]; rw [T.get_set_ne _ _ _ _ (by first | omega | (simp only; omega)), T.get_set_self]
    · intro b hb hbn
      simp [idsL, Res.ids] at hb
      rw [T.get_set_ne _ _ _ _ hb, T.get_set_ne _ _ _ _ hbn, T.get_set_ne _ _ _ _ hb]
  · have hg2 : σ.heap.get k = some (.froz (bytesR G) 5) := by
      have h3 := ho2.ok (bufR G k) (by simp)
      simp only [bufR, hG0, if_false, Res.ok] at h3
      exact h3
    simp only [bufV, hG0, if_false] at hg
    have := sWr_some (a := ⟨q, 0, none⟩) (g := ⟨k, 0, none⟩) (σ := σ) (s := s) (cs := bytesR G) hg.2 rfl rfl hs (by omega) had hg2 rfl (bytesR_len G) (by omega) hG (bytesR_all G)
    rw [this]
    refine ⟨_, rfl, K σ.next _ ?_⟩
    have hb0 : bufR G k = .obj k (.froz (bytesR G) 5) := by simp only [bufR, hG0, if_false]
    rw [hb0] at ho2
    have hkn : k < σ.next := (ho2.lt k (by simp [idsL, Res.ids])).2
    have hqk : q ≠ k := by
      have := ho2.nodup
      simp [idsL, Res.ids] at this
      exact this.1.1
    simp only [bufV, bufR, hGs, hGs3, if_false, bytesR_app, hsz]
    unfold wrSome
    refine Own.remake (A := [.blk q [.pointer ad, bufV G k, x, y] 44 true, .obj k (.froz (bytesR G) 5)]) (A' := [.blk q [.pointer (some ⟨q, 0, none⟩), .slice (some ⟨σ.next, 0, none⟩) (G.size + s.size) (G.size + s.size), x, y] 44 true, .obj σ.next (.froz (bytesR G ++ bytesR s) 5)]) (L := R1) ho2 ?_ ?_ ?_ ?_
    · simp [idsL, Res.ids]; omega
    · simp [idsL, Res.ids]
    · intro r hr
      simp only [List.mem_cons, List.not_mem_nil, or_false] at hr
      rcases hr with rfl | rfl
      · simp only [Res.ok]; exact T.get_set_self _ _ _
      · simp only [Res.ok]; rw [T.get_set_ne _ _ _ _ (by first | omega | (simp only; omega)), T.get_set_self]
    · intro b hb hbn
      simp [idsL, Res.ids] at hb
      rw [T.get_set_ne _ _ _ _ hb.1, T.get_set_ne _ _ _ _ hbn, T.get_set_ne _ _ _ _ hb.2, T.get_set_ne _ _ _ _ hb.1]
end
end Go.Proofs.Ytpcbfbjoiknbhaa
