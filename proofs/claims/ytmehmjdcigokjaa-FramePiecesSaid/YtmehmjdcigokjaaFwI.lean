/- What an operation hangs on: the blocks that it names, its operands. -/
import Derived.Test.YtmehmjdcigokjaaFwH
set_option linter.all false
namespace Go.Ab
section
variable {E : Env} {g g' : Nat → Option Blk} {nid : Nat}

theorem rd_congr {a : Addr} {n : Nat} (h : g' a.block = g a.block) : rd E g' a n = rd E g a n := by unfold rd; rw [h]
theorem wr_congr {a : Addr} {vs : List Value} (h : g' a.block = g a.block) : wr E g' a vs = wr E g a vs := by unfold wr; rw [h]
theorem opens_congr {a : Addr} {cap size : Nat} {el : TypeId} (h : g' a.block = g a.block) : opens E g' a cap el size = opens E g a cap el size := by unfold opens; rw [h]
theorem szOk_congr {a : Addr} {n : Nat} (h : g' a.block = g a.block) : szOk E g' a n = szOk E g a n := by unfold szOk; rw [h]
theorem rdRow_congr {x : Value} {s n : Nat} (h : ∀ b ∈ blkOf x, g' b = g b) : rdRow E g' s n x = rdRow E g s n x := by
  cases x with
  | slice a n c =>
    cases a with
    | none => rfl
    | some a => simp only [rdRow]; rw [rd_congr (h a.block (by simp [blkOf]))]
  | _ => rfl

theorem evLoad_local {t : TypeId} {x : Value} {e : Eff} (h : evLoad E g t x = some e) (hg : ∀ b ∈ e.rds, g' b = g b) : evLoad E g' t x = some e := by
  unfold evLoad at h ⊢
  split at h
  · rename_i a
    have hb : a.block ∈ e.rds := by
      split at h
      · split at h
        · split at h
          · cases h; simp
          · cases h
        · cases h
      · split at h
        · cases h; simp
        · cases h
      · cases h
    simp only [rd_congr (E := E) (hg _ hb)]
    exact h
  · cases h

theorem evStore_local {t : TypeId} {x v : Value} {e : Eff} (h : evStore E g t x v = some e) (hg : ∀ b ∈ e.rds, g' b = g b) : evStore E g' t x v = some e := by
  unfold evStore at h ⊢
  split at h
  · rename_i a
    have hb : a.block ∈ e.rds := by
      split at h
      · split at h
        · cases h; simp
        · cases h
      · cases h
    simp only [wr_congr (E := E) (hg _ hb)]
    exact h
  · cases h

theorem evSlice_local {t : TypeId} {x : Value} {lo hi mx : Option Value} {e : Eff} (h : evSlice E g t x lo hi mx = some e) (hg : ∀ b ∈ e.rds, g' b = g b) : evSlice E g' t x lo hi mx = some e := by
  unfold evSlice at h ⊢
  split at h
  · exact h
  · exact h
  · rename_i el a len cap hu
    have hb : a.block ∈ e.rds := by
      split at h
      · split at h
        · split at h
          · split at h
            · cases h; simp
            · cases h
          · cases h
        · cases h
      · split at h
        · split at h
          · split at h
            · split at h
              · cases h; simp
              · cases h
            · cases h
          · cases h
        · cases h
      · cases h
    simp only [szOk_congr (E := E) (hg _ hb)]
    exact h
  · exact h
  · cases h

theorem evAppend_local {ts : Array TypeId} {s x : Value} {e : Eff} (h : evAppend E g nid ts s x = some e) (hg : ∀ b ∈ e.rds, g' b = g b) : evAppend E g' nid ts s x = some e := by
  unfold evAppend at h ⊢
  split at h
  case h_2 => cases h
  rename_i el u he hu
  try simp only [he, hu]
  split at h
  case isTrue => cases h
  rename_i hsl
  rw [if_neg hsl]
  split at h
  case h_2 => cases h
  rename_i i z n hi hz hn
  try simp only [hi, hz, hn]
  split at h
  case isTrue => cases h
  rename_i hzz
  rw [if_neg hzz]
  split at h
  case h_2 => cases h
  rename_i base sLen sCap new hnew
  have hx : ∀ b ∈ blkOf x, b ∈ e.rds := by
    intro b hb
    split at h
    · split at h
      · cases h; exact hb
      · split at h
        · split at h
          · cases h
          · split at h
            · cases h; simp [hb]
            · cases h
        · cases h
    · split at h
      · split at h
        · split at h
          · cases h; exact hb
          · cases h
        · split at h
          · split at h
            · cases h
            · cases h; simp [hb]
          · cases h; simp [hb]
          · cases h
      · cases h
  rw [rdRow_congr (fun b hb => hg b (hx b hb)), hnew]
  simp only
  split at h
  · rename_i hroom
    rw [if_pos hroom]
    split at h
    · rename_i h0; rw [if_pos h0]; exact h
    · rename_i h0
      rw [if_neg h0]
      split at h
      · rename_i a
        split at h
        · cases h
        · rename_i hsp
          rw [if_neg hsp]
          split at h
          · rename_i w hw
            have hb : a.block ∈ e.rds := by cases h; simp
            rw [wr_congr (a := ⟨a.block, a.off + sLen * i.size, none⟩) (hg _ hb), hw]
            exact h
          · cases h
      · cases h
  · rename_i hroom
    rw [if_neg hroom]
    split at h
    case isFalse => cases h
    rename_i hbig
    rw [if_pos hbig]
    split at h
    · exact h
    · rename_i a
      have hb : a.block ∈ e.rds := by
        split at h
        · split at h
          · cases h
          · cases h; simp
        · cases h; simp
        · cases h
      rw [opens_congr (hg _ hb), rdRow_congr (x := .slice (some a) sLen sCap) (fun b hb' => by simp [blkOf] at hb'; subst hb'; exact hg _ hb)]
      exact h

theorem evCopy_local {ts : Array TypeId} {d x : Value} {e : Eff} (h : evCopy E g ts d x = some e) (hg : ∀ b ∈ e.rds, g' b = g b) : evCopy E g' ts d x = some e := by
  unfold evCopy at h ⊢
  split at h
  case h_2 => cases h
  rename_i el he
  try simp only [he]
  split at h
  case h_2 => cases h
  rename_i size base dLen dCap xl hz hl
  try simp only [hz, hl]
  split at h
  case h_2 => cases h
  rename_i l hrow
  have hx : ∀ b ∈ blkOf x, b ∈ e.rds := by
    intro b hb
    split at h
    · cases h; exact hb
    · split at h
      · split at h
        · cases h; simp [hb]
        · cases h
      · cases h
  rw [rdRow_congr (fun b hb => hg b (hx b hb)), hrow]
  simp only
  split at h
  · rename_i h0; rw [if_pos h0]; exact h
  · rename_i h0
    rw [if_neg h0]
    split at h
    · rename_i a
      split at h
      · rename_i w hw
        have hb : a.block ∈ e.rds := by cases h; simp
        rw [wr_congr (hg _ hb), hw]
        exact h
      · cases h
    · cases h

theorem evClear_local {ts : Array TypeId} {d : Value} {e : Eff} (h : evClear E g ts d = some e) (hg : ∀ b ∈ e.rds, g' b = g b) : evClear E g' ts d = some e := by
  unfold evClear at h ⊢
  split at h
  · exact h
  · rename_i el a n cap he
    split at h
    · rename_i h0; rw [if_pos h0]; exact h
    · rename_i h0
      rw [if_neg h0]
      split at h
      · rename_i size z hz hzc
        try simp only [hz, hzc]
        split at h
        · rename_i hc
          rw [if_pos hc]
          split at h
          · rename_i w hw
            have hb : a.block ∈ e.rds := by cases h; simp
            rw [wr_congr (hg _ hb), hw]
            exact h
          · cases h
        · cases h
      · cases h
  · cases h

theorem evConvert_local {src dst : TypeId} {x : Value} {e : Eff} (h : evConvert E g nid src dst x = some e) (hg : ∀ b ∈ e.rds, g' b = g b) : evConvert E g' nid src dst x = some e := by
  unfold evConvert at h ⊢
  split at h
  · exact h
  · rename_i y el hs hd
    split at h
    · exact h
    · rename_i a n k he
      split at h
      · rename_i l hl
        have hb : a.block ∈ e.rds := by
          simp only [Option.map_eq_some_iff] at h
          obtain ⟨s, _, rfl⟩ := h
          simp
        simp only [rd_congr (E := E) (hg _ hb), hl]
        exact h
      · cases h
    · cases h
  · cases h
  · cases h
  · exact h
  · cases h

theorem evBuiltin_local {b : Builtin} {ts : Array TypeId} {ty : TypeId} {args : List Value} {e : Eff} (h : evBuiltin E g nid b ts ty args = some e) (hg : ∀ b ∈ e.rds, g' b = g b) : evBuiltin E g' nid b ts ty args = some e := by
  unfold evBuiltin at h ⊢
  split at h
  · exact evAppend_local h hg
  · exact evCopy_local h hg
  · exact evClear_local h hg
  · exact h
  · exact h
  · exact h
  · cases h

theorem evOp_local {ρ : Operand → Value} {o : Oper} {e : Eff} (h : evOp E ρ nid g o = some e) (hg : ∀ b ∈ e.rds, g' b = g b) : evOp E ρ nid g' o = some e := by
  obtain ⟨dst, op, ty, pos, after, guard⟩ := o
  cases op
  case load t a => exact evLoad_local (E := E) (g := g) (t := t) (x := ρ a) h hg
  case store t a x => exact evStore_local (E := E) (g := g) (t := t) (x := ρ a) (v := ρ x) h hg
  case convert src dst x => exact evConvert_local (E := E) (g := g) (nid := nid) (src := src) (dst := dst) (x := ρ x) h hg
  case slice t x lo hi mx => exact evSlice_local (E := E) (g := g) (t := t) (x := ρ x) (lo := lo.map ρ) (hi := hi.map ρ) (mx := mx.map ρ) h hg
  case call c =>
    obtain ⟨callee, args, argTypes⟩ := c
    cases callee with
    | builtin b => exact evBuiltin_local (E := E) (g := g) (nid := nid) (b := b) (ts := argTypes) (ty := ty) (args := args.toList.map ρ) h hg
    | value f => exact h
    | invoke r m => exact h
  all_goals exact h

/-- Operands that read as before. -/
theorem evOp_opds {ρ ρ' : Operand → Value} {o : Oper} (h : ∀ x ∈ o.op.operands, ρ' x = ρ x) : evOp E ρ' nid g o = evOp E ρ nid g o := by
  obtain ⟨dst, op, ty, pos, after, guard⟩ := o
  have hl : ∀ l : List Operand, (∀ x ∈ l, x ∈ op.operands) → l.map ρ' = l.map ρ := fun l hx => List.map_congr_left fun x hm => h x (hx x hm)
  have hp : ∀ l : List (Nat × Operand), (∀ x ∈ l.map (·.2), x ∈ op.operands) → (l.map fun p => (p.1, ρ' p.2)) = l.map fun p => (p.1, ρ p.2) :=
    fun l hx => List.map_congr_left fun p hm => by rw [h p.2 (hx _ (List.mem_map.2 ⟨p, hm, rfl⟩))]
  have ho : ∀ x : Option Operand, (∀ y ∈ x, y ∈ op.operands) → x.map ρ' = x.map ρ := by
    intro x hx
    cases x with
    | none => rfl
    | some y => simp [h y (hx y rfl)]
  cases op <;> simp only [Op.operands] at h hl hp ho
  case move x => simp only [evOp]; rw [h x (by simp)]
  case assign x => simp only [evOp]; rw [h x (by simp)]
  case pick c a b => simp only [evOp]; rw [h c (by simp), h a (by simp), h b (by simp)]
  case box t x => simp only [evOp]; rw [h x (by simp)]
  case build t ps => simp only [evOp]; rw [hp ps.toList (fun x hx => by simpa using hx)]
  case buildSlice t n ps => simp only [evOp]; rw [hp ps.toList (fun x hx => by simpa using hx)]
  case load t a => simp only [evOp]; rw [h a (by simp)]
  case store t a x => simp only [evOp]; rw [h a (by simp), h x (by simp)]
  case nilCheck x => simp only [evOp]; rw [h x (by simp)]
  case binOp op t x y t' => simp only [evOp]; rw [h x (by simp), h y (by simp)]
  case unOp op t x => simp only [evOp]; rw [h x (by simp)]
  case convert s d x => simp only [evOp]; rw [h x (by simp)]
  case makeFunc fn f c =>
    simp only [evOp]
    have h1 : f.map ρ' = f.map ρ := by
      apply Array.ext'; simp only [Array.toList_map]; exact hl f.toList (fun x hx => by simp at hx; simp [hx])
    have h2 : c.map ρ' = c.map ρ := by
      apply Array.ext'; simp only [Array.toList_map]; exact hl c.toList (fun x hx => by simp at hx; simp [hx])
    rw [h1, h2]
  case makeSlice t l c => simp only [evOp]; rw [h l (by simp), h c (by simp)]
  case slice t x lo hi mx => simp only [evOp]; rw [h x (by simp), ho lo (fun y hy => by simp at hy; simp [hy]), ho hi (fun y hy => by simp at hy; simp [hy]), ho mx (fun y hy => by simp at hy; simp [hy])]
  case fieldAddr t x f => simp only [evOp]; rw [h x (by simp)]
  case field t x f => simp only [evOp]; rw [h x (by simp)]
  case indexAddr t x i => simp only [evOp]; rw [h x (by simp), h i (by simp)]
  case index t x i => simp only [evOp]; rw [h x (by simp), h i (by simp)]
  case extract x i => simp only [evOp]; rw [h x (by simp)]
  case call c =>
    obtain ⟨callee, args, argTypes⟩ := c
    cases callee with
    | builtin b => simp only [evOp]; rw [hl args.toList (fun x hx => by simp at hx; simp [Call.operands, hx])]
    | value f => rfl
    | invoke r m => rfl
  all_goals rfl
end
end Go.Ab
