/- What an operation hangs on: the blocks that it names, its operands. -/
import Derived.Test.YtllffogcdeempaaFwH
set_option linter.all false
namespace Go.Ab
section
variable {E : Env} {g g' : Nat → Option Blk} {nid : Nat}

theorem rd_congr {a : Addr} {n : Nat} (h : g' a.block = g a.block) : rd E g' a n = rd E g a n := by unfold rd; rw [h]
theorem wr_congr {a : Addr} {vs : List Value} (h : g' a.block = g a.block) : wr E g' a vs = wr E g a vs := by unfold wr; rw [h]
theorem opens_congr {a : Addr} {cap size : Nat} {el : TypeId} (h : g' a.block = g a.block) : opens E g' a cap el size = opens E g a cap el size := by unfold opens; rw [h]
theorem szOk_congr {a : Addr} {n : Nat} (h : g' a.block = g a.block) : szOk E g' a n = szOk E g a n := by unfold szOk; rw [h]
theorem rdRow_congr {x : Value} {s n : Nat} (h : ∀ b ∈ blkOf x, g' b = g b) : rdRow E g' s n x = rdRow E g s n x := by
  cases x with
  | slice a n c =>
    cases a with
    | none => rfl
    | some a => simp only [rdRow]; rw [rd_congr (h a.block (by simp [blkOf]))]
  | _ => rfl

theorem evLoad_local {t : TypeId} {x : Value} {e : Eff} (h : evLoad E g t x = some e) (hg : ∀ b ∈ e.rds, g' b = g b) : evLoad E g' t x = some e := by
  unfold evLoad at h ⊢
  split at h
  · rename_i a
    have hb : a.block ∈ e.rds := by
      split at h
      · split at h
        · split at h
          · cases h; simp
          · cases h
        · cases h
      · split at h
        · cases h; simp
        · cases h
      · cases h
    simp only [rd_congr (E := E) (hg _ hb)]
    exact h
  · cases h

theorem evStore_local {t : TypeId} {x v : Value} {e : Eff} (h : evStore E g t x v = some e) (hg : ∀ b ∈ e.rds, g' b = g b) : evStore E g' t x v = some e := by
  unfold evStore at h ⊢
  split at h
  · rename_i a
    have hb : a.block ∈ e.rds := by
      split at h
      · split at h
        · cases h; simp
        · cases h
      · cases h
    simp only [wr_congr (E := E) (hg _ hb)]
    exact h
  · cases h

theorem evSlice_local {t : TypeId} {x : Value} {lo hi mx : Option Value} {e : Eff} (h : evSlice E g t x lo hi mx = some e) (hg : ∀ b ∈ e.rds, g' b = g b) : evSlice E g' t x lo hi mx = some e := by
  unfold evSlice at h ⊢
  split at h
  · exact h
  · exact h
  · rename_i el a len cap hu
    have hb : a.block ∈ e.rds := by
      split at h
      · split at h
        · split at h
          · split at h
            · cases h; simp
            · cases h
          · cases h
        · cases h
      · split at h
        · split at h
          · split at h
            · split at h
              · cases h; simp
              · cases h
            · cases h
          · cases h
        · cases h
      · cases h
    simp only [szOk_congr (E := E) (hg _ hb)]
    exact h
  · exact h
  · cases h

theorem evAppendZ_local {nid : Nat} {el : TypeId} {u : TypeDesc} {s x : Value} {e : Eff} (h : evAppendZ E g nid el u s x = some e) (hg : ∀ b ∈ e.rds, g' b = g b) : evAppendZ E g' nid el u s x = some e := by
  unfold evAppendZ at h ⊢
  split at h
  case h_2 => cases h
  rename_i kn a sLen sCap kq q
  try simp only
  split at h
  case h_2 => cases h
  rename_i i z hi hz
  try simp only [hi, hz]
  split at h
  · cases h
  rename_i hc
  rw [if_neg hc]
  split at h
  case h_2 => cases h
  rename_i old hold hop
  cases h
  have hga : g' a.block = g a.block := hg a.block (by simp)
  rw [rdRow_congr (fun b hb => hg b (by simpa [blkOf] using hb)), hold, opens_congr hga, hop]
theorem evCap_local {ts : Array TypeId} {x : Value} {e : Eff} (h : evCap E g ts x = some e) (hg : ∀ b ∈ e.rds, g' b = g b) : evCap E g' ts x = some e := by
  unfold evCap at h ⊢
  split at h
  · rename_i he; try simp only [he]
    exact h
  · rename_i el a n c he
    try simp only [he]
    split at h
    case h_2 => cases h
    rename_i sz hsz
    try simp only [hsz]
    split at h
    case h_2 => cases h
    rename_i hop
    cases h
    have hga : g' a.block = g a.block := hg a.block (by simp)
    rw [opens_congr hga, hop]
  · cases h
theorem evAppend_local {ts : Array TypeId} {s x : Value} {e : Eff} (h : evAppend E g nid ts s x = some e) (hg : ∀ b ∈ e.rds, g' b = g b) : evAppend E g' nid ts s x = some e := by
  unfold evAppend at h ⊢
  split at h
  case h_2 => cases h
  rename_i el u he hu
  try simp only [he, hu]
  split at h
  case isTrue hsl =>
    rw [if_pos hsl]
    exact evAppendZ_local h hg
  rename_i hsl
  rw [if_neg hsl]
  split at h
  case h_2 => cases h
  rename_i i z n hi hz hn
  try simp only [hi, hz, hn]
  split at h
  case isTrue => cases h
  rename_i hzz
  rw [if_neg hzz]
  split at h
  case h_2 => cases h
  rename_i base sLen sCap new hnew
  have hx : ∀ b ∈ blkOf x, b ∈ e.rds := by
    intro b hb
    split at h
    · split at h
      · cases h; exact hb
      · split at h
        · split at h
          · cases h
          · split at h
            · cases h; simp [hb]
            · cases h
        · cases h
    · split at h
      · split at h
        · split at h
          · cases h; exact hb
          · cases h
        · split at h
          · split at h
            · cases h
            · cases h; simp [hb]
          · cases h; simp [hb]
          · cases h
      · cases h
  rw [rdRow_congr (fun b hb => hg b (hx b hb)), hnew]
  simp only
  split at h
  · rename_i hroom
    rw [if_pos hroom]
    split at h
    · rename_i h0; rw [if_pos h0]; exact h
    · rename_i h0
      rw [if_neg h0]
      split at h
      · rename_i a
        split at h
        · cases h
        · rename_i hsp
          rw [if_neg hsp]
          split at h
          · rename_i w hw
            have hb : a.block ∈ e.rds := by cases h; simp
            rw [wr_congr (a := ⟨a.block, a.off + sLen * i.size, none⟩) (hg _ hb), hw]
            exact h
          · cases h
      · cases h
  · rename_i hroom
    rw [if_neg hroom]
    split at h
    case isFalse => cases h
    rename_i hbig
    rw [if_pos hbig]
    split at h
    · exact h
    · rename_i a
      have hb : a.block ∈ e.rds := by
        split at h
        · split at h
          · cases h
          · cases h; simp
        · cases h; simp
        · cases h
      rw [opens_congr (hg _ hb), rdRow_congr (x := .slice (some a) sLen sCap) (fun b hb' => by simp [blkOf] at hb'; subst hb'; exact hg _ hb)]
      exact h

theorem evCopy_local {ts : Array TypeId} {d x : Value} {e : Eff} (h : evCopy E g ts d x = some e) (hg : ∀ b ∈ e.rds, g' b = g b) : evCopy E g' ts d x = some e := by
  unfold evCopy at h ⊢
  split at h
  case h_2 => cases h
  rename_i el he
  try simp only [he]
  split at h
  case h_2 => cases h
  rename_i size base dLen dCap xl hz hl
  try simp only [hz, hl]
  split at h
  case h_2 => cases h
  rename_i l hrow
  have hx : ∀ b ∈ blkOf x, b ∈ e.rds := by
    intro b hb
    split at h
    · cases h; exact hb
    · split at h
      · split at h
        · cases h; simp [hb]
        · cases h
      · cases h
  rw [rdRow_congr (fun b hb => hg b (hx b hb)), hrow]
  simp only
  split at h
  · rename_i h0; rw [if_pos h0]; exact h
  · rename_i h0
    rw [if_neg h0]
    split at h
    · rename_i a
      split at h
      · rename_i w hw
        have hb : a.block ∈ e.rds := by cases h; simp
        rw [wr_congr (hg _ hb), hw]
        exact h
      · cases h
    · cases h

theorem evClear_local {ts : Array TypeId} {d : Value} {e : Eff} (h : evClear E g ts d = some e) (hg : ∀ b ∈ e.rds, g' b = g b) : evClear E g' ts d = some e := by
  unfold evClear at h ⊢
  split at h
  · exact h
  · rename_i el a n cap he
    split at h
    · rename_i h0; rw [if_pos h0]; exact h
    · rename_i h0
      rw [if_neg h0]
      split at h
      · rename_i size z hz hzc
        try simp only [hz, hzc]
        split at h
        · rename_i hc
          rw [if_pos hc]
          split at h
          · rename_i w hw
            have hb : a.block ∈ e.rds := by cases h; simp
            rw [wr_congr (hg _ hb), hw]
            exact h
          · cases h
        · cases h
      · cases h
  · cases h

theorem evConvert_local {src dst : TypeId} {x : Value} {e : Eff} (h : evConvert E g nid src dst x = some e) (hg : ∀ b ∈ e.rds, g' b = g b) : evConvert E g' nid src dst x = some e := by
  unfold evConvert at h ⊢
  split at h
  · exact h
  · rename_i y el hs hd
    split at h
    · exact h
    · rename_i a n k he
      split at h
      · rename_i l hl
        have hb : a.block ∈ e.rds := by
          simp only [Option.map_eq_some_iff] at h
          obtain ⟨s, _, rfl⟩ := h
          simp
        simp only [rd_congr (E := E) (hg _ hb), hl]
        exact h
      · cases h
    · cases h
  · cases h
  · cases h
  · exact h
  · cases h

theorem evBuiltin_local {b : Builtin} {ts : Array TypeId} {ty : TypeId} {args : List Value} {e : Eff} (h : evBuiltin E g nid b ts ty args = some e) (hg : ∀ b ∈ e.rds, g' b = g b) : evBuiltin E g' nid b ts ty args = some e := by
  unfold evBuiltin at h ⊢
  split at h
  · exact evAppend_local h hg
  · exact evCopy_local h hg
  · exact evClear_local h hg
  · exact h
  · exact evCap_local h hg
  · exact h
  · exact h
  · cases h

theorem evOp_local {ρ : Operand → Value} {o : Oper} {e : Eff} (h : evOp E ρ nid g o = some e) (hg : ∀ b ∈ e.rds, g' b = g b) : evOp E ρ nid g' o = some e := by
  obtain ⟨dst, op, ty, pos, after, guard⟩ := o
  cases op
  case load t a => exact evLoad_local (E := E) (g := g) (t := t) (x := ρ a) h hg
  case store t a x => exact evStore_local (E := E) (g := g) (t := t) (x := ρ a) (v := ρ x) h hg
  case convert src dst x => exact evConvert_local (E := E) (g := g) (nid := nid) (src := src) (dst := dst) (x := ρ x) h hg
  case slice t x lo hi mx => exact evSlice_local (E := E) (g := g) (t := t) (x := ρ x) (lo := lo.map ρ) (hi := hi.map ρ) (mx := mx.map ρ) h hg
  case call c =>
    obtain ⟨callee, args, argTypes⟩ := c
    cases callee with
    | builtin b => exact evBuiltin_local (E := E) (g := g) (nid := nid) (b := b) (ts := argTypes) (ty := ty) (args := args.toList.map ρ) h hg
    | value f => exact h
    | invoke r m => exact h
  all_goals exact h

/-! More blocks on the heap: what was told stays. -/
theorem rd_mono (hg : ∀ b x, g b = some x → g' b = some x) {a : Addr} {n : Nat} {l : List Value} (h : rd E g a n = some l) : rd E g' a n = some l := by
  unfold rd at h ⊢
  split at h
  · cases h
  · rename_i h1
    rw [if_neg h1]
    split at h
    · rename_i h2; rw [if_pos h2]; exact h
    · rename_i h2
      rw [if_neg h2]
      split at h
      · rename_i c e x hb; rw [hg _ _ hb]; exact h
      · cases h
theorem wr_mono (hg : ∀ b x, g b = some x → g' b = some x) {a : Addr} {vs : List Value} {u : Nat × Option Blk} (h : wr E g a vs = some u) : wr E g' a vs = some u := by
  unfold wr at h ⊢
  split at h
  · cases h
  · rename_i h1
    rw [if_neg h1]
    split at h
    · rename_i c e x hb; rw [hg _ _ hb]; exact h
    · cases h
theorem opens_mono (hg : ∀ b x, g b = some x → g' b = some x) {a : Addr} {cap size : Nat} {el : TypeId} {r : Bool} (h : opens E g a cap el size = some r) : opens E g' a cap el size = some r := by
  unfold opens at h ⊢
  split at h
  · rename_i h1; rw [if_pos h1]; exact h
  · rename_i h1
    rw [if_neg h1]
    split at h
    · rename_i c e x hb; rw [hg _ _ hb]; exact h
    · cases h
theorem szOk_mono (hg : ∀ b x, g b = some x → g' b = some x) {a : Addr} {n : Nat} (h : szOk E g a n = true) : szOk E g' a n = true := by
  unfold szOk at h ⊢
  split at h
  · rename_i h1; rw [if_pos h1]
  · rename_i h1
    rw [if_neg h1]
    split at h
    · rename_i c e x hb; rw [hg _ _ hb]; exact h
    · cases h
theorem rdRow_mono (hg : ∀ b x, g b = some x → g' b = some x) {x : Value} {s n : Nat} {l : List Value} (h : rdRow E g s n x = some l) : rdRow E g' s n x = some l := by
  cases x with
  | slice a n c =>
    cases a with
    | none => exact h
    | some a =>
      simp only [rdRow] at h ⊢
      split at h
      · rename_i h1; rw [if_pos h1]; exact h
      · rename_i h1
        rw [if_neg h1]
        split at h
        · rename_i h2; rw [if_pos h2]; exact rd_mono hg h
        · cases h
  | _ => exact h
theorem evLoad_mono (hg : ∀ b x, g b = some x → g' b = some x) {t : TypeId} {x : Value} {e : Eff} (h : evLoad E g t x = some e) : evLoad E g' t x = some e := by
  unfold evLoad at h ⊢
  split at h
  · rename_i a
    split at h
    · split at h
      · split at h
        · rename_i hr
          try simp only [*]
          simp only [rd_mono hg hr]
          exact h
        · cases h
      · cases h
    · split at h
      · rename_i hr
        try simp only [*]
        simp only [rd_mono hg hr]
        exact h
      · cases h
    · cases h
  · cases h
theorem evStore_mono (hg : ∀ b x, g b = some x → g' b = some x) {t : TypeId} {x v : Value} {e : Eff} (h : evStore E g t x v = some e) : evStore E g' t x v = some e := by
  unfold evStore at h ⊢
  split at h
  · rename_i a
    split at h
    · rename_i hc
      split at h
      · rename_i u hw
        try simp only [*]
        simp only [wr_mono hg hw]
        exact h
      · cases h
    · cases h
  · cases h

theorem evSlice_mono (hg : ∀ b x, g b = some x → g' b = some x) {t : TypeId} {x : Value} {lo hi mx : Option Value} {e : Eff} (h : evSlice E g t x lo hi mx = some e) : evSlice E g' t x lo hi mx = some e := by
  unfold evSlice at h ⊢
  split at h
  · exact h
  · exact h
  · rename_i el a len cap hu
    split at h
    · rename_i n hz hm
      split at h
      · rename_i hc
        try simp only [hz, hm]
        rw [if_pos ⟨szOk_mono hg hc.1, hc.2⟩]
        exact h
      · cases h
    · rename_i n m hz hm
      split at h
      · rename_i hc
        try simp only [hz, hm]
        rw [if_pos ⟨szOk_mono hg hc.1, hc.2⟩]
        exact h
      · cases h
    · cases h
  · exact h
  · cases h
theorem evAppendZ_mono (hg : ∀ b x, g b = some x → g' b = some x) {nid : Nat} {el : TypeId} {u : TypeDesc} {s x : Value} {e : Eff} (h : evAppendZ E g nid el u s x = some e) : evAppendZ E g' nid el u s x = some e := by
  unfold evAppendZ at h ⊢
  split at h
  case h_2 => cases h
  rename_i kn a sLen sCap kq q
  try simp only
  split at h
  case h_2 => cases h
  rename_i i z hi hz
  try simp only [hi, hz]
  split at h
  · cases h
  rename_i hc
  rw [if_neg hc]
  split at h
  case h_2 => cases h
  rename_i old hold hop
  rw [rdRow_mono hg hold, opens_mono hg hop]
  exact h
theorem evCap_mono (hg : ∀ b x, g b = some x → g' b = some x) {ts : Array TypeId} {x : Value} {e : Eff} (h : evCap E g ts x = some e) : evCap E g' ts x = some e := by
  unfold evCap at h ⊢
  split at h
  · rename_i he; try simp only [he]
    exact h
  · rename_i el a n c he
    try simp only [he]
    split at h
    case h_2 => cases h
    rename_i sz hsz
    try simp only [hsz]
    split at h
    case h_2 => cases h
    rename_i hop
    rw [opens_mono hg hop]
    exact h
  · cases h
theorem evAppend_mono (hg : ∀ b x, g b = some x → g' b = some x) {ts : Array TypeId} {s x : Value} {e : Eff} (h : evAppend E g nid ts s x = some e) : evAppend E g' nid ts s x = some e := by
  unfold evAppend at h ⊢
  split at h
  case h_2 => cases h
  rename_i el u he hu
  try simp only [he, hu]
  split at h
  case isTrue hsl =>
    rw [if_pos hsl]
    exact evAppendZ_mono hg h
  rename_i hsl
  rw [if_neg hsl]
  split at h
  case h_2 => cases h
  rename_i i z n hi hz hn
  try simp only [hi, hz, hn]
  split at h
  case isTrue => cases h
  rename_i hzz
  rw [if_neg hzz]
  split at h
  case h_2 => cases h
  rename_i base sLen sCap new hnew
  rw [rdRow_mono hg hnew]
  simp only
  split at h
  · rename_i hroom
    rw [if_pos hroom]
    split at h
    · rename_i h0; rw [if_pos h0]; exact h
    · rename_i h0
      rw [if_neg h0]
      split at h
      · rename_i a
        split at h
        · cases h
        · rename_i hsp
          rw [if_neg hsp]
          split at h
          · rename_i w hw
            rw [wr_mono hg hw]
            exact h
          · cases h
      · cases h
  · rename_i hroom
    rw [if_neg hroom]
    split at h
    case isFalse => cases h
    rename_i hbig
    rw [if_pos hbig]
    split at h
    · exact h
    · rename_i a
      split at h
      · rename_i h1 h2
        rw [rdRow_mono hg h1, opens_mono hg h2]
        exact h
      · rename_i h1 h2
        rw [rdRow_mono hg h1, opens_mono hg h2]
        exact h
      · cases h
theorem evCopy_mono (hg : ∀ b x, g b = some x → g' b = some x) {ts : Array TypeId} {d x : Value} {e : Eff} (h : evCopy E g ts d x = some e) : evCopy E g' ts d x = some e := by
  unfold evCopy at h ⊢
  split at h
  case h_2 => cases h
  rename_i el he
  try simp only [he]
  split at h
  case h_2 => cases h
  rename_i size base dLen dCap xl hz hl
  try simp only [hz, hl]
  split at h
  case h_2 => cases h
  rename_i l hrow
  rw [rdRow_mono hg hrow]
  simp only
  split at h
  · rename_i h0; rw [if_pos h0]; exact h
  · rename_i h0
    rw [if_neg h0]
    split at h
    · rename_i a
      split at h
      · rename_i w hw
        rw [wr_mono hg hw]
        exact h
      · cases h
    · cases h
theorem evClear_mono (hg : ∀ b x, g b = some x → g' b = some x) {ts : Array TypeId} {d : Value} {e : Eff} (h : evClear E g ts d = some e) : evClear E g' ts d = some e := by
  unfold evClear at h ⊢
  split at h
  · exact h
  · rename_i el a n cap he
    split at h
    · rename_i h0; rw [if_pos h0]; exact h
    · rename_i h0
      rw [if_neg h0]
      split at h
      · rename_i size z hz hzc
        try simp only [hz, hzc]
        split at h
        · rename_i hc
          rw [if_pos hc]
          split at h
          · rename_i w hw
            rw [wr_mono hg hw]
            exact h
          · cases h
        · cases h
      · cases h
  · cases h
theorem evConvert_mono (hg : ∀ b x, g b = some x → g' b = some x) {src dst : TypeId} {x : Value} {e : Eff} (h : evConvert E g nid src dst x = some e) : evConvert E g' nid src dst x = some e := by
  unfold evConvert at h ⊢
  split at h
  · exact h
  · rename_i y el hs hd
    split at h
    · exact h
    · rename_i a n k he
      split at h
      · rename_i l hl
        simp only [rd_mono hg hl]
        exact h
      · cases h
    · cases h
  · cases h
  · cases h
  · exact h
  · cases h
theorem evBuiltin_mono (hg : ∀ b x, g b = some x → g' b = some x) {b : Builtin} {ts : Array TypeId} {ty : TypeId} {args : List Value} {e : Eff} (h : evBuiltin E g nid b ts ty args = some e) : evBuiltin E g' nid b ts ty args = some e := by
  unfold evBuiltin at h ⊢
  split at h
  · exact evAppend_mono hg h
  · exact evCopy_mono hg h
  · exact evClear_mono hg h
  · exact h
  · exact evCap_mono hg h
  · exact h
  · exact h
  · cases h
theorem evOp_mono (hg : ∀ b x, g b = some x → g' b = some x) {ρ : Operand → Value} {o : Oper} {e : Eff} (h : evOp E ρ nid g o = some e) : evOp E ρ nid g' o = some e := by
  obtain ⟨dst, op, ty, pos, after, guard⟩ := o
  cases op
  case load t a => exact evLoad_mono (E := E) (g := g) (t := t) (x := ρ a) hg h
  case store t a x => exact evStore_mono (E := E) (g := g) (t := t) (x := ρ a) (v := ρ x) hg h
  case convert src dst x => exact evConvert_mono (E := E) (g := g) (nid := nid) (src := src) (dst := dst) (x := ρ x) hg h
  case slice t x lo hi mx => exact evSlice_mono (E := E) (g := g) (t := t) (x := ρ x) (lo := lo.map ρ) (hi := hi.map ρ) (mx := mx.map ρ) hg h
  case call c =>
    obtain ⟨callee, args, argTypes⟩ := c
    cases callee with
    | builtin b => exact evBuiltin_mono (E := E) (g := g) (nid := nid) (b := b) (ts := argTypes) (ty := ty) (args := args.toList.map ρ) hg h
    | value f => exact h
    | invoke r m => exact h
  all_goals exact h

/-- What is written: the block of one's own number, or one that is there. -/
theorem evAppend_keys {nid : Nat} {ts : Array TypeId} {s x : Value} {e : Eff} (h : evAppend E g nid ts s x = some e) : ∀ b ∈ e.upd.map (·.1), b = nid ∨ g b ≠ none := by
  have hw : ∀ {a : Addr} {vs : List Value} {w : Nat × Option Blk}, wr E g a vs = some w → g w.1 ≠ none := by
    intro a vs w h
    unfold wr at h
    split at h
    · cases h
    · split at h
      · rename_i hb
        split at h
        · cases h; simp [hb]
        · cases h
      · cases h
  have hop : ∀ {a : Addr} {cap size : Nat} {el : TypeId} {n : Nat}, rdRow E g size n (.slice (some a) n cap) ≠ none → opens E g a cap el size = some true → g a.block ≠ none := by
    intro a cap size el n _ h
    unfold opens at h
    split at h
    · cases h
    · split at h
      · rename_i hb; simp [hb]
      · cases h
  unfold evAppend at h
  split at h
  case h_2 => cases h
  split at h
  · unfold evAppendZ at h
    split at h
    · split at h
      · split at h
        · cases h
        · split at h
          · cases h; simp
          · cases h
      · cases h
    · cases h
  · split at h
    case h_2 => cases h
    split at h
    · cases h
    · split at h
      case h_2 => cases h
      split at h
      · split at h
        · cases h; simp
        · split at h
          · split at h
            · cases h
            · split at h
              · rename_i w hwr
                cases h
                intro b hb
                simp at hb
                subst hb
                exact .inr (hw hwr)
              · cases h
          · cases h
      · split at h
        · split at h
          · split at h
            · cases h; simp
            · cases h
          · split at h
            · rename_i old h1 h2
              split at h
              · cases h
              · cases h
                intro b hb
                simp at hb
                rcases hb with rfl | rfl
                · exact .inr (by
                    unfold opens at h2
                    split at h2
                    · cases h2
                    · split at h2
                      · rename_i hb; simp [hb]
                      · cases h2)
                · exact .inl rfl
            · cases h; simp
            · cases h
        · cases h

theorem evOp_keys {ρ : Operand → Value} {o : Oper} {e : Eff} (h : evOp E ρ nid g o = some e) : ∀ b ∈ e.upd.map (·.1), b = nid ∨ g b ≠ none := by
  have hw : ∀ {a : Addr} {vs : List Value} {w : Nat × Option Blk}, wr E g a vs = some w → g w.1 ≠ none := by
    intro a vs w h
    unfold wr at h
    split at h
    · cases h
    · split at h
      · rename_i hb
        split at h
        · cases h; simp [hb]
        · cases h
      · cases h
  obtain ⟨dst, op, ty, pos, after, guard⟩ := o
  cases op
  case move x => cases (show (some (⟨ρ x, [], []⟩ : Eff) = some e) from h); simp
  case assign x => cases (show (some (⟨ρ x, [], []⟩ : Eff) = some e) from h); simp
  case pick c a b =>
    simp only [evOp] at h
    split at h <;> cases h <;> simp
  case alloc t =>
    simp only [evOp] at h
    split at h
    · cases h; simp
    · cases h
  case box t x => cases (show (some (⟨.pointer (some ⟨nid, 0, none⟩), [(nid, some (.cells (ρ x).cells.toList t true))], []⟩ : Eff) = some e) from h); simp
  case build t ps =>
    simp only [evOp, Option.map_eq_some_iff] at h
    obtain ⟨v, _, rfl⟩ := h
    simp
  case buildSlice t n ps =>
    have h' : evBuildSlice E.P nid t n (ps.toList.map fun p => (p.1, ρ p.2)) = some e := h
    unfold evBuildSlice at h'
    split at h'
    · split at h'
      · split at h'
        · split at h'
          · cases h'; simp
          · cases h'
        · cases h'
      · cases h'
    · cases h'
  case load t a =>
    have h' : evLoad E g t (ρ a) = some e := h
    unfold evLoad at h'
    split at h'
    · split at h'
      · split at h'
        · split at h'
          · cases h'; simp
          · cases h'
        · cases h'
      · split at h'
        · cases h'; simp
        · cases h'
      · cases h'
    · cases h'
  case store t a x =>
    have h' : evStore E g t (ρ a) (ρ x) = some e := h
    unfold evStore at h'
    split at h'
    · split at h'
      · split at h'
        · rename_i w hwr
          cases h'
          intro b hb
          simp at hb
          subst hb
          exact .inr (hw hwr)
        · cases h'
      · cases h'
    · cases h'
  case nilCheck x =>
    simp only [evOp] at h
    split at h <;> cases h <;> simp
  case binOp op t x y t' =>
    simp only [evOp, Option.map_eq_some_iff] at h
    obtain ⟨v, _, rfl⟩ := h
    simp
  case unOp op t x =>
    simp only [evOp] at h
    split at h
    · simp only [Option.map_eq_some_iff] at h
      obtain ⟨v, _, rfl⟩ := h
      simp
    · cases h
  case convert src dst x =>
    have h' : evConvert E g nid src dst (ρ x) = some e := h
    unfold evConvert at h'
    split at h'
    · split at h'
      · split at h'
        · cases h'; simp
        · cases h'
      · cases h'
    · split at h'
      · cases h'; simp
      · split at h'
        · simp only [Option.map_eq_some_iff] at h'
          obtain ⟨v, _, rfl⟩ := h'
          simp
        · cases h'
      · cases h'
    · cases h'
    · cases h'
    · split at h'
      · simp only [Option.map_eq_some_iff] at h'
        obtain ⟨v, _, rfl⟩ := h'
        simp
      · cases h'
    · cases h'
  case makeFunc fn f c => cases (show (some (⟨.func fn (f.map ρ) (c.map ρ), [], []⟩ : Eff) = some e) from h); simp
  case makeSlice t l c =>
    have h' : evMakeSlice E nid t (ρ l) (ρ c) = some e := h
    unfold evMakeSlice at h'
    split at h'
    · split at h'
      · split at h'
        · cases h'; simp
        · cases h'
      · cases h'
    · cases h'
  case slice t x lo hi mx =>
    have h' : evSlice E g t (ρ x) (lo.map ρ) (hi.map ρ) (mx.map ρ) = some e := h
    have : e.upd = [] := by
      unfold evSlice at h'
      split at h'
      · split at h'
        · split at h'
          · cases h'; rfl
          · cases h'
        · cases h'
      · split at h'
        · split at h'
          · cases h'; rfl
          · cases h'
        · split at h'
          · cases h'; rfl
          · cases h'
        · cases h'
      · split at h'
        · split at h'
          · split at h'
            · split at h'
              · cases h'; rfl
              · cases h'
            · cases h'
          · cases h'
        · split at h'
          · split at h'
            · split at h'
              · split at h'
                · cases h'; rfl
                · cases h'
              · cases h'
            · cases h'
          · cases h'
        · cases h'
      · split at h'
        · split at h'
          · cases h'; rfl
          · cases h'
        · cases h'
      · cases h'
    simp [this]
  case fieldAddr t x f =>
    simp only [evOp, Option.map_eq_some_iff] at h
    obtain ⟨v, _, rfl⟩ := h
    simp
  case field t x f =>
    simp only [evOp, Option.map_eq_some_iff] at h
    obtain ⟨v, _, rfl⟩ := h
    simp
  case indexAddr t x i =>
    simp only [evOp, Option.map_eq_some_iff] at h
    obtain ⟨v, _, rfl⟩ := h
    simp
  case index t x i =>
    simp only [evOp, Option.map_eq_some_iff] at h
    obtain ⟨v, _, rfl⟩ := h
    simp
  case extract x i =>
    simp only [evOp] at h
    split at h
    · simp only [Option.map_eq_some_iff] at h
      obtain ⟨v, _, rfl⟩ := h
      simp
    · cases h
  case call c =>
    obtain ⟨callee, args, argTypes⟩ := c
    cases callee with
    | value f => exact absurd h (by simp [evOp])
    | invoke r m => exact absurd h (by simp [evOp])
    | builtin b =>
      have h' : evBuiltin E g nid b argTypes ty (args.toList.map ρ) = some e := h
      unfold evBuiltin at h'
      split at h'
      · exact evAppend_keys h'
      · unfold evCopy at h'
        split at h'
        · split at h'
          · split at h'
            · split at h'
              · cases h'; simp
              · split at h'
                · split at h'
                  · rename_i w hwr
                    cases h'
                    intro b hb
                    simp at hb
                    subst hb
                    exact .inr (hw hwr)
                  · cases h'
                · cases h'
            · cases h'
          · cases h'
        · cases h'
      · unfold evClear at h'
        split at h'
        · cases h'; simp
        · split at h'
          · cases h'; simp
          · split at h'
            · split at h'
              · split at h'
                · rename_i w hwr
                  cases h'
                  intro b hb
                  simp at hb
                  subst hb
                  exact .inr (hw hwr)
                · cases h'
              · cases h'
            · cases h'
        · cases h'
      · simp only [Option.map_eq_some_iff] at h'
        obtain ⟨v, _, rfl⟩ := h'
        simp
      · unfold evCap at h'
        split at h'
        · cases h'; simp
        · split at h'
          · split at h'
            · cases h'; simp
            · cases h'
          · cases h'
        · cases h'
      · split at h'
        · simp only [Option.map_eq_some_iff] at h'
          obtain ⟨v, _, rfl⟩ := h'
          simp
        · cases h'
      · split at h'
        · simp only [Option.map_eq_some_iff] at h'
          obtain ⟨v, _, rfl⟩ := h'
          simp
        · cases h'
      · cases h'
  all_goals exact absurd h (by simp [evOp])

/-- An operation that makes a block and looks at none makes it under its own number, whatever is there. -/
theorem evOp_alloc {ρ : Operand → Value} {o : Oper} {e : Eff} (h : evOp E ρ nid g o = some e) (ha : allocOnly e = true) : (∃ b, e.upd = [(nid, some b)]) ∧ e.rds = [] ∧ ∀ g', evOp E ρ nid g' o = some e := by
  unfold allocOnly at ha
  simp only [Bool.and_eq_true, List.isEmpty_iff] at ha
  obtain ⟨hr, hu⟩ := ha
  have hall : ∀ g', evOp E ρ nid g' o = some e := fun g' => evOp_local h (fun b hb => by rw [hr] at hb; cases hb)
  refine ⟨?_, hr, hall⟩
  split at hu
  · rename_i k b he
    have := evOp_keys (hall fun _ => none) k (by rw [he]; simp)
    rcases this with rfl | h
    · exact ⟨b, he⟩
    · exact absurd rfl h
  · cases hu

/-- Operands that read as before. -/
theorem evOp_opds {ρ ρ' : Operand → Value} {o : Oper} (h : ∀ x ∈ o.op.operands, ρ' x = ρ x) : evOp E ρ' nid g o = evOp E ρ nid g o := by
  obtain ⟨dst, op, ty, pos, after, guard⟩ := o
  have hl : ∀ l : List Operand, (∀ x ∈ l, x ∈ op.operands) → l.map ρ' = l.map ρ := fun l hx => List.map_congr_left fun x hm => h x (hx x hm)
  have hp : ∀ l : List (Nat × Operand), (∀ x ∈ l.map (·.2), x ∈ op.operands) → (l.map fun p => (p.1, ρ' p.2)) = l.map fun p => (p.1, ρ p.2) :=
    fun l hx => List.map_congr_left fun p hm => by rw [h p.2 (hx _ (List.mem_map.2 ⟨p, hm, rfl⟩))]
  have ho : ∀ x : Option Operand, (∀ y ∈ x, y ∈ op.operands) → x.map ρ' = x.map ρ := by
    intro x hx
    cases x with
    | none => rfl
    | some y => simp [h y (hx y rfl)]
  cases op <;> simp only [Op.operands] at h hl hp ho
  case move x => simp only [evOp]; rw [h x (by simp)]
  case assign x => simp only [evOp]; rw [h x (by simp)]
  case pick c a b => simp only [evOp]; rw [h c (by simp), h a (by simp), h b (by simp)]
  case box t x => simp only [evOp]; rw [h x (by simp)]
  case build t ps => simp only [evOp]; rw [hp ps.toList (fun x hx => by simpa using hx)]
  case buildSlice t n ps => simp only [evOp]; rw [hp ps.toList (fun x hx => by simpa using hx)]
  case load t a => simp only [evOp]; rw [h a (by simp)]
  case store t a x => simp only [evOp]; rw [h a (by simp), h x (by simp)]
  case nilCheck x => simp only [evOp]; rw [h x (by simp)]
  case binOp op t x y t' => simp only [evOp]; rw [h x (by simp), h y (by simp)]
  case unOp op t x => simp only [evOp]; rw [h x (by simp)]
  case convert s d x => simp only [evOp]; rw [h x (by simp)]
  case makeFunc fn f c =>
    simp only [evOp]
    have h1 : f.map ρ' = f.map ρ := by
      apply Array.ext'; simp only [Array.toList_map]; exact hl f.toList (fun x hx => by simp at hx; simp [hx])
    have h2 : c.map ρ' = c.map ρ := by
      apply Array.ext'; simp only [Array.toList_map]; exact hl c.toList (fun x hx => by simp at hx; simp [hx])
    rw [h1, h2]
  case makeSlice t l c => simp only [evOp]; rw [h l (by simp), h c (by simp)]
  case slice t x lo hi mx => simp only [evOp]; rw [h x (by simp), ho lo (fun y hy => by simp at hy; simp [hy]), ho hi (fun y hy => by simp at hy; simp [hy]), ho mx (fun y hy => by simp at hy; simp [hy])]
  case fieldAddr t x f => simp only [evOp]; rw [h x (by simp)]
  case field t x f => simp only [evOp]; rw [h x (by simp)]
  case indexAddr t x i => simp only [evOp]; rw [h x (by simp), h i (by simp)]
  case index t x i => simp only [evOp]; rw [h x (by simp), h i (by simp)]
  case extract x i => simp only [evOp]; rw [h x (by simp)]
  case call c =>
    obtain ⟨callee, args, argTypes⟩ := c
    cases callee with
    | builtin b => simp only [evOp]; rw [hl args.toList (fun x hx => by simp at hx; simp [Call.operands, hx])]
    | value f => rfl
    | invoke r m => rfl
  all_goals rfl
end
end Go.Ab
