/- Which bits of a register are writable: plain facts. Printed by genQ2.py. -/
import Derived.Test.YtolbecinjajejaaDoorQ1
set_option linter.unusedVariables false
set_option linter.unusedSimpArgs false
namespace Go.Proofs.YtolbecinjajejaaDoor
open Go.RowKit Go.My

/-- A register that is none changes nothing. -/
theorem Dv.bar_none (d : Dv) (i : Nat) (s : Int) : d.bar i 0 s = d := by simp [Dv.bar]
theorem Dv.bars_more (d : Dv) (bs : List Br) (k : Nat) : d.bars bs (bs.length + k) = d.bars bs bs.length := by
  induction k with
  | zero => rfl
  | succ k ih =>
    show (d.bars bs (bs.length + k)).bar (bs.length + k) (at1 ⟨0, 0⟩ bs (bs.length + k)).k (at1 ⟨0, 0⟩ bs (bs.length + k)).s = _
    have : at1 (⟨0, 0⟩ : Br) bs (bs.length + k) = ⟨0, 0⟩ := by simp [at1, List.getD, List.getElem?_eq_none]
    rw [this, Dv.bar_none, ih]
theorem okAt_next {bs : List Br} {k : Nat} (h : okAt bs k = true) (hd : dbl (at1 ⟨0, 0⟩ bs k).k = true) : k + 1 ≠ bs.length ∧ (at1 ⟨0, 0⟩ bs (k + 1)).k = 0 := by
  unfold okAt at h
  rw [hd] at h
  simp only [Bool.and_eq_true, Bool.not_eq_true', Bool.true_and, Bool.or_eq_false_iff, decide_eq_false_iff_not, Bool.not_eq_false', decide_eq_true_eq] at h
  exact h.2
theorem vBar_range {k s : Int} (hv : vBar k s = true) : 0 ≤ s ∧ s ≤ 40 ∧ (k = 0 ∨ k = 1 ∨ k = 2 ∨ k = 3 ∨ k = 4) := by
  unfold vBar at hv
  split at hv
  · simp at hv; omega
  split at hv
  · simp at hv; omega
  split at hv
  · simp at hv; omega
  split at hv
  · simp at hv; omega
  · cases hv
theorem vBar_at {f : Fh} {bs : List Br} (h : vFn f bs = true) (k : Nat) : vBar (at1 ⟨0, 0⟩ bs k).k (at1 ⟨0, 0⟩ bs k).s = true := by
  by_cases hk : k < bs.length
  · exact okAt_bar (vFn_ok h hk)
  · have : at1 (⟨0, 0⟩ : Br) bs k = ⟨0, 0⟩ := by simp [at1, List.getD, List.getElem?_eq_none (Nat.le_of_not_lt hk)]
    rw [this]; rfl
theorem wide_at {f : Fh} {bs : List Br} (h : vFn f bs = true) (k : Nat) (hd : dbl (at1 ⟨0, 0⟩ bs k).k = true) : k + 1 < bs.length ∧ (at1 ⟨0, 0⟩ bs (k + 1)).k = 0 := by
  by_cases hk : k < bs.length
  · have := okAt_next (vFn_ok h hk) hd
    exact ⟨by omega, this.2⟩
  · have : at1 (⟨0, 0⟩ : Br) bs k = ⟨0, 0⟩ := by simp [at1, List.getD, List.getElem?_eq_none (Nat.le_of_not_lt hk)]
    rw [this] at hd
    cases hd
theorem cnt_le {f : Fh} {bs : List Br} (h : vFn f bs = true) : (bs.length : Int) ≤ cntB f.bridge := by
  unfold vFn vBars at h
  simp only [Bool.and_eq_true, decide_eq_true_eq] at h
  exact h.2.1
theorem pref_bridge {f : Fh} {bs : List Br} (h : vFn f bs = true) : f.bridge = false → f.pref = false := by
  unfold vFn vC at h
  simp only [Bool.and_eq_true] at h
  intro hb
  have := h.1.2
  rw [hb] at this
  cases hp : f.pref <;> simp_all
theorem Dv.bar_out (d : Dv) (i : Nat) (k s : Int) (j : Nat) (hi : i < 6) (h : j < 16 ∨ 48 ≤ j) : (d.bar i k s).by_ j = d.by_ j ∧ (d.bar i k s).mk_ j = d.mk_ j := by
  unfold Dv.bar
  repeat' split
  all_goals first
    | exact ⟨rfl, rfl⟩
    | (simp only [Dv.def_, putw]; rw [if_neg (by omega), if_neg (by omega)]; exact ⟨rfl, rfl⟩)
theorem Dv.bars_out (d : Dv) (bs : List Br) (j : Nat) (h : j < 16 ∨ 48 ≤ j) : ∀ k, k ≤ 6 → (d.bars bs k).by_ j = d.by_ j ∧ (d.bars bs k).mk_ j = d.mk_ j := by
  intro k
  induction k with
  | zero => intro _; exact ⟨rfl, rfl⟩
  | succ k ih =>
    intro hk
    have h1 := Dv.bar_out (d.bars bs k) k (at1 ⟨0, 0⟩ bs k).k (at1 ⟨0, 0⟩ bs k).s j (by omega) h
    have h2 := ih (by omega)
    exact ⟨h1.1.trans h2.1, h1.2.trans h2.2⟩
theorem Dv.bridge_out (d : Dv) (p : Bool) (j : Nat) (h : j < 16 ∨ 48 ≤ j) : (d.bridge p).by_ j = d.by_ j ∧ (d.bridge p).mk_ j = d.mk_ j := by
  have e : ∀ (d : Dv) (o n : Nat) (x m : BitVec 64), 16 ≤ o → o + n ≤ 48 → (d.def_ o n x m).by_ j = d.by_ j ∧ (d.def_ o n x m).mk_ j = d.mk_ j := by
    intro d o n x m h1 h2
    simp only [Dv.def_, putw]
    rw [if_neg (by omega), if_neg (by omega)]
    exact ⟨rfl, rfl⟩
  unfold Dv.bridge
  cases p
  · simp only [Bool.false_eq_true, if_false]
    exact ⟨((e _ 32 4 _ _ (by omega) (by omega)).1.trans (e _ 28 2 _ _ (by omega) (by omega)).1).trans (e _ 24 3 _ _ (by omega) (by omega)).1, ((e _ 32 4 _ _ (by omega) (by omega)).2.trans (e _ 28 2 _ _ (by omega) (by omega)).2).trans (e _ 24 3 _ _ (by omega) (by omega)).2⟩
  · simp only [if_true]
    exact ⟨((((e _ 40 8 _ _ (by omega) (by omega)).1.trans (e _ 36 4 _ _ (by omega) (by omega)).1).trans (e _ 32 4 _ _ (by omega) (by omega)).1).trans (e _ 28 2 _ _ (by omega) (by omega)).1).trans (e _ 24 3 _ _ (by omega) (by omega)).1, ((((e _ 40 8 _ _ (by omega) (by omega)).2.trans (e _ 36 4 _ _ (by omega) (by omega)).2).trans (e _ 32 4 _ _ (by omega) (by omega)).2).trans (e _ 28 2 _ _ (by omega) (by omega)).2).trans (e _ 24 3 _ _ (by omega) (by omega)).2⟩
theorem stays_at {d d' : Dv} (h : Stays d d') {j : Nat} (hm : d.mk_ j = 0#8) : d'.by_ j = d.by_ j := by
  have := h.2.2.2 j
  have e : ∀ x : BitVec 8, x &&& ~~~(0#8) = x := fun x => by rw [show ~~~(0#8) = BitVec.allOnes 8 from rfl, BitVec.and_allOnes]
  rw [hm, e, e] at this
  exact this
theorem ones_get (s i : Nat) (hi : i < 64) : (ones s).getLsbD i = decide (s ≤ i) := by
  unfold ones
  rw [BitVec.getLsbD_shiftLeft, BitVec.getLsbD_allOnes]
  by_cases h : s ≤ i
  · simp [h, hi, show ¬ i < s by omega, show i - s < 64 by omega]
  · simp [h, show i < s by omega]
theorem al_get (x : BitVec 64) (s i : Nat) (hi : i < 64) : ((x >>> s) <<< s).getLsbD i = (decide (s ≤ i) && x.getLsbD i) := by
  rw [BitVec.getLsbD_shiftLeft, BitVec.getLsbD_ushiftRight]
  by_cases h : s ≤ i
  · simp [h, hi, show ¬ i < s by omega, show s + (i - s) = i by omega]
  · simp [h, show i < s by omega]

/-! The masks of register q stay what its own definition laid. -/
/-- How many bytes a register takes. -/
def widB (k : Int) : Nat := if dbl k then 8 else 4
theorem Dv.bar_far (d : Dv) (i : Nat) (k s : Int) (j : Nat) (h : j < 16 + 4 * i ∨ 16 + 4 * i + widB k ≤ j ∨ k = 0) : (d.bar i k s).mk_ j = d.mk_ j := by
  unfold Dv.bar
  split
  · rename_i h1; subst h1; simp only [Dv.def_, putw, widB, dbl] at *; simp at h; rw [if_neg (by omega)]
  split
  · rename_i h1; subst h1; simp only [Dv.def_, putw, widB, dbl] at *; simp at h; rw [if_neg (by omega)]
  split
  · rename_i h1; subst h1; simp only [Dv.def_, putw, widB, dbl] at *; simp at h; rw [if_neg (by omega)]
  split
  · rename_i h1; subst h1; simp only [Dv.def_, putw, widB, dbl] at *; simp at h; rw [if_neg (by omega)]
  · rfl
theorem Dv.bar_at (d : Dv) (i : Nat) (k s : Int) (j : Nat) (hk : k = 1 ∨ k = 2 ∨ k = 3 ∨ k = 4) (h1 : 16 + 4 * i ≤ j) (h2 : j < 16 + 4 * i + widB k) : (d.bar i k s).mk_ j = byteOf (ones s.toNat) (j - (16 + 4 * i)) := by
  rcases hk with rfl | rfl | rfl | rfl
  · rw [show d.bar i 1 s = d.def_ (16 + 4 * i) 4 1#64 (ones s.toNat) by simp [Dv.bar]]
    show (if 16 + 4 * i ≤ j ∧ j < 16 + 4 * i + 4 then _ else _) = _
    rw [if_pos ⟨h1, h2⟩]
  · rw [show d.bar i 2 s = d.def_ (16 + 4 * i) 4 0#64 (ones s.toNat) by simp [Dv.bar]]
    show (if 16 + 4 * i ≤ j ∧ j < 16 + 4 * i + 4 then _ else _) = _
    rw [if_pos ⟨h1, h2⟩]
  · rw [show d.bar i 3 s = d.def_ (16 + 4 * i) 8 4#64 (ones s.toNat) by simp [Dv.bar]]
    show (if 16 + 4 * i ≤ j ∧ j < 16 + 4 * i + 8 then _ else _) = _
    rw [if_pos ⟨h1, h2⟩]
  · rw [show d.bar i 4 s = d.def_ (16 + 4 * i) 8 12#64 (ones s.toNat) by simp [Dv.bar]]
    show (if 16 + 4 * i ≤ j ∧ j < 16 + 4 * i + 8 then _ else _) = _
    rw [if_pos ⟨h1, h2⟩]
theorem mask_bars (f : Fh) (bs : List Br) (hv : vFn f bs = true) (d : Dv) (q : Nat) (hq : q < bs.length) (hk : (at1 ⟨0, 0⟩ bs q).k ≠ 0) (j : Nat) (h1 : 16 + 4 * q ≤ j) (h2 : j < 16 + 4 * q + widB (at1 ⟨0, 0⟩ bs q).k) :
    ∀ n, q < n → (d.bars bs n).mk_ j = byteOf (ones (at1 ⟨0, 0⟩ bs q).s.toNat) (j - (16 + 4 * q)) := by
  intro n
  induction n with
  | zero => intro h; omega
  | succ n ih =>
    intro hn
    show ((d.bars bs n).bar n (at1 ⟨0, 0⟩ bs n).k (at1 ⟨0, 0⟩ bs n).s).mk_ j = _
    by_cases e : n = q
    · subst e
      have := (vBar_range (vBar_at hv n)).2.2
      exact Dv.bar_at _ _ _ _ _ (by omega) h1 h2
    · rw [Dv.bar_far, ih (by omega)]
      by_cases hw : dbl (at1 ⟨0, 0⟩ bs q).k = true
      · have h3 := wide_at hv q hw
        by_cases e1 : n = q + 1
        · subst e1; exact .inr (.inr h3.2)
        · left
          have : widB (at1 (⟨0, 0⟩ : Br) bs q).k = 8 := by simp [widB, hw]
          omega
      · left
        have : widB (at1 (⟨0, 0⟩ : Br) bs q).k = 4 := by simp [widB, hw]
        omega
theorem bridge_m (d : Dv) (p : Bool) (j : Nat) (h : j < 24) : (d.bridge p).mk_ j = d.mk_ j := by
  unfold Dv.bridge
  cases p
  · simp only [Bool.false_eq_true, if_false, Dv.def_, putw]
    rw [if_neg (by omega), if_neg (by omega), if_neg (by omega)]
  · simp only [if_true, Dv.def_, putw]
    rw [if_neg (by omega), if_neg (by omega), if_neg (by omega), if_neg (by omega), if_neg (by omega)]
/-- The masks of register q in a valid function. -/
theorem mask_cfg (f : Fh) (v : Value) (bs : List Br) (hv : vFn f bs = true) (q : Nat) (hq : q < bs.length) (hk : (at1 ⟨0, 0⟩ bs q).k ≠ 0) (j : Nat) (h1 : 16 + 4 * q ≤ j) (h2 : j < 16 + 4 * q + widB (at1 ⟨0, 0⟩ bs q).k) :
    (cfgP f v bs).mk_ j = byteOf (ones (at1 ⟨0, 0⟩ bs q).s.toNat) (j - (16 + 4 * q)) := by
  have hm := mask_bars f bs hv (cfg0 f v) q hq hk j h1 h2 bs.length hq
  have hl := cnt_le hv
  unfold cfgP
  cases hb : f.bridge
  · exact hm
  · rw [hb] at hl
    have hl2 : bs.length ≤ 2 := by simp [cntB] at hl; omega
    have hj : j < 24 := by
      by_cases hw : dbl (at1 ⟨0, 0⟩ bs q).k = true
      · have h3 := (wide_at hv q hw).1
        have : widB (at1 (⟨0, 0⟩ : Br) bs q).k = 8 := by simp [widB, hw]
        omega
      · have : widB (at1 (⟨0, 0⟩ : Br) bs q).k = 4 := by simp [widB, hw]
        omega
    simp only [if_true]
    rw [bridge_m _ _ _ hj]
    show (if 14 ≤ j ∧ j < 14 + 1 then _ else _) = _
    rw [if_neg (by omega)]
    exact hm
/-- A bit of a written byte. -/
theorem wrw_get (h mk : Nat → BitVec 8) (o n : Nat) (v : BitVec 64) (j b : Nat) (hj : o ≤ j ∧ j < o + n) (hb : b < 8) :
    (wrw h mk o n v j).getLsbD b = (((h j).getLsbD b && !(mk j).getLsbD b) || (v.getLsbD (8 * (j - o) + b) && (mk j).getLsbD b)) := by
  unfold wrw
  rw [if_pos hj, BitVec.getLsbD_or, BitVec.getLsbD_and, BitVec.getLsbD_and, BitVec.getLsbD_not, byteOf_get _ _ _ hb]
  simp [hb]
theorem wrw_far (h mk : Nat → BitVec 8) (o n : Nat) (v : BitVec 64) (j : Nat) (hj : j < o ∨ o + n ≤ j) : wrw h mk o n v j = h j := by
  unfold wrw; rw [if_neg (by omega)]
end Go.Proofs.YtolbecinjajejaaDoor
