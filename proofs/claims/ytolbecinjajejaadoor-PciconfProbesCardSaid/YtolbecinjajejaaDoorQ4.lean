/- The registers' fixed bits, and registers that are none. -/
import Derived.Test.YtolbecinjajejaaDoorQ3
set_option linter.unusedVariables false
set_option linter.unusedSimpArgs false
namespace Go.Proofs.YtolbecinjajejaaDoor
open Go.RowKit Go.My

theorem fix_bars (f : Fh) (bs : List Br) (hv : vFn f bs = true) (d : Dv) (q : Nat) (hq : q < bs.length) (hk : (at1 ⟨0, 0⟩ bs q).k ≠ 0) (j : Nat) (h1 : 16 + 4 * q ≤ j) (h2 : j < 16 + 4 * q + widB (at1 ⟨0, 0⟩ bs q).k) :
    ∀ n, q < n → (d.bars bs n).by_ j = byteOf (fixB (at1 ⟨0, 0⟩ bs q).k) (j - (16 + 4 * q)) := by
  intro n
  induction n with
  | zero => intro h; omega
  | succ n ih =>
    intro hn
    show ((d.bars bs n).bar n (at1 ⟨0, 0⟩ bs n).k (at1 ⟨0, 0⟩ bs n).s).by_ j = _
    by_cases e : n = q
    · subst e
      have := (vBar_range (vBar_at hv n)).2.2
      exact Dv.bar_at2 _ _ _ _ _ (by omega) h1 h2
    · rw [Dv.bar_far2, ih (by omega)]
      by_cases hw : dbl (at1 ⟨0, 0⟩ bs q).k = true
      · have h3 := wide_at hv q hw
        by_cases e1 : n = q + 1
        · subst e1; exact .inr (.inr h3.2)
        · left
          have : widB (at1 (⟨0, 0⟩ : Br) bs q).k = 8 := by simp [widB, hw]
          omega
      · left
        have : widB (at1 (⟨0, 0⟩ : Br) bs q).k = 4 := by simp [widB, hw]
        omega
theorem bridge_b (d : Dv) (p : Bool) (j : Nat) (h : j < 24) : (d.bridge p).by_ j = d.by_ j := by
  unfold Dv.bridge
  cases p
  · simp only [Bool.false_eq_true, if_false, Dv.def_, putw]
    rw [if_neg (by omega), if_neg (by omega), if_neg (by omega)]
  · simp only [if_true, Dv.def_, putw]
    rw [if_neg (by omega), if_neg (by omega), if_neg (by omega), if_neg (by omega), if_neg (by omega)]
theorem fix_cfg (f : Fh) (v : Value) (bs : List Br) (hv : vFn f bs = true) (q : Nat) (hq : q < bs.length) (hk : (at1 ⟨0, 0⟩ bs q).k ≠ 0) (j : Nat) (h1 : 16 + 4 * q ≤ j) (h2 : j < 16 + 4 * q + widB (at1 ⟨0, 0⟩ bs q).k) :
    (cfgP f v bs).by_ j = byteOf (fixB (at1 ⟨0, 0⟩ bs q).k) (j - (16 + 4 * q)) := by
  have hm := fix_bars f bs hv (cfg0 f v) q hq hk j h1 h2 bs.length hq
  have hl := cnt_le hv
  unfold cfgP
  cases hb : f.bridge
  · exact hm
  · rw [hb] at hl
    have hl2 : bs.length ≤ 2 := by simp [cntB] at hl; omega
    have hj : j < 24 := by
      by_cases hw : dbl (at1 ⟨0, 0⟩ bs q).k = true
      · have h3 := (wide_at hv q hw).1
        have : widB (at1 (⟨0, 0⟩ : Br) bs q).k = 8 := by simp [widB, hw]
        omega
      · have : widB (at1 (⟨0, 0⟩ : Br) bs q).k = 4 := by simp [widB, hw]
        omega
    simp only [if_true]
    rw [bridge_b _ _ _ hj]
    show (if 14 ≤ j ∧ j < 14 + 1 then _ else _) = _
    rw [if_neg (by omega)]
    exact hm
/-- A register that is none, and not the second half of a wide one: nothing is laid there. -/
theorem none_bars (bs : List Br) (d : Dv) (q : Nat) (hk : (at1 ⟨0, 0⟩ bs q).k = 0) (hp : ∀ p, p + 1 = q → dbl (at1 ⟨0, 0⟩ bs p).k = false) (j : Nat) (h1 : 16 + 4 * q ≤ j) (h2 : j < 16 + 4 * q + 4) :
    ∀ n, (d.bars bs n).by_ j = d.by_ j ∧ (d.bars bs n).mk_ j = d.mk_ j := by
  intro n
  induction n with
  | zero => exact ⟨rfl, rfl⟩
  | succ n ih =>
    have hfar : j < 16 + 4 * n ∨ 16 + 4 * n + widB (at1 (⟨0, 0⟩ : Br) bs n).k ≤ j ∨ (at1 (⟨0, 0⟩ : Br) bs n).k = 0 := by
      by_cases e : n = q
      · subst e; exact .inr (.inr hk)
      · by_cases hn : q < n
        · left; omega
        · right; left
          by_cases e1 : n + 1 = q
          · have : widB (at1 (⟨0, 0⟩ : Br) bs n).k = 4 := by simp [widB, hp n e1]
            omega
          · have : widB (at1 (⟨0, 0⟩ : Br) bs n).k ≤ 8 := by unfold widB; split <;> omega
            omega
    exact ⟨(Dv.bar_far2 _ _ _ _ _ hfar).trans ih.1, (Dv.bar_far _ _ _ _ _ hfar).trans ih.2⟩
theorem none_cfg (f : Fh) (v : Value) (bs : List Br) (q : Nat) (hq : (q : Int) < cntB f.bridge) (hk : (at1 ⟨0, 0⟩ bs q).k = 0) (hp : ∀ p, p + 1 = q → dbl (at1 ⟨0, 0⟩ bs p).k = false) (j : Nat) (h1 : 16 + 4 * q ≤ j) (h2 : j < 16 + 4 * q + 4) :
    (cfgP f v bs).by_ j = 0#8 ∧ (cfgP f v bs).mk_ j = 0#8 := by
  have hj : j < 48 := by unfold cntB at hq; split at hq <;> omega
  have h0 : (cfg0 f v).by_ j = 0#8 ∧ (cfg0 f v).mk_ j = 0#8 := by
    unfold cfg0
    simp only [Dv.def_, putw]
    rw [if_neg (by omega), if_neg (by omega), if_neg (by omega), if_neg (by omega), if_neg (by omega), if_neg (by omega), if_neg (by omega), if_neg (by omega), if_neg (by omega), if_neg (by omega)]
    exact ⟨rfl, rfl⟩
  have hb := none_bars bs (cfg0 f v) q hk hp j h1 h2 bs.length
  unfold cfgP
  cases hbr : f.bridge
  · exact ⟨hb.1.trans h0.1, hb.2.trans h0.2⟩
  · rw [hbr] at hq
    have hj2 : j < 24 := by simp [cntB] at hq; omega
    simp only [if_true]
    rw [bridge_b _ _ _ hj2, bridge_m _ _ _ hj2]
    show (if 14 ≤ j ∧ j < 14 + 1 then _ else _) = _ ∧ (if 14 ≤ j ∧ j < 14 + 1 then _ else _) = _
    rw [if_neg (by omega), if_neg (by omega)]
    exact ⟨hb.1.trans h0.1, hb.2.trans h0.2⟩
end Go.Proofs.YtolbecinjajejaaDoor
