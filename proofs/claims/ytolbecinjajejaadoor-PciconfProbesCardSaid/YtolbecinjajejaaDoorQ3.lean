/- What sized tells of a register: plain facts by bits. -/
import Derived.Test.YtolbecinjajejaaDoorQ2
set_option linter.unusedVariables false
set_option linter.unusedSimpArgs false
namespace Go.Proofs.YtolbecinjajejaaDoor
open Go.RowKit Go.My

theorem low32 (i : Nat) (hi : i < 64) : (0xFFFFFFFF#64).getLsbD i = decide (i < 32) := by
  have h : ∀ i, i < 64 → (0xFFFFFFFF#64).getLsbD i = decide (i < 32) := by decide +kernel
  exact h i hi
/-- A bit of what is read: the mask's, or the fixed one. -/
theorem siz_get (d : Dv) (o i : Nat) (hi : i < 64) : (sizV d o).getLsbD i = (decide (i < 32) && (((d.by_ (o + i / 8)).getLsbD (i % 8) && !(d.mk_ (o + i / 8)).getLsbD (i % 8)) || (d.mk_ (o + i / 8)).getLsbD (i % 8))) := by
  unfold sizV
  rw [rdw_get _ _ 4 (by omega) i hi]
  by_cases h : i < 32
  · show (decide (i < 8 * 4) && (wrw d.by_ d.mk_ o 4 0xFFFFFFFF#64 (o + i / 8)).getLsbD (i % 8)) = _
    rw [wrw_get _ _ _ _ _ _ _ (by omega) (by omega), low32 _ (by omega)]
    simp [h, show i < 8 * 4 by omega, show 8 * (i / 8) + i % 8 < 32 by omega]
  · simp [h, show ¬ i < 8 * 4 by omega]
/-- The same in a state that only writes have led to. -/
theorem siz_stays {c d : Dv} (h : Stays c d) (o : Nat) : sizV d o = sizV c o := by
  apply BitVec.eq_of_getLsbD_eq
  intro i hi
  rw [siz_get d o i hi, siz_get c o i hi, h.2.2.1]
  have := congrArg (fun x => BitVec.getLsbD x (i % 8)) (h.2.2.2 (o + i / 8))
  simp only [BitVec.getLsbD_and, BitVec.getLsbD_not, show i % 8 < 8 by omega, decide_true, Bool.true_and] at this
  rw [this]
/-- The fixed bits of a kind. -/
def fixB (k : Int) : BitVec 64 := if k = 1 then 1#64 else if k = 3 then 4#64 else if k = 4 then 12#64 else 0#64
theorem Dv.bar_far2 (d : Dv) (i : Nat) (k s : Int) (j : Nat) (h : j < 16 + 4 * i ∨ 16 + 4 * i + widB k ≤ j ∨ k = 0) : (d.bar i k s).by_ j = d.by_ j := by
  unfold Dv.bar
  split
  · rename_i h1; subst h1; simp only [Dv.def_, putw, widB, dbl] at *; simp at h; rw [if_neg (by omega)]
  split
  · rename_i h1; subst h1; simp only [Dv.def_, putw, widB, dbl] at *; simp at h; rw [if_neg (by omega)]
  split
  · rename_i h1; subst h1; simp only [Dv.def_, putw, widB, dbl] at *; simp at h; rw [if_neg (by omega)]
  split
  · rename_i h1; subst h1; simp only [Dv.def_, putw, widB, dbl] at *; simp at h; rw [if_neg (by omega)]
  · rfl
theorem Dv.bar_at2 (d : Dv) (i : Nat) (k s : Int) (j : Nat) (hk : k = 1 ∨ k = 2 ∨ k = 3 ∨ k = 4) (h1 : 16 + 4 * i ≤ j) (h2 : j < 16 + 4 * i + widB k) : (d.bar i k s).by_ j = byteOf (fixB k) (j - (16 + 4 * i)) := by
  rcases hk with rfl | rfl | rfl | rfl
  · rw [show d.bar i 1 s = d.def_ (16 + 4 * i) 4 1#64 (ones s.toNat) by simp [Dv.bar]]
    show (if 16 + 4 * i ≤ j ∧ j < 16 + 4 * i + 4 then _ else _) = _
    rw [if_pos ⟨h1, h2⟩]; rfl
  · rw [show d.bar i 2 s = d.def_ (16 + 4 * i) 4 0#64 (ones s.toNat) by simp [Dv.bar]]
    show (if 16 + 4 * i ≤ j ∧ j < 16 + 4 * i + 4 then _ else _) = _
    rw [if_pos ⟨h1, h2⟩]; rfl
  · rw [show d.bar i 3 s = d.def_ (16 + 4 * i) 8 4#64 (ones s.toNat) by simp [Dv.bar]]
    show (if 16 + 4 * i ≤ j ∧ j < 16 + 4 * i + 8 then _ else _) = _
    rw [if_pos ⟨h1, h2⟩]; rfl
  · rw [show d.bar i 4 s = d.def_ (16 + 4 * i) 8 12#64 (ones s.toNat) by simp [Dv.bar]]
    show (if 16 + 4 * i ≤ j ∧ j < 16 + 4 * i + 8 then _ else _) = _
    rw [if_pos ⟨h1, h2⟩]; rfl
end Go.Proofs.YtolbecinjajejaaDoor
