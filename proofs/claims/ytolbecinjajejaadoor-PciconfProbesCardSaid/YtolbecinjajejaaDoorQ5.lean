/- What sized reads of the registers of a valid function. -/
import Derived.Test.YtolbecinjajejaaDoorQ4
set_option linter.unusedVariables false
set_option linter.unusedSimpArgs false
namespace Go.Proofs.YtolbecinjajejaaDoor
open Go.RowKit Go.My

theorem siz_own (f : Fh) (v : Value) (bs : List Br) (hv : vFn f bs = true) (q : Nat) (hq : q < bs.length) (k : Int) (s : Nat) (hx : at1 ⟨0, 0⟩ bs q = ⟨k, s⟩) (hk : k ≠ 0) (i : Nat) (hi : i < 64) :
    (sizV (cfgP f v bs) (16 + 4 * q)).getLsbD i = (decide (i < 32) && (decide (s ≤ i) || (fixB k).getLsbD i)) := by
  have hm := mask_cfg f v bs hv q hq (by rw [hx]; exact hk)
  have hf := fix_cfg f v bs hv q hq (by rw [hx]; exact hk)
  rw [hx] at hm hf
  simp only [Int.toNat_natCast] at hm hf
  have hw : 4 ≤ widB k := by unfold widB; split <;> omega
  rw [siz_get _ _ _ hi]
  by_cases h : i < 32
  · rw [hm _ (by omega) (by omega), hf _ (by omega) (by omega), byteOf_get _ _ _ (by omega), byteOf_get _ _ _ (by omega)]
    rw [show 8 * (16 + 4 * q + i / 8 - (16 + 4 * q)) + i % 8 = i by omega, ones_get _ _ hi]
    cases (fixB k).getLsbD i <;> by_cases hs : s ≤ i <;> simp [h, hs]
  · simp [h]
theorem siz_high (f : Fh) (v : Value) (bs : List Br) (hv : vFn f bs = true) (q : Nat) (hq : q < bs.length) (k : Int) (s : Nat) (hx : at1 ⟨0, 0⟩ bs q = ⟨k, s⟩) (hk : dbl k = true) (i : Nat) (hi : i < 64) :
    (sizV (cfgP f v bs) (16 + 4 * (q + 1))).getLsbD i = (decide (i < 32) && decide (s ≤ 32 + i)) := by
  have hk0 : k ≠ 0 := by intro e; subst e; cases hk
  have hm := mask_cfg f v bs hv q hq (by rw [hx]; exact hk0)
  have hf := fix_cfg f v bs hv q hq (by rw [hx]; exact hk0)
  rw [hx] at hm hf
  simp only [Int.toNat_natCast] at hm hf
  have hw : widB k = 8 := by simp [widB, hk]
  have hz : ∀ i, 32 ≤ i → i < 64 → (fixB k).getLsbD i = false := by
    intro i h1 h2
    have h : ∀ i, i < 64 → 32 ≤ i → (1#64).getLsbD i = false ∧ (4#64).getLsbD i = false ∧ (12#64).getLsbD i = false ∧ (0#64).getLsbD i = false := by decide +kernel
    obtain ⟨a, b, c, d⟩ := h i h2 h1
    unfold fixB
    split
    · exact a
    split
    · exact b
    split
    · exact c
    · exact d
  rw [siz_get _ _ _ hi]
  by_cases h : i < 32
  · rw [hm _ (by omega) (by omega), hf _ (by omega) (by omega), byteOf_get _ _ _ (by omega), byteOf_get _ _ _ (by omega)]
    rw [show 8 * (16 + 4 * (q + 1) + i / 8 - (16 + 4 * q)) + i % 8 = 32 + i by omega, ones_get _ _ (by omega), hz _ (by omega) (by omega)]
    by_cases hs : s ≤ 32 + i <;> simp [h, hs]
  · simp [h]
theorem siz_none (f : Fh) (v : Value) (bs : List Br) (q : Nat) (hq : (q : Int) < cntB f.bridge) (hk : (at1 ⟨0, 0⟩ bs q).k = 0) (hp : ∀ p, p + 1 = q → dbl (at1 ⟨0, 0⟩ bs p).k = false) :
    sizV (cfgP f v bs) (16 + 4 * q) = 0#64 := by
  apply BitVec.eq_of_getLsbD_eq
  intro i hi
  rw [siz_get _ _ _ hi]
  by_cases h : i < 32
  · have h0 := none_cfg f v bs q hq hk hp (16 + 4 * q + i / 8) (by omega) (by omega)
    rw [h0.1, h0.2]
    simp
  · simp [h]
end Go.Proofs.YtolbecinjajejaaDoor
