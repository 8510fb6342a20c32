/- math/bits.TrailingZeros64: the smallest bit that is set. -/
import Derived.Test.YtolbecinjajejaaDoorG0
import Derived.Test.YtolbecinjajejaaDoorProg
set_option linter.unusedVariables false
set_option linter.unusedSimpArgs false
namespace Go.My
open Go.RowKit

theorem low_exists (x : BitVec 64) (h : x ≠ 0#64) : ∃ k, k < 64 ∧ x.getLsbD k = true ∧ ∀ j, j < k → x.getLsbD j = false := by
  have h1 : ∃ k, x.getLsbD k = true := by
    rcases Classical.em (∃ k, x.getLsbD k = true) with h1 | h1
    · exact h1
    · exfalso
      apply h
      ext j hj
      cases hb : x.getLsbD j with
      | true => exact absurd ⟨j, hb⟩ h1
      | false => rw [← BitVec.getLsbD_eq_getElem, hb]; simp
  obtain ⟨k, hk⟩ := h1
  induction k using Nat.strongRecOn with
  | _ k ih =>
    rcases Classical.em (∃ j, j < k ∧ x.getLsbD j = true) with h2 | h2
    · obtain ⟨j, hj, hb⟩ := h2
      exact ih j hj hb
    · refine ⟨k, ?_, hk, fun j hj => ?_⟩
      · exact BitVec.lt_of_getLsbD hk
      · cases hb : x.getLsbD j with
        | false => rfl
        | true => exact absurd ⟨j, hj, hb⟩ h2

theorem low_split (x : BitVec 64) (k : Nat) (h1 : x.getLsbD k = true) (h2 : ∀ j, j < k → x.getLsbD j = false) : ∃ q, x.toNat = 2 ^ (k + 1) * q + 2 ^ k := by
  refine ⟨x.toNat / 2 ^ (k + 1), ?_⟩
  have h3 : x.toNat % 2 ^ (k + 1) = 2 ^ k := by
    apply Nat.eq_of_testBit_eq
    intro i
    rw [Nat.testBit_mod_two_pow, Nat.testBit_two_pow]
    by_cases hi : i < k
    · have := h2 i hi
      rw [BitVec.getLsbD] at this
      simp [this]; omega
    · by_cases he : i = k
      · subst he
        rw [BitVec.getLsbD] at h1
        simp [h1]
      · have h5 : ¬ i < k + 1 := by omega
        have h6 : ¬ k = i := by omega
        simp [h5, h6]
  have := Nat.div_add_mod x.toNat (2 ^ (k + 1))
  omega

theorem and_neg_low (x : BitVec 64) (k : Nat) (hk : k < 64) (h1 : x.getLsbD k = true) (h2 : ∀ j, j < k → x.getLsbD j = false) : x &&& -x = bit1 k := by
  obtain ⟨q, hq⟩ := low_split x k h1 h2
  have hp : 0 < 2 ^ k := Nat.two_pow_pos k
  have hs : (x - 1#64).toNat = 2 ^ (k + 1) * q + (2 ^ k - 1) := by
    have hx := x.isLt
    rw [BitVec.toNat_sub]
    simp only [BitVec.toNat_ofNat]
    omega
  have hneg : -x = ~~~(x - 1#64) := by
    rw [BitVec.neg_eq_not_add]
    apply BitVec.eq_of_toNat_eq
    have hx := x.isLt
    have h5 : (x - 1#64).toNat = x.toNat - 1 := by rw [hs, hq]; omega
    have hx1 : 1 ≤ x.toNat := by rw [hq]; omega
    rw [BitVec.toNat_not, h5, BitVec.toNat_add, BitVec.toNat_not]
    simp only [BitVec.toNat_ofNat]
    omega
  rw [hneg]
  ext j hj
  rw [← BitVec.getLsbD_eq_getElem, ← BitVec.getLsbD_eq_getElem, BitVec.getLsbD_and, BitVec.getLsbD_not, bit1_get _ _ hk]
  have hb : (x - 1#64).getLsbD j = (if j < k + 1 then decide (j < k) else q.testBit (j - (k + 1))) := by
    rw [BitVec.getLsbD, hs, Nat.testBit_two_pow_mul_add _ (by have : 2 ^ k < 2 ^ (k + 1) := Nat.pow_lt_pow_right (by omega) (by omega); omega)]
    rw [Nat.testBit_two_pow_sub_one]
  have hx : x.getLsbD j = (if j < k + 1 then decide (k = j) else q.testBit (j - (k + 1))) := by
    rw [BitVec.getLsbD, hq, Nat.testBit_two_pow_mul_add _ (Nat.pow_lt_pow_right (by omega) (by omega)), Nat.testBit_two_pow]
  rw [hb, hx]
  by_cases hjk : j < k + 1
  · rw [if_pos hjk, if_pos hjk]
    by_cases he : k = j
    · subst he; simp [hk]
    · simp [he]
  · rw [if_neg hjk, if_neg hjk]
    have : ¬ k = j := by omega
    simp [this]
    try (cases q.testBit (j - (k + 1)) <;> simp)

theorem wrap_neg (x : BitVec 64) : IntKind.u64.wrap (-un x) = un (-x) := by
  rw [IntKind.wrap_u64]
  unfold un
  rw [BitVec.toNat_neg]
  have := x.isLt
  by_cases h : x.toNat = 0
  · simp [h]
  · omega

/-- Go's table of the positions. -/
def tabL : List Int := [0, 1, 56, 2, 57, 49, 28, 3, 61, 58, 42, 50, 38, 29, 17, 4, 62, 47, 59, 36, 45, 43, 51, 22, 53, 39, 33, 30, 24, 18, 12, 5, 63, 55, 48, 27, 60, 41, 37, 16, 46, 35, 44, 21, 52, 32, 23, 11, 54, 26, 40, 15, 34, 20, 31, 10, 25, 14, 19, 9, 13, 8, 7, 6]
def idxT (k : Nat) : Nat := (2 ^ k * 285870213051353865 % 18446744073709551616) / 288230376151711744
theorem idxT_ok : ∀ k, k < 64 → idxT k < 64 ∧ tabL.getD (idxT k) 0 = (k : Int) := by decide +kernel

theorem idx_eq (x : BitVec 64) (k : Nat) (hk : k < 64) (h1 : x.getLsbD k = true) (h2 : ∀ j, j < k → x.getLsbD j = false) :
    IntKind.u64.wrap (bits .and .u64 (un x) (IntKind.u64.wrap (-un x)) * 285870213051353865) / 288230376151711744 = (idxT k : Int) := by
  rw [wrap_neg, bits_and, and_neg_low x k hk h1 h2, IntKind.wrap_u64]
  unfold un bit1 idxT
  rw [BitVec.toNat_shiftLeft, Nat.shiftLeft_eq]
  have h3 : 2 ^ k < 2 ^ 64 := Nat.pow_lt_pow_right (by omega) hk
  have e1 : (1#64).toNat * 2 ^ k % 2 ^ 64 = 2 ^ k := by
    rw [show (1#64).toNat = 1 from rfl, Nat.one_mul]
    exact Nat.mod_eq_of_lt h3
  rw [e1]
  generalize 2 ^ k = m
  omega

end Go.My
