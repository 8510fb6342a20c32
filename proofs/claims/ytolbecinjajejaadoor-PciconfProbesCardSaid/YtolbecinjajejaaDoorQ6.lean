/- The kind and the size that Probe finds. -/
import Derived.Test.YtolbecinjajejaaDoorQ5
set_option linter.unusedVariables false
set_option linter.unusedSimpArgs false
namespace Go.Proofs.YtolbecinjajejaaDoor
open Go.RowKit Go.My

/-- The smallest bit that is set is number k. -/
def LowB (x : BitVec 64) (k : Nat) : Prop := k < 64 ∧ x.getLsbD k = true ∧ ∀ j, j < k → x.getLsbD j = false
/-- x reads as the first half of a register of this kind and size. -/
def Half (x : BitVec 64) (k : Int) (s : Nat) : Prop := ∀ i, i < 64 → x.getLsbD i = (decide (i < 32) && (decide (s ≤ i) || (fixB k).getLsbD i))
theorem lit_get (n : BitVec 64) (P : Nat → Bool) (h : ∀ i, i < 64 → n.getLsbD i = P i) (i : Nat) (hi : i < 64) : n.getLsbD i = P i := h i hi
theorem g1 (i : Nat) (hi : i < 64) : (1#64).getLsbD i = decide (i = 0) := by
  have h : ∀ i, i < 64 → (1#64).getLsbD i = decide (i = 0) := by decide +kernel
  exact h i hi
theorem g4 (i : Nat) (hi : i < 64) : (4#64).getLsbD i = decide (i = 2) := by
  have h : ∀ i, i < 64 → (4#64).getLsbD i = decide (i = 2) := by decide +kernel
  exact h i hi
theorem g12 (i : Nat) (hi : i < 64) : (12#64).getLsbD i = (decide (i = 2) || decide (i = 3)) := by
  have h : ∀ i, i < 64 → (12#64).getLsbD i = (decide (i = 2) || decide (i = 3)) := by decide +kernel
  exact h i hi
theorem g15 (i : Nat) (hi : i < 64) : (15#64).getLsbD i = decide (i < 4) := by
  have h : ∀ i, i < 64 → (15#64).getLsbD i = decide (i < 4) := by decide +kernel
  exact h i hi
theorem low_io {x : BitVec 64} {s : Nat} (h : Half x 1 s) (h1 : 2 ≤ s) (h2 : s ≤ 8) : LowB (x &&& ~~~1#64) s := by
  refine ⟨by omega, ?_, fun j hj => ?_⟩
  · rw [BitVec.getLsbD_and, BitVec.getLsbD_not, h s (by omega), g1 s (by omega)]
    simp [show s < 32 by omega, show s < 64 by omega, show s ≠ 0 by omega]
  · rw [BitVec.getLsbD_and, BitVec.getLsbD_not, h j (by omega), show fixB 1 = 1#64 from rfl, g1 j (by omega)]
    by_cases e : j = 0 <;> simp [e, show ¬ s ≤ j by omega]
theorem low_mem {x : BitVec 64} {s : Nat} (h : Half x 2 s) (h1 : 4 ≤ s) (h2 : s ≤ 31) : LowB x s := by
  have hz : fixB 2 = 0#64 := rfl
  refine ⟨by omega, ?_, fun j hj => ?_⟩
  · rw [h s (by omega)]; simp [show s < 32 by omega]
  · rw [h j (by omega), hz]; simp [show ¬ s ≤ j by omega]
theorem low_wide {x y : BitVec 64} {k : Int} {s : Nat} (h : Half x k s) (hk : k = 3 ∨ k = 4) (hy : ∀ i, i < 64 → y.getLsbD i = (decide (i < 32) && decide (s ≤ 32 + i))) (h1 : 4 ≤ s) (h2 : s ≤ 40) :
    LowB ((x &&& ~~~15#64) ||| (y <<< 32)) s := by
  have hf : ∀ i, i < 64 → 4 ≤ i → (fixB k).getLsbD i = false := by
    intro i hi h4
    rcases hk with rfl | rfl
    · rw [show fixB 3 = 4#64 from rfl, g4 i hi]; simp; omega
    · rw [show fixB 4 = 12#64 from rfl, g12 i hi]; simp; omega
  have hb : ∀ i, i < 64 → ((x &&& ~~~15#64) ||| (y <<< 32)).getLsbD i = (decide (4 ≤ i) && decide (s ≤ i)) := by
    intro i hi
    rw [BitVec.getLsbD_or, BitVec.getLsbD_and, BitVec.getLsbD_not, BitVec.getLsbD_shiftLeft, h i hi, g15 i hi]
    by_cases h4 : 4 ≤ i
    · rw [hf i hi h4]
      by_cases h32 : i < 32
      · simp [h4, h32, hi, show ¬ i < 4 by omega]
      · rw [hy (i - 32) (by omega)]
        simp [h4, h32, hi, show ¬ i < 4 by omega, show i - 32 < 32 by omega, show 32 + (i - 32) = i by omega]
    · simp [h4, hi, show i < 4 by omega, show i < 32 by omega]
  refine ⟨by omega, ?_, fun j hj => ?_⟩
  · rw [hb s (by omega)]; simp [h1]
  · rw [hb j (by omega)]; simp [show ¬ s ≤ j by omega]
/-- The tests of Probe. -/
theorem bit_ne0 {x : BitVec 64} {i : Nat} (h : x.getLsbD i = true) : x ≠ 0#64 := by intro e; subst e; simp at h
theorem half_one {x : BitVec 64} {k : Int} {s : Nat} (h : Half x k s) (hs : 2 ≤ s) : (x &&& 1#64 = 0#64) ↔ k ≠ 1 := by
  constructor
  · intro e hk
    subst hk
    have h0 := congrArg (fun z => BitVec.getLsbD z 0) e
    simp only [BitVec.getLsbD_and, h 0 (by omega), show fixB 1 = 1#64 from rfl] at h0
    simp at h0
  · intro hk
    apply BitVec.eq_of_getLsbD_eq
    intro i hi
    rw [BitVec.getLsbD_and, g1 i hi, h i hi]
    by_cases e : i = 0
    · subst e
      have : (fixB k).getLsbD 0 = false := by
        unfold fixB
        rw [if_neg hk]
        split
        · rfl
        split
        · rfl
        · rfl
      rw [this]
      simp [show ¬ s ≤ 0 by omega]
    · simp [e]
end Go.Proofs.YtolbecinjajejaaDoor
