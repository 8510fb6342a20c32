/- The tests that Probe makes, as the walk spells them. -/
import Derived.Test.YtolbecinjajejaaDoorQ6
set_option linter.unusedVariables false
set_option linter.unusedSimpArgs false
namespace Go.Proofs.YtolbecinjajejaaDoor
open Go.RowKit Go.My

theorem half_four {x : BitVec 64} {k : Int} {s : Nat} (h : Half x k s) (hs : 3 ≤ s) : (x &&& 4#64 = 0#64) ↔ ¬ (k = 3 ∨ k = 4) := by
  have hb : (fixB k).getLsbD 2 = decide (k = 3 ∨ k = 4) := by
    unfold fixB
    by_cases h1 : k = 1
    · subst h1; rfl
    by_cases h3 : k = 3
    · subst h3; rfl
    by_cases h4 : k = 4
    · subst h4; rfl
    rw [if_neg h1, if_neg h3, if_neg h4]
    simp [h3, h4]
  constructor
  · intro e hk
    have h0 := congrArg (fun z => BitVec.getLsbD z 2) e
    simp only [BitVec.getLsbD_and, h 2 (by omega), hb, hk, g4 2 (by omega)] at h0
    simp at h0
  · intro hk
    apply BitVec.eq_of_getLsbD_eq
    intro i hi
    rw [BitVec.getLsbD_and, g4 i hi, h i hi]
    by_cases e : i = 2
    · subst e
      rw [hb]
      simp [hk, show ¬ s ≤ 2 by omega]
    · simp [e]
theorem half_twelve {x : BitVec 64} {k : Int} {s : Nat} (h : Half x k s) (hk : k = 3 ∨ k = 4) (hs : 4 ≤ s) : (x &&& 12#64 = 12#64) ↔ k = 4 := by
  constructor
  · intro e
    rcases hk with rfl | rfl
    · exfalso
      have h0 := congrArg (fun z => BitVec.getLsbD z 3) e
      simp only [BitVec.getLsbD_and, h 3 (by omega), show fixB 3 = 4#64 from rfl, g4 3 (by omega), g12 3 (by omega)] at h0
      simp at h0
      omega
    · rfl
  · intro e
    subst e
    apply BitVec.eq_of_getLsbD_eq
    intro i hi
    rw [BitVec.getLsbD_and, g12 i hi, h i hi, show fixB 4 = 12#64 from rfl, g12 i hi]
    by_cases e2 : i = 2
    · subst e2; simp
    · by_cases e3 : i = 3
      · subst e3; simp
      · simp [e2, e3]
theorem un_eq0 (x : BitVec 64) : (un x == 0) = decide (x = 0#64) := by
  by_cases h : x = 0#64
  · subst h; rfl
  · have h1 : un x ≠ 0 := fun e => h (un_inj (e.trans rfl))
    simp [h, h1]
theorem test_one (x : BitVec 64) : (bits .and .u64 (un x) 1 != 0) = !decide (x &&& 1#64 = 0#64) := by
  rw [show (1 : Int) = un 1#64 from rfl, bits_and, ← un_eq0]; rfl
theorem test_four (x : BitVec 64) : (bits .and .u64 (un x) 4 == 0) = decide (x &&& 4#64 = 0#64) := by
  rw [show (4 : Int) = un 4#64 from rfl, bits_and, ← un_eq0]
theorem test_twelve (x : BitVec 64) : (bits .and .u64 (un x) 12 == 12) = decide (x &&& 12#64 = 12#64) := by
  rw [show (12 : Int) = un 12#64 from rfl, bits_and]
  by_cases h : x &&& 12#64 = 12#64
  · rw [h]; simp
  · have h1 : un (x &&& 12#64) ≠ un 12#64 := fun e => h (un_inj e)
    simp [h, h1]
end Go.Proofs.YtolbecinjajejaaDoor
