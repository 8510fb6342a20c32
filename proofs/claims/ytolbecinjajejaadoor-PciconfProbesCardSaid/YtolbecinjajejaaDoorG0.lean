/- Numbers of 64 bits as bit vectors: what Go's bit operations do to them. -/
import Derived.Test.YtolbecinjajejaaDoorL0
set_option linter.unusedVariables false
namespace Go.My
open Go.RowKit

/-- A word of 64 bits as the walk's number. -/
def un (b : BitVec 64) : Int := (b.toNat : Int)
theorem un_nonneg (b : BitVec 64) : 0 ≤ un b := Int.natCast_nonneg _
theorem un_lt (b : BitVec 64) : un b < 18446744073709551616 := by have := b.isLt; unfold un; omega
theorem un_inj {a b : BitVec 64} (h : un a = un b) : a = b := by unfold un at h; exact BitVec.eq_of_toNat_eq (by omega)
theorem ofInt_un (b : BitVec 64) : BitVec.ofInt 64 (un b) = b := by
  unfold un; rw [BitVec.ofInt_natCast]; simp
theorem wrap_un (b : BitVec 64) : IntKind.u64.wrap (un b) = un b := by
  rw [IntKind.wrap_u64]; have := un_lt b; have := un_nonneg b; omega
theorem bits_and (a b : BitVec 64) : bits .and .u64 (un a) (un b) = un (a &&& b) := by
  show IntKind.u64.wrap ((BitVec.ofInt 64 (un a) &&& BitVec.ofInt 64 (un b)).toNat : Int) = _
  rw [ofInt_un, ofInt_un]; exact wrap_un _
theorem bits_or (a b : BitVec 64) : bits .or .u64 (un a) (un b) = un (a ||| b) := by
  show IntKind.u64.wrap ((BitVec.ofInt 64 (un a) ||| BitVec.ofInt 64 (un b)).toNat : Int) = _
  rw [ofInt_un, ofInt_un]; exact wrap_un _
theorem bits_andNot (a b : BitVec 64) : bits .andNot .u64 (un a) (un b) = un (a &&& ~~~b) := by
  show IntKind.u64.wrap ((BitVec.ofInt 64 (un a) &&& ~~~BitVec.ofInt 64 (un b)).toNat : Int) = _
  rw [ofInt_un, ofInt_un]; exact wrap_un _
/-- One bit. -/
def bit1 (i : Nat) : BitVec 64 := 1#64 <<< i
theorem wrap_pow (i : Nat) : IntKind.u64.wrap (2 ^ i) = un (bit1 i) := by
  rw [IntKind.wrap_u64]
  unfold un bit1
  rw [BitVec.toNat_shiftLeft, Nat.shiftLeft_eq]
  simp
theorem bit1_get (i j : Nat) (hi : i < 64) : (bit1 i).getLsbD j = decide (i = j) := by
  unfold bit1
  rw [BitVec.getLsbD_shiftLeft]
  by_cases h : i = j
  · subst h; simp [hi]
  · by_cases hj : j < i
    · simp [hj, h]
    · by_cases h64 : j < 64
      · have : ¬ (j - i = 0) := by omega
        simp [hj, h, this, BitVec.getLsbD_one]
      · simp [h64, h]
theorem div_pow (a : BitVec 64) (i : Nat) : un a / 2 ^ i = un (a >>> i) := by
  unfold un
  rw [BitVec.toNat_ushiftRight, Nat.shiftRight_eq_div_pow]
  simp
theorem and_one (a : BitVec 64) : (bits .and .u64 (un a) 1 == 1) = a.getLsbD 0 := by
  have h1 : (1 : Int) = un 1#64 := by decide
  rw [h1, bits_and]
  have h2 : (a &&& 1#64) = 1#64 ↔ a.getLsbD 0 = true := by
    constructor
    · intro h
      have := congrArg (fun x => BitVec.getLsbD x 0) h
      simpa using this
    · intro h
      ext j hj
      by_cases hj0 : j = 0
      · subst hj0; simpa using h
      · simp [hj0, BitVec.getElem_one]
  cases hb : a.getLsbD 0 with
  | true => rw [h2.2 hb]; simp
  | false =>
    simp only [beq_eq_false_iff_ne]
    intro h
    have := h2.1 (un_inj h)
    rw [hb] at this
    cases this
theorem has_bit (a : BitVec 64) (i : Nat) : (bits .and .u64 (un a / 2 ^ i) 1 == 1) = a.getLsbD i := by
  rw [div_pow, and_one]; simp
/-- A word with bit i set to a value. -/
def setb (x : BitVec 64) (i : Nat) (on : Bool) : BitVec 64 := if on then (x &&& ~~~(bit1 i)) ||| bit1 i else x &&& ~~~(bit1 i)
theorem setb_get (x : BitVec 64) (i j : Nat) (on : Bool) (hi : i < 64) (hj : j < 64) : (setb x i on).getLsbD j = if i = j then on else x.getLsbD j := by
  unfold setb
  cases on
  · simp only [Bool.false_eq_true, if_false, BitVec.getLsbD_and, BitVec.getLsbD_not, bit1_get _ _ hi]
    by_cases h : i = j <;> simp [h, hj]
  · simp only [if_true, BitVec.getLsbD_or, BitVec.getLsbD_and, BitVec.getLsbD_not, bit1_get _ _ hi]
    by_cases h : i = j <;> simp [h, hj]
theorem setb_off (x : BitVec 64) (i : Nat) : bits .andNot .u64 (un x) (IntKind.u64.wrap (2 ^ i)) = un (setb x i false) := by
  rw [wrap_pow, bits_andNot]; rfl
theorem setb_on (x : BitVec 64) (i : Nat) : bits .or .u64 (un (setb x i false)) (IntKind.u64.wrap (2 ^ i)) = un (setb x i true) := by
  rw [wrap_pow, bits_or]; rfl
end Go.My
