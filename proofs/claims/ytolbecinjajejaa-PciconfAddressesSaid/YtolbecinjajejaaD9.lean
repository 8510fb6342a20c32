/- The reference's Read. -/
import Derived.Test.YtolbecinjajejaaD8
set_option linter.unusedVariables false
set_option linter.unusedSimpArgs false
namespace Go.Proofs.Ytolbecinjajejaa
open Go.RowKit Go.My

theorem sw_get (a : BitVec 8) (k i : Nat) (hi : i < 64) : (a.setWidth 64 <<< k).getLsbD i = (decide (k ≤ i) && a.getLsbD (i - k)) := by
  rw [BitVec.getLsbD_shiftLeft, BitVec.getLsbD_setWidth]
  by_cases h : k ≤ i
  · have h1 : ¬ i < k := by omega
    have h2 : i - k < 64 := by omega
    simp [h, h1, h2, hi]
  · have h1 : i < k := by omega
    simp [h, h1]
theorem rd4_eq (h : Nat → BitVec 8) (o : Nat) : rdr h o 4 4 = rdw h o 4 := by
  simp only [rdr, rdw, Nat.add_zero, Nat.sub_zero, Nat.reduceSub]
  apply BitVec.eq_of_getLsbD_eq
  intro i hi
  generalize h o = a
  generalize h (o + 1) = b
  generalize h (o + 2) = c
  generalize h (o + 3) = d
  have z : ∀ x : BitVec 8, ∀ j, 8 ≤ j → x.getLsbD j = false := fun x j hj => BitVec.getLsbD_of_ge x j hj
  simp only [BitVec.getLsbD_or, BitVec.getLsbD_shiftLeft, BitVec.getLsbD_setWidth, sw_get _ _ _ hi, Nat.mul_zero, Nat.reduceMul, BitVec.getLsbD_zero]
  by_cases h1 : i < 8
  · have e1 : i - 8 < 64 := by omega
    simp [h1, hi, show ¬ 8 ≤ i by omega, show ¬ 16 ≤ i by omega, show ¬ 24 ≤ i by omega]
  · by_cases h2 : i < 16
    · simp [h1, h2, hi, show 8 ≤ i by omega, show ¬ 16 ≤ i by omega, show ¬ 24 ≤ i by omega, z a i (by omega), show i - 8 < 8 by omega, show i - 8 < 64 by omega]
    · by_cases h3 : i < 24
      · simp [h1, h2, h3, hi, show 8 ≤ i by omega, show 16 ≤ i by omega, show ¬ 24 ≤ i by omega, z a i (by omega), z b (i - 8) (by omega), show ¬ i - 8 < 8 by omega, show i - 8 < 64 by omega, show i - 8 - 8 < 8 by omega, show i - 8 - 8 < 64 by omega, show i - 8 - 8 = i - 16 by omega, show i - 16 < 8 by omega, show i - 16 < 64 by omega]
      · simp [h1, h2, h3, hi, show 8 ≤ i by omega, show 16 ≤ i by omega, show 24 ≤ i by omega, z a i (by omega), z b (i - 8) (by omega), z c (i - 16) (by omega), show ¬ i - 8 < 8 by omega, show i - 8 < 64 by omega, show i - 8 - 8 = i - 16 by omega, show ¬ i - 16 < 8 by omega, show i - 16 < 64 by omega, show i - 16 - 8 = i - 24 by omega, show i - 24 < 64 by omega, show i - 24 + 8 = i - 16 by omega]
theorem rd1_eq (h : Nat → BitVec 8) (o : Nat) : rdr h o 1 1 = rdw h o 1 := by
  simp [rdr, rdw]

theorem shl8 (x : BitVec 64) : IntKind.u64.wrap (un x * 2 ^ 8) = un (x <<< 8) := by
  rw [IntKind.wrap_u64]
  unfold un
  rw [BitVec.toNat_shiftLeft, Nat.shiftLeft_eq]
  simp
theorem un_byte (b : BitVec 8) : bn b = un (b.setWidth 64) := by
  unfold un bn
  rw [BitVec.toNat_setWidth, Nat.mod_eq_of_lt (by have := b.isLt; omega)]
theorem rdr_step (h : Nat → BitVec 8) (o n j : Nat) : bits .or .u64 (IntKind.u64.wrap (un (rdr h o n j) * 256)) (bn (h (o + (n - 1 - j)))) = un (rdr h o n (j + 1)) := by
  have := shl8 (rdr h o n j)
  rw [show (2 : Int) ^ 8 = 256 from rfl] at this
  rw [this, un_byte, bits_or]
  rfl

set_option maxHeartbeats 4000000 in
theorem rread4 (g o : Nat) (d : Dv) (w : World) (h : IsD 82 w g d) (ho : o ≤ 252) (h4 : o % 4 = 0) :
    Calls Try.prog 27 #[.pointer (some ⟨g, 0, none⟩), .int .i64 o, .int .i64 4] w fun e w' => e = .returned (.int .u64 (un (rdw d.by_ o 4))) ∧ w = w' := by
  rw [← rd4_eq]
  have H := Lib.hid h
  have HF : Hid (∀ w, Calls Try.prog 40 #[.int .i64 o, .int .i64 4] w fun e w' => e = .returned (.bool true) ∧ w = w') := fun w => formed4 o w ho h4
  clear h h4
  go_enter Try.func27, Try.ntmps27
  go_wp2_with fail
  go_loop [7, 8] (fun v i => ∃ j : Nat, i = .int .i64 (3 - (j : Int)) ∧ j ≤ 4 ∧ v = .int .u64 (un (rdr d.by_ o 4 j))) (fun _ i => (intOf i + 1).toNat)
  case atStart => exact ⟨0, rfl, Nat.zero_le _, rfl⟩
  case round =>
    obtain ⟨j, rfl, hj, rfl⟩ := hrel
    have c1 := H.out.cb (j := o + 3) (by omega)
    have c2 := H.out.cb (j := o + 2) (by omega)
    have c3 := H.out.cb (j := o + 1) (by omega)
    have c4 := H.out.cb (j := o) (by omega)
    have a1 := bn_nonneg (d.by_ (o + 3))
    have a2 := bn_nonneg (d.by_ (o + 2))
    have a3 := bn_nonneg (d.by_ (o + 1))
    have a4 := bn_nonneg (d.by_ o)
    have b1 := bn_lt (d.by_ (o + 3))
    have b2 := bn_lt (d.by_ (o + 2))
    have b3 := bn_lt (d.by_ (o + 1))
    have b4 := bn_lt (d.by_ o)
    rcases (by omega : j = 0 ∨ j = 1 ∨ j = 2 ∨ j = 3 ∨ j = 4) with rfl | rfl | rfl | rfl | rfl
    · go_wp2_with fail
      refine (HF.out _).mono ?_
      rintro e w' ⟨rfl, rfl⟩
      go_wp2
      exact ⟨⟨1, rfl, by omega, congrArg (Value.int IntKind.u64) (rdr_step d.by_ o 4 0)⟩, by simp [intOf]⟩
    · go_wp2_with fail
      refine (HF.out _).mono ?_
      rintro e w' ⟨rfl, rfl⟩
      go_wp2
      exact ⟨⟨2, rfl, by omega, congrArg (Value.int IntKind.u64) (rdr_step d.by_ o 4 1)⟩, by simp [intOf]⟩
    · go_wp2_with fail
      refine (HF.out _).mono ?_
      rintro e w' ⟨rfl, rfl⟩
      go_wp2
      exact ⟨⟨3, rfl, by omega, congrArg (Value.int IntKind.u64) (rdr_step d.by_ o 4 2)⟩, by simp [intOf]⟩
    · go_wp2_with fail
      refine (HF.out _).mono ?_
      rintro e w' ⟨rfl, rfl⟩
      go_wp2
      exact ⟨⟨4, rfl, by omega, congrArg (Value.int IntKind.u64) (rdr_step d.by_ o 4 3)⟩, by simp [intOf]⟩
    · go_wp2_with fail
      refine (HF.out _).mono ?_
      rintro e w' ⟨rfl, rfl⟩
      go_wp2
      go_ret
      exact ⟨rfl, rfl⟩

set_option maxHeartbeats 4000000 in
theorem rread1 (g o : Nat) (d : Dv) (w : World) (h : IsD 82 w g d) (ho : o ≤ 252) :
    Calls Try.prog 27 #[.pointer (some ⟨g, 0, none⟩), .int .i64 o, .int .i64 1] w fun e w' => e = .returned (.int .u64 (un (rdw d.by_ o 1))) ∧ w = w' := by
  rw [← rd1_eq]
  have H := Lib.hid h
  have HF : Hid (∀ w, Calls Try.prog 40 #[.int .i64 o, .int .i64 1] w fun e w' => e = .returned (.bool true) ∧ w = w') := fun w => formed1 o w ho
  clear h
  go_enter Try.func27, Try.ntmps27
  go_wp2_with fail
  go_loop [7, 8] (fun v i => ∃ j : Nat, i = .int .i64 (0 - (j : Int)) ∧ j ≤ 1 ∧ v = .int .u64 (un (rdr d.by_ o 1 j))) (fun _ i => (intOf i + 1).toNat)
  case atStart => exact ⟨0, rfl, Nat.zero_le _, rfl⟩
  case round =>
    obtain ⟨j, rfl, hj, rfl⟩ := hrel
    have c4 := H.out.cb (j := o) (by omega)
    have a4 := bn_nonneg (d.by_ o)
    have b4 := bn_lt (d.by_ o)
    rcases (by omega : j = 0 ∨ j = 1) with rfl | rfl
    · go_wp2_with fail
      refine (HF.out _).mono ?_
      rintro e w' ⟨rfl, rfl⟩
      go_wp2
      exact ⟨⟨1, rfl, by omega, congrArg (Value.int IntKind.u64) (rdr_step d.by_ o 1 0)⟩, by simp [intOf]⟩
    · go_wp2_with fail
      refine (HF.out _).mono ?_
      rintro e w' ⟨rfl, rfl⟩
      go_wp2
      go_ret
      exact ⟨rfl, rfl⟩
end Go.Proofs.Ytolbecinjajejaa
