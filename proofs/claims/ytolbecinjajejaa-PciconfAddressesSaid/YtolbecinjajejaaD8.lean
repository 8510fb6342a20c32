/- The reference's configuration space: set, formed, Read, bar, wide. -/
import Derived.Test.YtolbecinjajejaaD5
import Derived.BigRegion
set_option linter.unusedVariables false
set_option linter.unusedSimpArgs false
namespace Go.Proofs.Ytolbecinjajejaa
open Go.RowKit Go.My

set_option maxHeartbeats 4000000 in
theorem set_any (g : Nat) (o n : Nat) (x m : BitVec 64) (d : Dv) (w : World) (h : IsD 82 w g d) (ho : o + n ≤ 256) (hn : n ≤ 8) :
    Calls Try.prog 36 #[.pointer (some ⟨g, 0, none⟩), .int .i64 o, .int .i64 n, .int .u64 (un x), .int .u64 (un m)] w fun e w' => e = .returned (.tuple #[]) ∧ Keep (My.One g) w w' ∧ IsD 82 w' g (d.def_ o n x m) := by
  have H := Lib.hid h
  clear h
  have hx0 := un_nonneg x
  have hx1 := un_lt x
  have hm0 := un_nonneg m
  have hm1 := un_lt m
  go_enter Try.func36, Try.ntmps36
  go_wp2
  go_loopw [10] (fun i wr => ∃ k : Nat, i = .int .i64 k ∧ k ≤ n ∧ Hid (IsD 82 wr g (d.def_ o k x m)) ∧ Hid (Keep (My.One g) w wr)) (fun i _ => n - (intOf i).toNat)
  case atStart => exact ⟨0, rfl, Nat.zero_le _, by have := H.out; show IsD 82 w g _; unfold Dv.def_; rw [putw_zero, putw_zero]; exact this, Keep.refl _ _⟩
  case round =>
    obtain ⟨k, rfl, hk, HD, HK⟩ := hrel
    by_cases hlt : k < n
    · have c1 := HD.out.cb (j := o + k) (by omega)
      have f1 := HD.out.free (11 + (o + k))
      have c2 := HD.out.cm (j := o + k) (by omega)
      have f2 := HD.out.free (267 + (o + k))
      have e1 := Lib.hid (byte_div x k)
      have e2 := Lib.hid (byte_div m k)
      go_wp2
      go_region
      all_goals
        go_wp2
        refine ⟨⟨k + 1, by go_num, by omega, ?_, ?_⟩, by simp [intOf]; omega⟩
        · rw [e1.out, e2.out]
          first
          | (have h1 := HD.out.setB (j := o + k) (by omega) (byteOf x k)
             have h2 := h1.setM (j := o + k) (by omega) (byteOf m k)
             unfold Dv.def_ at h2
             simp only [putw_succ] at h2
             exact h2)
          | (have h1 := HD.out.setM (j := o + k) (by omega) (byteOf m k)
             have h2 := h1.setB (j := o + k) (by omega) (byteOf x k)
             unfold Dv.def_ at h2
             simp only [putw_succ] at h2
             exact h2)
        · exact Lib.hid ((HK.out.setOne _ _).setOne _ _).drew
    · obtain rfl : k = n := by omega
      go_wp2
      go_end0
      exact ⟨rfl, HK.out, HD.out⟩
theorem set_at (g : Nat) (O N X M : Int) (o n : Nat) (x m : BitVec 64) (hO : O = o) (hN : N = n) (hX : X = un x) (hM : M = un m) (d : Dv) (w : World) (h : IsD 82 w g d) (ho : o + n ≤ 256) (hn : n ≤ 8) :
    Calls Try.prog 36 #[.pointer (some ⟨g, 0, none⟩), .int .i64 O, .int .i64 N, .int .u64 X, .int .u64 M] w fun e w' => e = .returned (.tuple #[]) ∧ Keep (My.One g) w w' ∧ IsD 82 w' g (d.def_ o n x m) := by
  subst hO hN hX hM
  exact set_any g o n x m d w h ho hn

set_option maxHeartbeats 1000000 in
theorem wide_any (k s : Int) (w : World) : Calls Try.prog 38 #[.agg #[.int .i64 k, .int .i64 s]] w fun e w' => e = .returned (.bool (dbl k)) ∧ Keep Non w w' := by
  go_enter Try.func38, Try.ntmps38
  by_cases h1 : k = 3
  · subst h1
    go_wp2
    go_ret
    exact ⟨rfl, (Keep.refl _ _).alloc _⟩
  · go_wp2
    go_ret
    exact ⟨by by_cases h2 : k = 4 <;> simp [dbl, h1, h2], (Keep.refl _ _).alloc _⟩

/-- formed at a width of four. -/
theorem formed4 (o : Nat) (w : World) (h : o ≤ 252) (h4 : o % 4 = 0) : Calls Try.prog 40 #[.int .i64 o, .int .i64 4] w fun e w' => e = .returned (.bool true) ∧ w = w' := by
  have h4' : (o : Int) % 4 = 0 := by omega
  go_enter Try.func40, Try.ntmps40
  go_wp2
  go_ret
  exact ⟨by first | rfl | simp [h4'], rfl⟩
theorem formed1 (o : Nat) (w : World) (h : o ≤ 252) : Calls Try.prog 40 #[.int .i64 o, .int .i64 1] w fun e w' => e = .returned (.bool true) ∧ w = w' := by
  go_enter Try.func40, Try.ntmps40
  go_wp2
  go_ret
  exact ⟨by first | rfl | simp, rfl⟩

/-- The bytes from o + k on, up to o + n, from the highest down. -/
def rdr (h : Nat → BitVec 8) (o n : Nat) : Nat → BitVec 64
  | 0 => 0#64
  | j + 1 => (rdr h o n j <<< 8) ||| (h (o + (n - 1 - j))).setWidth 64
end Go.Proofs.Ytolbecinjajejaa
