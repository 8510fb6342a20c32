/- Valid: the fields and the registers. -/
import Derived.Test.YtolbecinjajejaaDoorP1
set_option linter.unusedVariables false
set_option linter.unusedSimpArgs false
namespace Go.Proofs.YtolbecinjajejaaDoor
open Go.RowKit Go.My

theorem ret_b {a b : Bool} (h : a = b) : Ending.returned (.bool a) = Ending.returned (.bool b) := by rw [h]
theorem bars_keepN {O : Nat → Prop} {w w1 : World} {v : Value} {bs : List Br} (h : Bars O w v bs) (k : Keep Non w w1) : Bars O w1 v bs := RowR.keep h k (fun _ _ _ h => h)
def rng (n lo hi : Int) : Bool := decide (lo ≤ n) && decide (n ≤ hi)
def pw2 (v : Int) : Bool := bits .and .i64 v (v - 1) == 0
/-- Which fields are valid. -/
def vA (f : Fh) : Bool := rng f.vendor 1 65534 && rng f.device 0 65535 && rng f.slot 0 31 && rng f.pin 0 4 && rng f.spare 0 32
def vB (f : Fh) : Bool := rng f.vectors 0 32 && pw2 f.vectors
def vC (f : Fh) : Bool := !((!f.bridge && (f.pref || f.hot)) || (decide (0 < f.spare) && !f.hot))
def vFn (f : Fh) (bs : List Br) : Bool := vA f && vB f && vC f && vBars f.bridge bs
theorem within_rng (n lo hi : Int) (w : World) : Calls Tryd.prog 52 #[.int .i64 n, .int .i64 lo, .int .i64 hi] w fun e w' => e = .returned (.bool (rng n lo hi)) ∧ w = w' := within_any n lo hi w
theorem rng_le {n lo hi : Int} (h : rng n lo hi = true) : lo ≤ n ∧ n ≤ hi := by simpa [rng] using h

set_option maxHeartbeats 8000000 in
theorem valid_any (f : Fh) (v : Value) (bs : List Br) (O : Nat → Prop) (w : World) (h : Bars O w v bs) : Calls Tryd.prog 45 #[.agg (fhL f v)] w fun e w' => e = .returned (.bool (vFn f bs)) ∧ Keep Non w w' := by
  have HX := Lib.hid h
  clear h
  have HF := fun w (h : Bars O w v bs) => validBars_any f v bs O w h
  obtain ⟨f0, f1, f2, f3, f4, f5, f6, f7, f8, f9⟩ := f
  have HV : Hid (vFn ⟨f0, f1, f2, f3, f4, f5, f6, f7, f8, f9⟩ bs = ((rng f2 1 65534 && rng f3 0 65535 && rng f1 0 31 && rng f8 0 4 && rng f7 0 32) && (rng f9 0 32 && pw2 f9) && (!((!f4 && (f5 || f6)) || (decide (0 < f7) && !f6))) && vBars f4 bs)) := rfl
  have HF := Lib.hid HF
  unfold fhL at *
  simp only at *
  go_enter Tryd.func45, Tryd.ntmps45
  have HK1 : Hid (Keep Non w (w.alloc (.cells #[Value.int IntKind.i64 f0, Value.int IntKind.i64 f1, Value.int IntKind.i64 f2, Value.int IntKind.i64 f3, Value.bool f4, Value.bool f5, Value.bool f6, Value.int IntKind.i64 f7, Value.int IntKind.i64 f8, Value.int IntKind.i64 f9, v] 50))) := (Keep.refl _ _).alloc _
  go_wp2_with fail
  refine (within_rng _ _ _ _).mono ?_
  rintro e w' ⟨rfl, rfl⟩
  cases hr : rng f2 1 65534
  · have HR : Hid (vFn ⟨f0, f1, f2, f3, f4, f5, f6, f7, f8, f9⟩ bs = false) := by rw [HV.out, hr]; rfl
    clear hr
    go_wp2
    go_ret
    exact ⟨(ret_b HR.out).symm, HK1.out⟩
  have HR1 := Lib.hid hr
  clear hr
  go_wp2_with fail
  refine (within_rng _ _ _ _).mono ?_
  rintro e w' ⟨rfl, rfl⟩
  cases hr : rng f3 0 65535
  · have HR : Hid (vFn ⟨f0, f1, f2, f3, f4, f5, f6, f7, f8, f9⟩ bs = false) := by rw [HV.out, HR1.out, hr]; rfl
    clear hr
    go_wp2
    go_ret
    exact ⟨(ret_b HR.out).symm, HK1.out⟩
  have HR2 := Lib.hid hr
  clear hr
  go_wp2_with fail
  refine (within_rng _ _ _ _).mono ?_
  rintro e w' ⟨rfl, rfl⟩
  cases hr : rng f1 0 31
  · have HR : Hid (vFn ⟨f0, f1, f2, f3, f4, f5, f6, f7, f8, f9⟩ bs = false) := by rw [HV.out, HR1.out, HR2.out, hr]; rfl
    clear hr
    go_wp2
    go_ret
    exact ⟨(ret_b HR.out).symm, HK1.out⟩
  have HR3 := Lib.hid hr
  clear hr
  go_wp2_with fail
  refine (within_rng _ _ _ _).mono ?_
  rintro e w' ⟨rfl, rfl⟩
  cases hr : rng f8 0 4
  · have HR : Hid (vFn ⟨f0, f1, f2, f3, f4, f5, f6, f7, f8, f9⟩ bs = false) := by rw [HV.out, HR1.out, HR2.out, HR3.out, hr]; rfl
    clear hr
    go_wp2
    go_ret
    exact ⟨(ret_b HR.out).symm, HK1.out⟩
  have HR4 := Lib.hid hr
  clear hr
  go_wp2_with fail
  refine (within_rng _ _ _ _).mono ?_
  rintro e w' ⟨rfl, rfl⟩
  cases hr : rng f7 0 32
  · have HR : Hid (vFn ⟨f0, f1, f2, f3, f4, f5, f6, f7, f8, f9⟩ bs = false) := by rw [HV.out, HR1.out, HR2.out, HR3.out, HR4.out, hr]; rfl
    clear hr
    go_wp2
    go_ret
    exact ⟨(ret_b HR.out).symm, HK1.out⟩
  have HR5 := Lib.hid hr
  clear hr
  go_wp2_with fail
  refine (within_rng _ _ _ _).mono ?_
  rintro e w' ⟨rfl, rfl⟩
  cases hr : rng f9 0 32
  · have HR : Hid (vFn ⟨f0, f1, f2, f3, f4, f5, f6, f7, f8, f9⟩ bs = false) := by rw [HV.out, HR1.out, HR2.out, HR3.out, HR4.out, HR5.out, hr]; rfl
    clear hr
    go_wp2
    go_ret
    exact ⟨(ret_b HR.out).symm, HK1.out⟩
  have HR6 := Lib.hid hr
  obtain ⟨v0, v1⟩ := rng_le hr
  clear hr
  cases hp : pw2 f9
  · have HR : Hid (vFn ⟨f0, f1, f2, f3, f4, f5, f6, f7, f8, f9⟩ bs = false) := by rw [HV.out, HR1.out, HR2.out, HR3.out, HR4.out, HR5.out, HR6.out, hp]; rfl
    have hq : (bits .and .i64 f9 (f9 - 1) != 0) = true := by unfold pw2 at hp; simpa using hp
    clear hp
    go_wp2
    go_ret
    exact ⟨(ret_b HR.out).symm, HK1.out⟩
  have HR7 := Lib.hid hp
  have hq : (bits .and .i64 f9 (f9 - 1) != 0) = false := by unfold pw2 at hp; simpa using hp
  clear hp
  have HVV : Hid (vFn ⟨f0, f1, f2, f3, f4, f5, f6, f7, f8, f9⟩ bs = ((!((!f4 && (f5 || f6)) || (decide (0 < f7) && !f6))) && vBars f4 bs)) := by
    show _ = _
    rw [HV.out, HR1.out, HR2.out, HR3.out, HR4.out, HR5.out, HR6.out, HR7.out]; simp
  have h7 := rng_le HR5.out
  obtain ⟨s0, s1⟩ := h7
  clear HR1 HR2 HR3 HR4 HR5 HR6 HR7
  have last : ∀ b : Bool, Hid (b = f4) → Hid (vFn ⟨f0, f1, f2, f3, f4, f5, f6, f7, f8, f9⟩ bs = vBars f4 bs) → True := fun _ _ _ => trivial
  clear last
  by_cases hs : 0 < f7
  · cases f4 <;> cases f5 <;> cases f6
    all_goals
      have HR : Hid (vFn ⟨f0, f1, f2, f3, _, _, _, f7, f8, f9⟩ bs = _) := HVV.out
      have HS := Lib.hid hs
      go_wp2_with fail
      first
      | (go_ret; exact ⟨by rw [HVV.out]; have := HS.out; simp [this], HK1.out⟩)
      | (refine (HF.out _ (bars_keepN HX.out HK1.out)).mono ?_
         rintro e w2 ⟨rfl, hk2⟩
         have HK2 := Lib.hid (HK1.out.tr hk2)
         clear hk2
         go_wp2
         go_ret
         exact ⟨by rw [HVV.out]; simp, HK2.out⟩)
  · obtain rfl : f7 = 0 := by omega
    cases f4 <;> cases f5 <;> cases f6
    all_goals
      go_wp2_with fail
      first
      | (go_ret; exact ⟨by rw [HVV.out]; simp, HK1.out⟩)
      | (refine (HF.out _ (bars_keepN HX.out HK1.out)).mono ?_
         rintro e w2 ⟨rfl, hk2⟩
         have HK2 := Lib.hid (HK1.out.tr hk2)
         clear hk2
         go_wp2
         go_ret
         exact ⟨by rw [HVV.out]; simp, HK2.out⟩)
end Go.Proofs.YtolbecinjajejaaDoor
