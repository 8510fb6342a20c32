/- The ranges that a device decodes: class, enabled, address, bounds. -/
import Derived.Test.YtolbecinjajejaaD6
import Derived.Deep.DeepCutAuto
set_option linter.unusedVariables false
set_option linter.unusedSimpArgs false
namespace Go.Proofs.Ytolbecinjajejaa
open Go.RowKit Go.My

def clsB (k : Int) : Int := if k = 1 then 0 else if k = 4 then 2 else 1
set_option maxHeartbeats 1000000 in
theorem class_any (k s : Int) (w : World) : Calls Try.prog 41 #[.agg #[.int .i64 k, .int .i64 s]] w fun e w' => e = .returned (.int .i64 (clsB k)) ∧ Keep Non w w' := by
  go_enter Try.func41, Try.ntmps41
  by_cases h1 : k = 1
  · subst h1
    go_wp2
    go_ret
    exact ⟨rfl, (Keep.refl _ _).alloc _⟩
  · by_cases h4 : k = 4
    · subst h4
      go_wp2
      go_ret
      exact ⟨rfl, (Keep.refl _ _).alloc _⟩
    · have HV : Hid (clsB k = 1) := by simp [clsB, h1, h4, Hid]
      go_wp2
      go_ret
      exact ⟨by rw [HV.out]; rfl, (Keep.refl _ _).alloc _⟩

/-- Are the ranges of a class on? -/
def onB (d : Dv) (c : Int) : Bool := !((rdw d.by_ 4 2 &&& (if c = 0 then 1#64 else 2#64)) == 0#64)
theorem un_ne0 (x : BitVec 64) : (un x != 0) = !(x == 0#64) := by
  by_cases h : x = 0#64
  · subst h; rfl
  · have h1 : un x ≠ 0 := fun e => h (un_inj (e.trans rfl))
    rw [show (x == 0#64) = false by simpa using h, show (un x != 0) = true by simpa using h1]
    rfl
set_option maxHeartbeats 1000000 in
theorem enabled_any (g : Nat) (c : Int) (d : Dv) (w : World) (h : IsD 76 w g d) : Calls Try.prog 43 #[.pointer (some ⟨g, 0, none⟩), .int .i64 c] w fun e w' => e = .returned (.bool (onB d c)) ∧ w = w' := by
  have H := Lib.hid h
  clear h
  by_cases hc : c = 0
  · subst hc
    have HV : Hid (onB d 0 = (bits .and .u64 (un (rdw d.by_ 4 2)) 1 != 0)) := by
      show _ = _
      rw [show (1 : Int) = un 1#64 from rfl, bits_and, un_ne0]; rfl
    go_enter Try.func43, Try.ntmps43
    go_wp2_with fail
    refine (read_at g _ _ (un (rdw d.by_ 4 2)) 4 2 rfl rfl d _ H.out rfl rfl).mono ?_
    rintro e w' ⟨rfl, rfl⟩
    go_wp2
    go_ret
    exact ⟨by rw [HV.out]; rfl, rfl⟩
  · have HV : Hid (onB d c = (bits .and .u64 (un (rdw d.by_ 4 2)) 2 != 0)) := by
      show _ = _
      rw [show (2 : Int) = un 2#64 from rfl, bits_and, un_ne0]; simp [onB, hc]
    have hc' : (c == 0) = false := by simpa using hc
    go_enter Try.func43, Try.ntmps43
    go_wp2_with fail
    refine (read_at g _ _ (un (rdw d.by_ 4 2)) 4 2 rfl rfl d _ H.out rfl rfl).mono ?_
    rintro e w' ⟨rfl, rfl⟩
    go_wp2
    go_ret
    exact ⟨by rw [HV.out]; rfl, rfl⟩

/-- The address in register i. -/
def adrB (d : Dv) (i : Nat) (k : Int) (s : Nat) : BitVec 64 :=
  ((if dbl k then rdw d.by_ (16 + 4 * i) 4 ||| (rdw d.by_ (20 + 4 * i) 4 <<< 32) else rdw d.by_ (16 + 4 * i) 4) >>> s) <<< s
theorem shr_un (x : BitVec 64) (s : Nat) : un x / 2 ^ s = un (x >>> s) := by
  unfold un
  rw [BitVec.toNat_ushiftRight, Nat.shiftRight_eq_div_pow]
  simp
theorem shl_un (x : BitVec 64) (s : Nat) : IntKind.u64.wrap (un x * 2 ^ s) = un (x <<< s) := by
  rw [IntKind.wrap_u64]
  unfold un
  rw [BitVec.toNat_shiftLeft, Nat.shiftLeft_eq]
  simp
set_option maxHeartbeats 4000000 in
theorem address_any (g i : Nat) (k : Int) (s : Nat) (d : Dv) (w : World) (h : IsD 76 w g d) (hi : i < 6) (hs : s ≤ 40) :
    Calls Try.prog 42 #[.pointer (some ⟨g, 0, none⟩), .int .i64 i, .agg #[.int .i64 k, .int .i64 s]] w fun e w' => e = .returned (.int .u64 (un (adrB d i k s))) ∧ Keep Non w w' := by
  have H := Lib.hid (h.keep ((Keep.refl Non w).alloc (.cells #[.int .i64 k, .int .i64 s] 61)) (fun h => h))
  have HBb := Lib.hid (Blk.new w #[.int .i64 k, .int .i64 s] 61)
  have HK : Hid (Keep Non w (w.alloc (.cells #[.int .i64 k, .int .i64 s] 61))) := (Keep.refl _ _).alloc _
  clear h
  have H0 := Lib.hid (un_nonneg (rdw d.by_ (16 + 4 * i) 4))
  go_enter Try.func42, Try.ntmps42
  go_wp2_with fail
  refine (read_at g _ _ (un (rdw d.by_ (16 + 4 * i) 4)) (16 + 4 * i) 4 (by omega) (by omega) d _ H.out (by simp [wfm]; omega) rfl).mono ?_
  rintro e w' ⟨rfl, rfl⟩
  generalize hx : rdw d.by_ (16 + 4 * i) 4 = x at *
  have hx0 := un_nonneg x
  have hx1 := un_lt x
  have HX := Lib.hid hx
  clear hx
  go_wp2_with fail
  refine (double_any _ _ _).mono ?_
  rintro e w1 ⟨rfl, hk0⟩
  replace H := Lib.hid (H.out.keep hk0 (fun h => h))
  replace HBb := Lib.hid (HBb.out.keep hk0 (fun h => h))
  replace HK := Lib.hid (HK.out.tr hk0)
  clear hk0
  cases hd : dbl k
  · have b1 := blk_c HBb.out 1 _ rfl
    have HV : Hid (un (adrB d i k s) = IntKind.u64.wrap (un x / 2 ^ s * 2 ^ s)) := by
      show _ = _
      rw [shr_un, shl_un]; simp only [adrB, hd, HX.out]; rfl
    clear hd
    go_wp2
    go_quiet (fail)
    go_wp2
    go_ret
    exact ⟨by rw [HV.out]; rfl, HK.out.drewN _⟩
  · go_wp2_with fail
    refine (read_at g _ _ (un (rdw d.by_ (20 + 4 * i) 4)) (20 + 4 * i) 4 (by omega) (by omega) d _ H.out (by simp [wfm]; omega) rfl).mono ?_
    rintro e w' ⟨rfl, rfl⟩
    generalize hy : rdw d.by_ (20 + 4 * i) 4 = y at *
    have hy0 := un_nonneg y
    have hy1 := un_lt y
    have b1 := blk_c HBb.out 1 _ rfl
    obtain ⟨q, hq⟩ : ∃ q, q = x ||| (y <<< 32) := ⟨_, rfl⟩
    have hE : bits .or .u64 (un x) (IntKind.u64.wrap (un y * 4294967296)) = un q := by
      have h := shl_un y 32
      rw [show (2 : Int) ^ 32 = 4294967296 from rfl] at h
      rw [h, bits_or, hq]
    have HE := Lib.hid hE
    have hq0 := un_nonneg q
    have hq1 := un_lt q
    have HV : Hid (un (adrB d i k s) = IntKind.u64.wrap (un q / 2 ^ s * 2 ^ s)) := by
      show _ = _
      rw [shr_un, shl_un]; simp only [adrB, hd, HX.out, hy, hq]; rfl
    clear hd hy hq hE
    go_wp2
    rw [HE.out]
    go_quiet (fail)
    go_wp2
    go_ret
    exact ⟨by rw [HV.out]; rfl, HK.out.drewN _⟩

/-- A window. -/
structure Wn where
  idx : Int
  cls : Int
  base : Int
  len : Int
  en : Bool
def encW (x : Wn) : List Value := [.int .i64 x.idx, .int .i64 x.cls, .int .u64 x.base, .int .u64 x.len, .bool x.en]
theorem encW_len (x : Wn) : (encW x).length = 5 := rfl
theorem encW_one (x : Wn) : ∀ u ∈ encW x, u.oneCell' = true := by
  intro u hu
  simp only [encW, List.mem_cons, List.not_mem_nil, or_false] at hu
  rcases hu with rfl | rfl | rfl | rfl | rfl <;> rfl

set_option maxHeartbeats 8000000 in
theorem bounds_any (g : Nat) (c : Int) (d : Dv) (w : World) (h : IsD 76 w g d) : Calls Try.prog 44 #[.pointer (some ⟨g, 0, none⟩), .int .i64 c] w fun e w' => ∃ x y : Int, e = .returned (.tuple #[.int .u64 x, .int .u64 y]) ∧ w = w' := by
  have H := Lib.hid h
  clear h
  by_cases h0 : c = 0
  · subst h0
    go_enter Try.func44, Try.ntmps44
    go_wp2_with fail
    refine (read_at g _ _ (un (rdw d.by_ 28 1)) 28 1 rfl rfl d _ H.out rfl rfl).mono ?_
    rintro e w' ⟨rfl, rfl⟩
    go_wp2_with fail
    refine (read_at g _ _ (un (rdw d.by_ 29 1)) 29 1 rfl rfl d _ H.out rfl rfl).mono ?_
    rintro e w' ⟨rfl, rfl⟩
    go_wp2
    go_ret2
    exact ⟨_, _, rfl, rfl⟩
  by_cases h1 : c = 1
  · subst h1
    go_enter Try.func44, Try.ntmps44
    go_wp2_with fail
    refine (read_at g _ _ (un (rdw d.by_ 32 2)) 32 2 rfl rfl d _ H.out rfl rfl).mono ?_
    rintro e w' ⟨rfl, rfl⟩
    go_wp2_with fail
    refine (read_at g _ _ (un (rdw d.by_ 34 2)) 34 2 rfl rfl d _ H.out rfl rfl).mono ?_
    rintro e w' ⟨rfl, rfl⟩
    go_wp2
    go_ret2
    exact ⟨_, _, rfl, rfl⟩
  · have h0' : (c == 0) = false := by simpa using h0
    have h1' : (c == 1) = false := by simpa using h1
    go_enter Try.func44, Try.ntmps44
    go_wp2_with fail
    refine (read_at g _ _ (un (rdw d.by_ 36 2)) 36 2 rfl rfl d _ H.out rfl rfl).mono ?_
    rintro e w' ⟨rfl, rfl⟩
    go_wp2_with fail
    refine (read_at g _ _ (un (rdw d.by_ 38 2)) 38 2 rfl rfl d _ H.out rfl rfl).mono ?_
    rintro e w' ⟨rfl, rfl⟩
    go_wp2_with fail
    refine (read_at g _ _ (un (rdw d.by_ 40 4)) 40 4 rfl rfl d _ H.out rfl rfl).mono ?_
    rintro e w' ⟨rfl, rfl⟩
    go_wp2_with fail
    refine (read_at g _ _ (un (rdw d.by_ 44 4)) 44 4 rfl rfl d _ H.out rfl rfl).mono ?_
    rintro e w' ⟨rfl, rfl⟩
    go_wp2
    go_ret2
    exact ⟨_, _, rfl, rfl⟩
end Go.Proofs.Ytolbecinjajejaa
