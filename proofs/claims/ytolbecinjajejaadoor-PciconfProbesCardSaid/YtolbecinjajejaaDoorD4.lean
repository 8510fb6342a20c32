/- New: the configuration space of a function. -/
import Derived.Test.YtolbecinjajejaaDoorD2
import Derived.Test.YtolbecinjajejaaDoorD1
import Derived.Deep.DeepCutAuto
set_option linter.unusedVariables false
set_option linter.unusedSimpArgs false
namespace Go.Proofs.YtolbecinjajejaaDoor
open Go.RowKit Go.My

/-- define with its numbers as they stand. -/
theorem define_at (g : Nat) (O N X M : Int) (o n : Nat) (x m : BitVec 64) (hO : O = o) (hN : N = n) (hX : X = un x) (hM : M = un m) (d : Dv) (w : World) (h : IsD 85 w g d) (ho : o + n ≤ 256) (hn : n ≤ 8) :
    Calls Tryd.prog 46 #[.pointer (some ⟨g, 0, none⟩), .int .i64 O, .int .i64 N, .int .u64 X, .int .u64 M] w fun e w' => e = .returned (.tuple #[]) ∧ Keep (My.One g) w w' ∧ IsD 85 w' g (d.def_ o n x m) := by
  subst hO hN hX hM
  exact define_any g o n x m d w h ho hn

/-- The mask of a register of 2^s bytes. -/
def ones (s : Nat) : BitVec 64 := BitVec.allOnes 64 <<< s
theorem un_ones (s : Nat) (h : s ≤ 64) : IntKind.u64.wrap (18446744073709551615 * 2 ^ s) = un (ones s) := by
  rw [IntKind.wrap_u64]
  unfold un ones
  rw [BitVec.toNat_shiftLeft, Nat.shiftLeft_eq, BitVec.toNat_allOnes]
  simp
/-- What a register of this kind lays. -/
def Dv.bar (d : Dv) (i : Nat) (k s : Int) : Dv :=
  if k = 1 then d.def_ (16 + 4 * i) 4 1#64 (ones s.toNat)
  else if k = 2 then d.def_ (16 + 4 * i) 4 0#64 (ones s.toNat)
  else if k = 3 then d.def_ (16 + 4 * i) 8 4#64 (ones s.toNat)
  else if k = 4 then d.def_ (16 + 4 * i) 8 12#64 (ones s.toNat)
  else d

set_option maxHeartbeats 4000000 in
theorem defineBar_any (g i : Nat) (k s : Int) (d : Dv) (w : World) (h : IsD 85 w g d) (hi : i < 6) (hv : vBar k s = true) :
    Calls Tryd.prog 47 #[.pointer (some ⟨g, 0, none⟩), .int .i64 i, .agg #[.int .i64 k, .int .i64 s]] w fun e w' => e = .returned (.tuple #[]) ∧ Keep (My.One g) w w' ∧ IsD 85 w' g (d.bar i k s) := by
  have hs : 0 ≤ s ∧ s ≤ 40 ∧ (k = 0 ∨ k = 1 ∨ k = 2 ∨ k = 3 ∨ k = 4) := by
    unfold vBar at hv
    split at hv
    · simp at hv; omega
    split at hv
    · simp at hv; omega
    split at hv
    · simp at hv; omega
    split at hv
    · simp at hv; omega
    · cases hv
  obtain ⟨h0, h1, hk⟩ := hs
  clear hv
  obtain ⟨s', rfl⟩ : ∃ s' : Nat, s = s' := ⟨s.toNat, by omega⟩
  have HM := Lib.hid (un_ones s' (by omega))
  have H0 : Hid (IsD 85 (w.alloc (.cells #[.int .i64 k, .int .i64 s'] 67)) g d) := h.keep ((Keep.refl Non w).alloc _) (fun h => h)
  have HK0 : Hid (Keep (My.One g) w (w.alloc (.cells #[.int .i64 k, .int .i64 s'] 67))) := (Keep.refl _ w).alloc _
  clear h
  go_enter Tryd.func47, Tryd.ntmps47
  rcases hk with rfl | rfl | rfl | rfl | rfl
  · go_wp2
    go_end0
    exact ⟨rfl, HK0.out, H0.out⟩
  · go_wp2_with fail
    refine (define_at g _ _ _ _ (16 + 4 * i) 4 1#64 (ones s') (by omega) (by omega) (by rfl) HM.out d _ H0.out (by omega) (by omega)).mono ?_
    rintro e w1 ⟨rfl, hk, hd⟩
    have HK := Lib.hid (HK0.out.tr hk)
    have HD := Lib.hid hd
    clear hk hd
    go_wp2
    go_end0
    exact ⟨rfl, HK.out, HD.out⟩
  · go_wp2_with fail
    refine (define_at g _ _ _ _ (16 + 4 * i) 4 0#64 (ones s') (by omega) (by omega) (by rfl) HM.out d _ H0.out (by omega) (by omega)).mono ?_
    rintro e w1 ⟨rfl, hk, hd⟩
    have HK := Lib.hid (HK0.out.tr hk)
    have HD := Lib.hid hd
    clear hk hd
    go_wp2
    go_end0
    exact ⟨rfl, HK.out, HD.out⟩
  · go_wp2_with fail
    refine (define_at g _ _ _ _ (16 + 4 * i) 8 4#64 (ones s') (by omega) (by omega) (by rfl) HM.out d _ H0.out (by omega) (by omega)).mono ?_
    rintro e w1 ⟨rfl, hk, hd⟩
    have HK := Lib.hid (HK0.out.tr hk)
    have HD := Lib.hid hd
    clear hk hd
    go_wp2
    go_end0
    exact ⟨rfl, HK.out, HD.out⟩
  · go_wp2_with fail
    refine (define_at g _ _ _ _ (16 + 4 * i) 8 12#64 (ones s') (by omega) (by omega) (by rfl) HM.out d _ H0.out (by omega) (by omega)).mono ?_
    rintro e w1 ⟨rfl, hk, hd⟩
    have HK := Lib.hid (HK0.out.tr hk)
    have HD := Lib.hid hd
    clear hk hd
    go_wp2
    go_end0
    exact ⟨rfl, HK.out, HD.out⟩

/-- What a bridge has beside. -/
def Dv.bridge (d : Dv) (pref : Bool) : Dv :=
  let d := ((d.def_ 24 3 0#64 0xFFFFFF#64).def_ 28 2 0#64 0xF0F0#64).def_ 32 4 0#64 0xFFF0FFF0#64
  if pref then (d.def_ 36 4 0x00010001#64 0xFFF0FFF0#64).def_ 40 8 0#64 0xFFFFFFFFFFFFFFFF#64 else d

set_option maxHeartbeats 4000000 in
theorem defineBridge_any (g : Nat) (d : Dv) (w : World) (h : IsD 85 w g d) :
    Calls Tryd.prog 48 #[.pointer (some ⟨g, 0, none⟩)] w fun e w' => e = .returned (.tuple #[]) ∧ Keep (My.One g) w w' ∧ IsD 85 w' g (d.bridge d.f.pref) := by
  have H0 := Lib.hid h
  clear h
  go_enter Tryd.func48, Tryd.ntmps48
  go_wp2_with fail
  refine (define_at g _ _ _ _ 24 3 0#64 0xFFFFFF#64 (by omega) (by omega) (by rfl) (by rfl) d _ H0.out (by omega) (by omega)).mono ?_
  rintro e w1 ⟨rfl, hk, hd⟩
  have HK1 := Lib.hid hk
  have HD1 := Lib.hid hd
  clear hk hd
  go_wp2_with fail
  refine (define_at g _ _ _ _ 28 2 0#64 0xF0F0#64 (by omega) (by omega) (by rfl) (by rfl) _ _ HD1.out (by omega) (by omega)).mono ?_
  rintro e w2 ⟨rfl, hk, hd⟩
  have HK2 := Lib.hid (HK1.out.tr hk)
  have HD2 := Lib.hid hd
  clear hk hd
  go_wp2_with fail
  refine (define_at g _ _ _ _ 32 4 0#64 0xFFF0FFF0#64 (by omega) (by omega) (by rfl) (by rfl) _ _ HD2.out (by omega) (by omega)).mono ?_
  rintro e w3 ⟨rfl, hk, hd⟩
  have HK3 := Lib.hid (HK2.out.tr hk)
  have HD3 := Lib.hid hd
  clear hk hd
  have c5 : w3.cell? ⟨g, 5, none⟩ = some (.bool d.f.pref) := (HD3.out.cf (i := 5) (by omega)).trans rfl
  cases hp : d.f.pref
  · rw [hp] at c5
    go_wp2
    go_end0
    exact ⟨rfl, HK3.out, by have h := HD3.out; show IsD 85 _ g (d.bridge d.f.pref); rw [hp]; exact h⟩
  · rw [hp] at c5
    go_wp2_with fail
    refine (define_at g _ _ _ _ 36 4 0x00010001#64 0xFFF0FFF0#64 (by omega) (by omega) (by rfl) (by rfl) _ _ HD3.out (by omega) (by omega)).mono ?_
    rintro e w4 ⟨rfl, hk, hd⟩
    have HK4 := Lib.hid (HK3.out.tr hk)
    have HD4 := Lib.hid hd
    clear hk hd c5
    go_wp2_with fail
    refine (define_at g _ _ _ _ 40 8 0#64 0xFFFFFFFFFFFFFFFF#64 (by omega) (by omega) (by rfl) (by rfl) _ _ HD4.out (by omega) (by omega)).mono ?_
    rintro e w5 ⟨rfl, hk, hd⟩
    have HK5 := Lib.hid (HK4.out.tr hk)
    have HD5 := Lib.hid hd
    clear hk hd
    go_wp2
    go_end0
    exact ⟨rfl, HK5.out, by have h := HD5.out; show IsD 85 _ g (d.bridge d.f.pref); rw [hp]; exact h⟩
end Go.Proofs.YtolbecinjajejaaDoor
