/- NewSlot of both sides; the sanity check 'awake' answers true. -/
import Derived.Test.YtolbecinjajejaaS3
import Derived.Test.YtolbecinjajejaaS4
namespace Go.Proofs.Ytolbecinjajejaa
open Go.RowKit Go.My
set_option linter.unusedVariables false
set_option linter.unusedSimpArgs false

set_option maxHeartbeats 400000 in
theorem newSlot_bad (p : Bool) (d : Int) (w : World) (h : 4294967296 < d) :
    Calls Try.prog 8 #[.bool p, .int .u64 d] w fun e w' => e = .returned (.tuple #[.pointer none, .int .i64 1]) ∧ w = w' := by
  go_enter Try.func8, Try.ntmps8
  go_wp2
  go_ret2
  exact ⟨rfl, rfl⟩

set_option maxHeartbeats 400000 in
theorem newSlot_ok (p : Bool) (d : Int) (w : World) (h : ¬ 4294967296 < d) :
    Calls Try.prog 8 #[.bool p, .int .u64 d] w fun e w' => ∃ g, w.heap.size ≤ g ∧ e = .returned (.tuple #[.pointer (some ⟨g, 0, none⟩), .int .i64 0]) ∧ Blk w' g #[.int .i64 (if p then 2 else 1), .int .u64 d, .int .u64 0] 71 ∧ Keep Non w w' := by
  cases p
  all_goals
    go_enter Try.func8, Try.ntmps8
    go_wp2
    go_ret2
    exact ⟨_, Nat.le_refl _, rfl, Blk.new _ _ _, (Keep.refl _ _).alloc _⟩

set_option maxHeartbeats 400000 in
theorem refNewSlot (p : Bool) (d : Int) (w : World) :
    Calls Try.prog 9 #[.bool p, .int .u64 d] w fun e w' => ∃ g, w.heap.size ≤ g ∧ e = .returned (.pointer (some ⟨g, 0, none⟩)) ∧ Blk w' g #[.int .i64 (if p then 2 else 1), .int .u64 d, .int .u64 0] 39 ∧ Keep Non w w' := by
  cases p
  all_goals
    go_enter Try.func9, Try.ntmps9
    go_wp2
    go_ret
    exact ⟨_, Nat.le_refl _, rfl, Blk.new _ _ _, (Keep.refl _ _).alloc _⟩

theorem hnd_awake1 : hnd 2 5 0 3 10 = ([1], 0, 3, 15) := by simp [hnd]
theorem hnd_awake2 : hnd 4 5 15 2 20 = ([5, 2], 0, 1, 15) := by simp [hnd]
theorem adv_awake : adv 3 15 15 = ([3], 4) := by simp [adv]

set_option maxHeartbeats 4000000 in
theorem awake23 (w : World) : Calls Try.prog 10 #[] w fun e w' => e = .returned (.bool true) ∧ Keep Non w w' := by
  go_enter Try.func10, Try.ntmps10
  go_wp2_with fail
  refine (newSlot_ok true 5 _ (by omega)).mono ?_
  rintro e w1 ⟨g, hg, rfl, hb1, hk1⟩
  have HK1 := Lib.hid hk1
  clear hk1
  simp only [if_true] at hb1
  have HB1 := Lib.hid hb1
  clear hb1
  go_wp2_with fail
  have h2 := implHandle g 2 5 0 3 10 w1 HB1.out (by omega) (by omega) (by omega) (by omega) (by omega)
  rw [hnd_awake1] at h2
  refine h2.mono ?_
  rintro e w2 ⟨v2, rfl, hv2, hb2, hk2⟩
  have HV2 := Lib.hid hv2
  have HB2 := Lib.hid hb2
  have HK2 := Lib.hid hk2
  clear hv2 hb2 hk2 h2
  go_wp2_with fail
  have h3 := implAdvance g 3 5 15 15 w2 HB2.out
  rw [adv_awake] at h3
  refine h3.mono ?_
  rintro e w3 ⟨v3, rfl, hv3, hb3, hk3⟩
  have HV3 := Lib.hid hv3
  have HB3 := Lib.hid hb3
  have HK3 := Lib.hid hk3
  clear hv3 hb3 hk3 h3
  go_wp2_with fail
  have h4 := implHandle g 4 5 15 2 20 w3 HB3.out (by omega) (by omega) (by omega) (by omega) (by omega)
  rw [hnd_awake2] at h4
  refine h4.mono ?_
  rintro e w4 ⟨v4, rfl, hv4, hb4, hk4⟩
  have HV4 := Lib.hid hv4
  have HB4 := Lib.hid hb4
  have HK4 := Lib.hid hk4
  clear hv4 hb4 hk4 h4
  go_wp2_with fail
  have l1 := HB1.out.lt
  refine (equal_any (O' := fun k => w4.heap.size ≤ k) v2 _ [1] [1] _ (((HV2.out.keep HK3.out (fun k h _ e => by simp only [My.One] at e; omega)).keep HK4.out (fun k h _ e => by simp only [My.One] at e; omega)).keepN ((Keep.refl _ _).alloc _)) (Ints.made [_] (t := 3) (cs := #[_]) (Blk.new' rfl) rfl) (by simp)).mono ?_
  rintro e w5 ⟨rfl, hk5⟩
  have HK5 := Lib.hid hk5
  clear hk5
  go_wp2_with fail
  refine (equal_any (O' := fun k => w5.heap.size ≤ k) v3 _ [3] [3] _ ((((HV3.out.keep HK4.out (fun k h _ e => by have := HB2.out.lt; simp only [My.One] at e; omega)).keepN ((Keep.refl _ _).alloc _)).keepN HK5.out).keepN ((Keep.refl _ _).alloc _)) (Ints.made [_] (t := 3) (cs := #[_]) (Blk.new' rfl) rfl) (by simp)).mono ?_
  rintro e w6 ⟨rfl, hk6⟩
  have HK6 := Lib.hid hk6
  clear hk6
  go_wp2_with fail
  refine (equal_any (O' := fun k => w6.heap.size ≤ k) v4 _ [5, 2] [5, 2] _ (((((HV4.out.keepN ((Keep.refl _ _).alloc _)).keepN HK5.out).keepN ((Keep.refl _ _).alloc _)).keepN HK6.out).keepN ((Keep.refl _ _).alloc _)) (Ints.made [_, _] (t := 3) (cs := #[_, _]) (Blk.new' rfl) rfl) (by simp)).mono ?_
  rintro e w7 ⟨rfl, hk7⟩
  have HK7 := Lib.hid hk7
  clear hk7
  go_wp2_with fail
  refine (slotState g 1 5 15 _ ((((((HB4.out.alloc _).keep HK5.out (fun h => h)).alloc _).keep HK6.out (fun h => h)).alloc _).keep HK7.out (fun h => h))).mono ?_
  rintro e w8 ⟨rfl, rfl⟩
  go_wp2
  go_ret
  refine ⟨rfl, ?_⟩
  have k4 := ((HK1.out.trans HK2.out (fun k h e => by simp only [My.One] at e; omega)).trans HK3.out (fun k h e => by simp only [My.One] at e; omega)).trans HK4.out (fun k h e => by simp only [My.One] at e; omega)
  exact (((((k4.alloc _).tr HK5.out).alloc _).tr HK6.out).alloc _).tr HK7.out
end Go.Proofs.Ytolbecinjajejaa
