/- The block of events: New; the sanity check. -/
import Derived.Test.YtolbecinjajejaaDoorG4
import Derived.Test.YtolbecinjajejaaDoorL1
namespace Go.Proofs.YtolbecinjajejaaDoor
open Go.RowKit Go.My
set_option linter.unusedVariables false
set_option linter.unusedSimpArgs false

set_option maxHeartbeats 1000000 in
theorem new_bad (v : Value) (xs : List Bool) (O : Nat → Prop) (w : World) (h : Row1 Value.bool O w v xs) (hn : xs.length < 1 ∨ 64 < xs.length) :
    Calls Tryd.prog 10 #[v] w fun e w' => e = .returned (.tuple #[.pointer none, .int .i64 1]) ∧ w = w' := by
  obtain ⟨A, c, rfl, hl, h⟩ := h
  clear h
  rcases hn with hn | hn
  · have h0 : xs.length = 0 := by omega
    rw [h0]
    clear h0 hn hl
    go_enter Tryd.func10, Tryd.ntmps10
    go_wp2
    go_ret2
    exact ⟨rfl, rfl⟩
  · go_enter Tryd.func10, Tryd.ntmps10
    go_wp2
    go_ret2
    exact ⟨rfl, rfl⟩

/-- The levels as a word. -/
def Lv (xs : List Bool) (k : Nat) (lv : BitVec 64) : Prop := ∀ j, j < 64 → bg lv j = (if j < k then at1 false xs j else false)

set_option maxHeartbeats 2000000 in
theorem new_ok (v : Value) (xs : List Bool) (O : Nat → Prop) (w : World) (h : Row1 Value.bool O w v xs) (hn : 1 ≤ xs.length) (hm : xs.length ≤ 64) :
    Calls Tryd.prog 10 #[v] w fun e w' => ∃ g lv, w.heap.size ≤ g ∧ e = .returned (.tuple #[.pointer (some ⟨g, 0, none⟩), .int .i64 0]) ∧ Keep Non w w' ∧ Lv xs xs.length lv ∧ IsG w' g ⟨xs.length, lv, 0, 0, 0, 0, 0⟩ := by
  obtain ⟨A, c, rfl, hl, h⟩ := h
  have HX := Lib.hid h
  clear h
  go_enter Tryd.func10, Tryd.ntmps10
  go_wp2
  generalize hg0 : w.heap.size = g
  have HG0 := Lib.hid hg0
  have hb0 : IsG (w.alloc (Obj.cells #[.int .i64 xs.length, .int .u64 0, .int .u64 0, .int .u64 0, .int .u64 0, .int .u64 0, .int .u64 0] 70)) g ⟨xs.length, 0, 0, 0, 0, 0, 0⟩ := by
    rw [← hg0]; exact Blk.new _ _ _
  have HB0 := Lib.hid hb0
  clear hb0 hg0
  go_loopw [21] (fun i wr => ∃ (k : Nat) (lv : BitVec 64), i = .int .i64 k ∧ k ≤ xs.length ∧ Hid (Lv xs k lv) ∧ Hid (IsG wr g ⟨xs.length, lv, 0, 0, 0, 0, 0⟩) ∧ Hid (Keep Non w wr)) (fun i _ => xs.length - (intOf i).toNat)
  case atStart => exact ⟨0, 0, rfl, Nat.zero_le _, fun j hj => by simp [bg], HB0.out, (Keep.refl _ _).alloc _⟩
  case round =>
    obtain ⟨k, lv, rfl, hk, HL, HB, HK⟩ := hrel
    by_cases hlt : k < xs.length
    · obtain ⟨b, off, rfl, hc0⟩ := row1_at false HX.out hlt
      have hc := HK.out.cell' hc0 (fun h => h)
      clear hc0
      go_wp2_with fail
      refine (setLv g k _ (at1 false xs k) _ HB.out (by omega)).mono ?_
      rintro e w2 ⟨rfl, hk2, hg2⟩
      have HK2 := Lib.hid (HK.out.trans hk2 (fun q hq e => by have := HG0.out; simp only [My.One] at e; omega))
      have HB2 := Lib.hid hg2
      clear hk2 hg2
      go_wp2
      refine ⟨⟨k + 1, _, by go_num, by omega, ?_, HB2.out, HK2.out⟩, by simp [intOf]; omega⟩
      intro j hj
      rw [bg_setb _ _ _ _ (by omega) hj]
      by_cases hjk : k = j
      · subst hjk; simp
      · rw [if_neg hjk, HL.out j hj]
        by_cases hj2 : j < k
        · rw [if_pos hj2, if_pos (by omega)]
        · rw [if_neg hj2, if_neg (by omega)]
    · have hke : k = xs.length := by omega
      have HKE := Lib.hid hke
      clear hke
      go_wp2
      go_ret2
      exact ⟨g, lv, by have := HG0.out; omega, rfl, HK.out, by rw [← HKE.out]; exact HL.out, HB.out⟩

theorem lv_none {xs : List Bool} {k : Nat} {lv : BitVec 64} (h : Lv xs k lv) (hf : ∀ j, j < k → at1 false xs j = false) : lv = 0#64 := by
  ext j hj
  have h1 := h j hj
  rw [← BitVec.getLsbD_eq_getElem]
  unfold bg at h1
  rw [h1]
  by_cases hjk : j < k
  · rw [if_pos hjk, hf j hjk]; simp
  · rw [if_neg hjk]; simp

theorem awake_low : Low ((⟨2, 0, setb 0 1 true, setb 0 1 true, setb 0 1 true, 0, 0⟩ : G).ready) 1 := by
  refine ⟨by omega, by decide, fun j hj => ?_⟩
  obtain rfl : j = 0 := by omega
  decide

set_option maxHeartbeats 4000000 in
theorem awake17 (w : World) (ht : Tab w) : Calls Tryd.prog 11 #[] w fun e w' => e = .returned (.bool true) ∧ Keep Non w w' := by
  have HT := Lib.hid ht
  clear ht
  go_enter Tryd.func11, Tryd.ntmps11
  go_wp2_with fail
  refine (new_ok _ [false, false] _ _ (Row1.made (w := w) [false, false] (t := 4) (cs := #[_, _]) (Blk.new' rfl) rfl) (by simp) (by simp)).mono ?_
  rintro e w1 ⟨g, lv, hg, rfl, hk, hlv, hb⟩
  have h0 := lv_none hlv (fun j hj => by simp at hj; rcases (by omega : j = 0 ∨ j = 1) with rfl | rfl <;> rfl)
  subst h0
  have hgw : w.heap.size ≤ g := by simp at hg; omega
  have HK := Lib.hid (((Keep.refl Non w).alloc (.cells #[.bool false, .bool false] 4)).trN hk)
  have HB := Lib.hid hb
  clear hk hb hlv hg
  go_wp2_with fail
  refine (set_ok g 1 _ true _ HB.out (by decide) (by decide)).mono ?_
  rintro e w2 ⟨rfl, hk2, hb2⟩
  have HK2 := Lib.hid (HK.out.trans hk2 (fun q hq e => by simp only [My.One] at e; omega))
  have HB2 := Lib.hid hb2
  clear hk2 hb2
  go_wp2_with fail
  refine (en_ok g 1 _ true _ HB2.out (by decide) (by decide)).mono ?_
  rintro e w3 ⟨rfl, hk3, hb3⟩
  have HK3 := Lib.hid (HK2.out.trans hk3 (fun q hq e => by simp only [My.One] at e; omega))
  have HB3 : Hid (IsG w3 g ⟨2, 0, setb 0 1 true, setb 0 1 true, setb 0 1 true, 0, 0⟩) := hb3
  have HT3 := Lib.hid (HT.out.keep HK3.out (fun h => h))
  clear hk3 hb3
  go_wp2_with fail
  refine (next_some g 1 _ _ HB3.out awake_low HT3.out).mono ?_
  rintro e w4 ⟨rfl, hk4⟩
  have HK4 := Lib.hid (HK3.out.tr hk4)
  have HB4 := Lib.hid (HB3.out.keep hk4 (fun h => h))
  clear hk4
  go_wp2_with fail
  refine (begin_ok g 1 _ _ HB4.out (by decide) (by decide) (by decide)).mono ?_
  rintro e w5 ⟨rfl, hk5, hb5⟩
  have HK5 := Lib.hid (HK4.out.trans hk5 (fun q hq e => by simp only [My.One] at e; omega))
  have HB5 := Lib.hid hb5
  have hs : begS (bg (0 : BitVec 64) 1) 1 = ⟨#[95, 69, 48, 49]⟩ := by decide
  have hs' : begS (bg (⟨2, 0, setb 0 1 true, setb 0 1 true, setb 0 1 true, 0, 0⟩ : G).lv 1) 1 = ⟨#[95, 69, 48, 49]⟩ := hs
  clear hk5 hb5
  rw [hs']
  clear hs hs'
  go_wp2_with fail
  refine (status_ok g 1 _ _ HB5.out (by decide) (by decide)).mono ?_
  rintro e w6 ⟨rfl, rfl⟩
  have hst : bg (G.begM ⟨2, 0, setb 0 1 true, setb 0 1 true, setb 0 1 true, 0, 0⟩ 1).st 1 = false := by decide
  rw [hst]
  clear hst
  go_wp2_with fail
  refine (comp_ok g 1 _ _ HB5.out (by decide) (by decide) (by decide)).mono ?_
  rintro e w7 ⟨rfl, hk7, hb7⟩
  have HK7 := Lib.hid (HK5.out.trans hk7 (fun q hq e => by simp only [My.One] at e; omega))
  clear hk7 hb7
  go_wp2
  go_ret
  exact ⟨rfl, HK7.out⟩
end Go.Proofs.YtolbecinjajejaaDoor
