/- The law GpeWake: the walk. -/
import Derived.Test.YtolbecinjajejaaDoorG7
namespace Go.Proofs.YtolbecinjajejaaDoor
open Go.RowKit Go.My
set_option linter.unusedVariables false
set_option linter.unusedSimpArgs false

theorem at1_none (n j : Nat) : at1 false (List.replicate n false) j = false := by
  unfold at1
  rw [List.getD_eq_getElem?_getD, List.getElem?_replicate]
  split <;> rfl
theorem low_mask (x : BitVec 64) (k : Nat) (hk : k < 64) (h : ∀ j, j < k → x.getLsbD j = false) : bits .and .u64 (un x) (IntKind.u64.wrap (IntKind.u64.wrap (2 ^ k) - 1)) = 0 := by
  have hp : 2 ^ k < 2 ^ 64 := Nat.pow_lt_pow_right (by omega) hk
  have hpos := Nat.two_pow_pos k
  have e2 : IntKind.u64.wrap (IntKind.u64.wrap (2 ^ k) - 1) = un (BitVec.ofNat 64 (2 ^ k - 1)) := by
    have e0 : ((2 : Int) ^ k) = ((2 ^ k : Nat) : Int) := by simp
    rw [e0]
    generalize 2 ^ k = m at *
    rw [IntKind.wrap_u64, IntKind.wrap_u64]
    unfold un
    rw [BitVec.toNat_ofNat]
    omega
  rw [e2, bits_and]
  have : x &&& BitVec.ofNat 64 (2 ^ k - 1) = 0#64 := by
    ext j hj
    rw [← BitVec.getLsbD_eq_getElem, BitVec.getLsbD_and, BitVec.getLsbD_ofNat, Nat.testBit_two_pow_sub_one]
    by_cases e : j < k
    · rw [h j e]; simp
    · simp [e]
  rw [this]; rfl
def zb (n : Nat) : Array Value := madeCells #[.bool false] n
/-- The first k bits of x. -/
def Upto (x y : BitVec 64) (k : Nat) : Prop := ∀ j, j < 64 → bg y j = (decide (j < k) && bg x j)
theorem upto_set {x y : BitVec 64} {k : Nat} (h : Upto x y k) (hk : k < 64) : Upto x (setb y k (bg x k)) (k + 1) := by
  intro j hj
  rw [bg_setb _ _ _ _ hk hj]
  by_cases e : k = j
  · subst e; simp
  · rw [if_neg e, h j hj]
    have : decide (j < k) = decide (j < k + 1) := by
      by_cases h1 : j < k
      · simp [h1, show j < k + 1 by omega]
      · simp [h1, show ¬ j < k + 1 by omega]
    rw [this]
theorem upto_end {x y : BitVec 64} {k : Nat} (h : Upto x y k) (hk : ¬ k < 64) : y = x := by
  ext j hj
  rw [← BitVec.getLsbD_eq_getElem, ← BitVec.getLsbD_eq_getElem]
  have := h j hj
  unfold bg at this
  rw [this]
  simp [show j < k by omega]
theorem upto_zero (x : BitVec 64) : Upto x 0 0 := fun j _ => by simp [bg]

theorem shr_bit (x : BitVec 64) (k : Nat) : (bits .and .u64 (un x / 2 ^ k) 1 == 1) = bg x k := has_bit x k

set_option maxHeartbeats 8000000 in
set_option maxRecDepth 100000 in
theorem wakeLaw (s wk en : BitVec 64) (w : World) (ht : Tab w) : Calls Tryd.prog 7 #[.int .u64 (un s), .int .u64 (un wk), .int .u64 (un en)] w fun e w' => e = .returned (.bool true) ∧ Keep Non w w' := by
  have HT := Lib.hid ht
  have HMK : (Instr.makeSlice 27 (.int .i64 64) (.int .i64 64)).run Tryd.prog w = .ok (.slice (some ⟨w.heap.size, 0, none⟩) 64 64) (w.alloc (.cells (zb 64) 4)) := make_bools 64 (by omega) w
  have s0 := un_nonneg s
  have t0 := un_nonneg wk
  have e0 := un_nonneg en
  clear ht
  go_enter Tryd.func7, Tryd.ntmps7
  go_wp2_with fail
  clear HMK
  refine (new_ok _ _ _ _ (row_made w 64) (by simp) (by simp)).mono ?_
  rintro e w1 ⟨g, lv, hg, rfl, hk1, hlv, hb⟩
  have hz := lv_none hlv (fun j hj => at1_none 64 j)
  subst hz
  rw [List.length_replicate] at hb
  have hgw : w.heap.size ≤ g := by simp at hg; omega
  have HK1 := Lib.hid (((Keep.refl Non w).alloc _).tr hk1)
  have HB1 := Lib.hid hb
  clear hlv hb hg hk1
  go_wp2_with fail
  refine (awake17 _ (HT.out.keep HK1.out (fun h => h))).mono ?_
  rintro e w2 ⟨rfl, hk2⟩
  have HK2 := Lib.hid (HK1.out.tr hk2)
  have HB2 := Lib.hid (HB1.out.keep hk2 (fun h => h))
  clear hk2
  go_wp2_with fail
  go_loopw [9] (fun i wr => ∃ (k : Nat) (a b c : BitVec 64), i = .int .i64 k ∧ k ≤ 64 ∧ Hid (Upto s a k ∧ Upto en b k ∧ Upto wk c k) ∧ Hid (Keep Non w wr) ∧ Hid (IsG wr g ⟨64, 0#64, a, a, b, c, 0⟩)) (fun i _ => 64 - (intOf i).toNat)
  case atStart => exact ⟨0, 0, 0, 0, rfl, by omega, ⟨upto_zero _, upto_zero _, upto_zero _⟩, HK2.out, HB2.out⟩
  case round =>
    obtain ⟨k, a, b, c, rfl, hk, HU, HK, HB⟩ := hrel
    by_cases hlt : k < 64
    · have r1 := shr_bit en k
      have R2 := Lib.hid (shr_bit wk k)
      have R3 := Lib.hid (shr_bit s k)
      go_wp2_with fail
      try rw [R1.out]
      refine (en_ok g k _ _ _ HB.out hlt (Nat.le_refl 64)).mono ?_
      rintro e u1 ⟨rfl, hk1, hb1⟩
      have HK1 := Lib.hid (HK.out.trans hk1 (fun q hq e => by simp only [My.One] at e; omega))
      have HB1 := Lib.hid hb1
      clear hk1 hb1
      go_wp2_with fail
      try rw [R2.out]
      refine (wk_ok g k _ _ _ HB1.out hlt (Nat.le_refl 64)).mono ?_
      rintro e u2 ⟨rfl, hk2, hb2⟩
      have HK2 := Lib.hid (HK1.out.trans hk2 (fun q hq e => by simp only [My.One] at e; omega))
      have HB2 := Lib.hid hb2
      clear hk2 hb2
      go_wp2_with fail
      try rw [R3.out]
      refine (set_ok g k _ _ _ HB2.out hlt (Nat.le_refl 64)).mono ?_
      rintro e u3 ⟨rfl, hk3, hb3⟩
      have HK3 := Lib.hid (HK2.out.trans hk3 (fun q hq e => by simp only [My.One] at e; omega))
      have e3 : G.setM ⟨64, 0#64, a, a, setb b k (bg en k), setb c k (bg wk k), 0⟩ k (bg s k) = ⟨64, 0#64, setb a k (bg s k), setb a k (bg s k), setb b k (bg en k), setb c k (bg wk k), 0⟩ := by
        have hak : bg a k = false := by rw [HU.out.1 k hlt]; simp
        simp only [G.setM, hak, Bool.not_false, Bool.true_or, Bool.and_true]
        cases hs : bg s k
        · have : setb a k false = a := by
            ext j hj
            rw [← BitVec.getLsbD_eq_getElem, ← BitVec.getLsbD_eq_getElem]
            have := bg_setb a k j false hlt hj
            unfold bg at this hak
            rw [this]
            by_cases e : k = j
            · subst e; simp [hak]
            · simp [e]
          simp [this]
        · simp
      have hb3' : IsG u3 g ⟨64, 0#64, setb a k (bg s k), setb a k (bg s k), setb b k (bg en k), setb c k (bg wk k), 0⟩ := by rw [← e3]; exact hb3
      have HB3 := Lib.hid hb3'
      clear hk3 hb3 hb3' e3
      go_wp2
      exact ⟨⟨k + 1, _, _, _, by go_num, by omega, ⟨upto_set HU.out.1 hlt, upto_set HU.out.2.1 hlt, upto_set HU.out.2.2 hlt⟩, HK3.out, HB3.out⟩, by simp [intOf]; omega⟩
    · have ha := (upto_end HU.out.1 hlt).symm
      have hb := (upto_end HU.out.2.1 hlt).symm
      have hc := (upto_end HU.out.2.2 hlt).symm
      subst ha hb hc
      clear HU
      have HT2 := Lib.hid (HT.out.keep HK.out (fun h => h))
      have hrd : (⟨64, 0#64, s, s, en, wk, 0⟩ : G).ready = s &&& en := by
        ext j hj
        rw [← BitVec.getLsbD_eq_getElem, ← BitVec.getLsbD_eq_getElem]
        have := ready_bit ⟨64, 0#64, s, s, en, wk, 0⟩ j hj
        unfold bg at this
        rw [this]; simp [hj]
      by_cases hz : s &&& en = 0#64
      · have HZ := Lib.hid hz
        have hz' := bits_and s en
        rw [hz] at hz'
        have hz0 : bits .and .u64 (un s) (un en) = 0 := hz'
        clear hz hz'
        go_wp2_with fail
        refine (next_none g _ _ HB.out (by rw [hrd, HZ.out])).mono ?_
        rintro e w4 ⟨rfl, hk4⟩
        have HK4 := Lib.hid (HK.out.tr hk4)
        have HB4 := Lib.hid (HB.out.keep hk4 (fun h => h))
        clear hk4 hrd
        go_wp2_with fail
        refine (wake_any g _ _ HB4.out).mono ?_
        rintro e w5 ⟨rfl, m, rfl⟩
        have hw := bits_and s wk
        go_wp2
        go_ret
        exact ⟨rfl, HK4.out.drewN _⟩
      · obtain ⟨k2, hk2, hl1, hl2⟩ := low_exists _ hz
        have hx := bits_and s en
        have hw := bits_and s wk
        have hz0 : (un (s &&& en) == 0) = false := by
          rw [beq_eq_false_iff_ne]; intro h; exact hz (un_inj (by simpa [un] using h))
        have RB : bits .and .u64 (un (s &&& en) / 2 ^ k2) 1 = 1 := by
          have := has_bit (s &&& en) k2
          rw [hl1] at this
          simpa using this
        have HLM := Lib.hid (low_mask _ k2 hk2 hl2)
        generalize s &&& en = x at *
        have HX := Lib.hid hx
        have HW := Lib.hid hw
        have HRB := Lib.hid RB
        have HZ0 := Lib.hid hz0
        clear hx hw RB hz hz0
        go_wp2_with fail
        refine (next_some g k2 _ _ HB.out (by rw [hrd]; exact ⟨hk2, hl1, hl2⟩) HT2.out).mono ?_
        rintro e w4 ⟨rfl, hk4⟩
        have HK4 := Lib.hid (HK.out.tr hk4)
        have HB4 := Lib.hid (HB.out.keep hk4 (fun h => h))
        clear hk4 hrd hl1 hl2
        go_wp2_with fail
        refine (wake_any g _ _ HB4.out).mono ?_
        rintro e w5 ⟨rfl, m, rfl⟩
        have hx := HX.out
        have hw := HW.out
        have hrb := HRB.out
        have hz0 := HZ0.out
        have hz1 : ¬ un x = 0 := by simpa using hz0
        have hz2 : (un x != 0) = true := by simpa using hz1
        go_wp2
        go_ret
        refine ⟨?_, HK4.out.drewN _⟩
        simp [HLM.out]
end Go.Proofs.YtolbecinjajejaaDoor
