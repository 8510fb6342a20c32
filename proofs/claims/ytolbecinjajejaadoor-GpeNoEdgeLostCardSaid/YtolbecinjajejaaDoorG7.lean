/- The law GpeLevelStaysPending: the walk. -/
import Derived.Test.YtolbecinjajejaaDoorG6
namespace Go.Proofs.YtolbecinjajejaaDoor
open Go.RowKit Go.My
set_option linter.unusedVariables false
set_option linter.unusedSimpArgs false

theorem ready_bit (b : G) (j : Nat) (hj : j < 64) : bg b.ready j = (bg b.st j && bg b.en j && !(bg b.hd j)) := by
  simp only [bg, G.ready, BitVec.getLsbD_and, BitVec.getLsbD_not]
  simp [hj]
theorem bg_zero (j : Nat) : bg 0 j = false := by simp [bg]
theorem bg_zero' (j : Nat) : bg 0#64 j = false := by simp [bg]
theorem eq_zero_of {x : BitVec 64} (h : ∀ j, j < 64 → bg x j = false) : x = 0#64 := by
  ext j hj
  rw [← BitVec.getLsbD_eq_getElem]
  have := h j hj
  unfold bg at this
  rw [this]; simp
theorem low_of {x : BitVec 64} {k : Nat} (hk : k < 64) (h1 : bg x k = true) (h2 : ∀ j, j < k → bg x j = false) : Low x k := ⟨hk, h1, h2⟩

theorem two_of (x1 x2 : UInt8) : (!(ByteArray.extract ⟨#[95, 76, x1, x2]⟩ 0 2).toList == [95, 76]) = false := by
  rw [Go.ByteArray.toList_eq]; rfl
theorem begS_level (i : Nat) : begS true i = ⟨#[95, 76, UInt8.ofNat (hexN (i / 16)).toNat, UInt8.ofNat (hexN (i % 16)).toNat]⟩ := rfl

theorem row_set (W : World) (n k : Nat) (hk : k < n) : Row1 Value.bool (fun k => W.heap.size ≤ k) (W.alloc (.cells ((madeCells #[.bool false] n).setIfInBounds k (.bool true)) 4)) (.slice (some ⟨W.heap.size, 0, none⟩) n n) ((List.replicate n false).set k true) := by
  have h := Row1.made (enc := Value.bool) (w := W) ((List.replicate n false).set k true) (t := 4) (cs := (madeCells #[.bool false] n).setIfInBounds k (.bool true)) (Blk.new' rfl) (by
    apply List.ext_getElem
    · simp [size_madeCells]
    · intro i h1 h2
      simp only [Array.toList_setIfInBounds, List.getElem_set, List.getElem_map, List.getElem_replicate]
      split
      · rfl
      · simp [madeCells, Nat.mod_one])
  rw [List.length_set, List.length_replicate] at h
  exact h

theorem cell_made (W : World) (n k : Nat) (hk : k < n) : (W.alloc (.cells (madeCells #[.bool false] n) 4)).cell? ⟨W.heap.size, k, none⟩ = some (.bool false) := by
  rw [(Blk.new W (madeCells #[.bool false] n) 4).cell]
  simp [madeCells, Nat.mod_one, hk]

theorem lv_set {n k : Nat} {lv : BitVec 64} (hk : k < n) (hn : n ≤ 64) (h : Lv ((List.replicate n false).set k true) n lv) (j : Nat) (hj : j < 64) : bg lv j = decide (j = k) := by
  rw [h j hj]
  by_cases hjn : j < n
  · rw [if_pos hjn]
    simp only [at1, List.getD, List.getElem?_set, List.length_replicate]
    by_cases e : k = j
    · subst e; simp [hk]
    · have : ¬ j = k := fun h => e h.symm
      simp [e, this, List.getElem?_replicate, hjn]
  · rw [if_neg hjn]
    have : ¬ j = k := by omega
    simp [this]

set_option maxHeartbeats 8000000 in
theorem levelLaw (a0 a1 : Int) (active : Bool) (w : World) (ht : Tab w) : Calls Tryd.prog 5 #[.int .i64 a0, .int .i64 a1, .bool active] w fun e w' => e = .returned (.bool true) ∧ Keep Non w w' := by
  have hr := md_range a0 64 (by omega)
  obtain ⟨n, hn⟩ : ∃ n : Nat, 1 + md a0 64 = n := ⟨(1 + md a0 64).toNat, by omega⟩
  have hn1 : 1 ≤ n := by omega
  have hn2 : n ≤ 64 := by omega
  have hr2 := md_range a1 n (by omega)
  obtain ⟨k, hk⟩ : ∃ k : Nat, md a1 n = k := ⟨(md a1 n).toNat, by omega⟩
  have hkn : k < n := by omega
  have hk64 : k < 64 := by omega
  have HN := Lib.hid hn
  have HK := Lib.hid hk
  have HT := Lib.hid ht
  have HMK := make_bools n (by omega) w
  have HC := cell_made w n k hkn
  have hbm := hr.1
  have hbm2 := hr.2
  clear hr hn hr2 hk ht
  go_enter Tryd.func5, Tryd.ntmps5
  go_wp2_with fail
  refine (mod_any _ _ _ (by omega) (by omega)).mono ?_
  rintro e w' ⟨rfl, rfl⟩
  go_wp2_with fail
  rw [HN.out]
  clear hbm hbm2
  refine (mod_any _ _ _ (by omega) (by omega)).mono ?_
  rintro e w' ⟨rfl, rfl⟩
  rw [HK.out]
  go_wp2_with fail
  clear HMK HC
  refine (new_ok _ _ _ _ (row_set w n k hkn) (by simp; omega) (by simp; omega)).mono ?_
  rintro e w1 ⟨g, lv, hg, rfl, hk1, hlv, hb⟩
  simp only [List.length_set, List.length_replicate] at hlv hb
  have HL := Lib.hid (lv_set hkn hn2 hlv)
  have hgw : w.heap.size ≤ g := by simp at hg; omega
  have HK1 := Lib.hid (((Keep.refl Non w).alloc _).tr hk1)
  have HB1 := Lib.hid hb
  clear hlv hb hg hk1
  go_wp2_with fail
  refine (awake17 _ (HT.out.keep HK1.out (fun h => h))).mono ?_
  rintro e w2 ⟨rfl, hk2⟩
  have HK2 := Lib.hid (HK1.out.tr hk2)
  have HB2 := Lib.hid (HB1.out.keep hk2 (fun h => h))
  clear hk2
  go_wp2_with fail
  refine (en_ok g k _ true _ HB2.out hkn hn2).mono ?_
  rintro e w3 ⟨rfl, hk3, hb3⟩
  have HK3 := Lib.hid (HK2.out.trans hk3 (fun q hq e => by simp only [My.One] at e; omega))
  have HB3 := Lib.hid hb3
  clear hk3 hb3
  go_wp2_with fail
  refine (set_ok g k _ true _ HB3.out hkn hn2).mono ?_
  rintro e w4 ⟨rfl, hk4, hb4⟩
  have HK4 := Lib.hid (HK3.out.trans hk4 (fun q hq e => by simp only [My.One] at e; omega))
  have hlk : bg lv k = true := by rw [HL.out k hk64]; simp
  have hb4' : IsG w4 g ⟨n, lv, setb 0 k true, setb 0 k true, setb 0 k true, 0, 0⟩ := by
    have e : (G.setM ⟨n, lv, 0, 0, setb 0 k true, 0, 0⟩ k true) = ⟨n, lv, setb 0 k true, setb 0 k true, setb 0 k true, 0, 0⟩ := by simp [G.setM, bg_zero']
    rw [← e]; exact hb4
  have HB4 := Lib.hid hb4'
  have HLK := Lib.hid hlk
  clear hk4 hb4 hb4' hlk
  go_wp2_with fail
  have hrd : bg (G.ready ⟨n, lv, setb 0 k true, setb 0 k true, setb 0 k true, 0, 0⟩) k = true := by
    rw [ready_bit _ _ hk64]; simp only [bg_setb _ _ _ _ hk64 hk64, bg_zero]; simp
  have hb5 := begin_ok g k _ _ HB4.out hkn hn2 hrd
  have e5 : G.begM ⟨n, lv, setb 0 k true, setb 0 k true, setb 0 k true, 0, 0⟩ k = ⟨n, lv, setb 0 k true, setb 0 k true, setb 0 k true, 0, setb 0 k true⟩ := by simp [G.begM, HLK.out]
  have e5' : begS (bg (⟨n, lv, setb 0 k true, setb 0 k true, setb 0 k true, 0, 0⟩ : G).lv k) k = ⟨#[95, 76, UInt8.ofNat (hexN (k / 16)).toNat, UInt8.ofNat (hexN (k % 16)).toNat]⟩ := by
    show begS (bg lv k) k = _
    rw [HLK.out]; rfl
  rw [e5, e5'] at hb5
  refine hb5.mono ?_
  clear hb5 e5 e5' hrd
  rintro e w5 ⟨rfl, hk5, hb5⟩
  have HK5 := Lib.hid (HK4.out.trans hk5 (fun q hq e => by simp only [My.One] at e; omega))
  have HB5 := Lib.hid hb5
  clear hk5 hb5
  generalize UInt8.ofNat (hexN (k / 16)).toNat = x1
  generalize UInt8.ofNat (hexN (k % 16)).toNat = x2
  have H2 := two_of x1 x2
  go_wp2_with fail
  clear H2
  have hz : G.ready ⟨n, lv, setb 0 k true, setb 0 k true, setb 0 k true, 0, setb 0 k true⟩ = 0#64 := eq_zero_of (fun j hj => by
    rw [ready_bit _ _ hj]; simp only [bg_setb _ _ _ _ hk64 hj, bg_zero]; split <;> simp)
  refine (next_none g _ _ HB5.out hz).mono ?_
  clear hz
  rintro e w6 ⟨rfl, hk6⟩
  have HK6 := Lib.hid (HK5.out.tr hk6)
  have HB6 := Lib.hid (HB5.out.keep hk6 (fun h => h))
  clear hk6
  go_wp2_with fail
  have hb7 := set_ok g k _ active w6 HB6.out hkn hn2
  have e7 : G.setM ⟨n, lv, setb 0 k true, setb 0 k true, setb 0 k true, 0, setb 0 k true⟩ k active = ⟨n, lv, setb (setb 0 k true) k active, setb 0 k true, setb 0 k true, 0, setb 0 k true⟩ := by
    simp only [G.setM, bg_setb _ _ _ _ hk64 hk64, if_true, HLK.out]
    cases active <;> simp
  rw [e7] at hb7
  refine hb7.mono ?_
  clear hb7 e7
  rintro e w7 ⟨rfl, hk7, hb7⟩
  have HK7 := Lib.hid (HK6.out.trans hk7 (fun q hq e => by simp only [My.One] at e; omega))
  have HB7 := Lib.hid hb7
  clear hk7 hb7
  go_wp2_with fail
  have hb8 := comp_ok g k _ w7 HB7.out hkn hn2 (by show bg (setb 0 k true) k = true; rw [bg_setb _ _ _ _ hk64 hk64]; simp)
  have e8 : G.compM ⟨n, lv, setb (setb 0 k true) k active, setb 0 k true, setb 0 k true, 0, setb 0 k true⟩ k = ⟨n, lv, setb (setb 0 k true) k active, setb (setb 0 k true) k active, setb 0 k true, 0, setb (setb 0 k true) k false⟩ := by
    simp only [G.compM, bg_setb _ _ _ _ hk64 hk64, if_true, HLK.out]
  rw [e8] at hb8
  refine hb8.mono ?_
  clear hb8 e8
  rintro e w8 ⟨rfl, hk8, hb8⟩
  have HK8 := Lib.hid (HK7.out.trans hk8 (fun q hq e => by simp only [My.One] at e; omega))
  have HB8 := Lib.hid hb8
  have HT8 := Lib.hid (HT.out.keep HK8.out (fun h => h))
  clear hk8 hb8
  have hst : bg (⟨n, lv, setb (setb 0 k true) k active, setb (setb 0 k true) k active, setb 0 k true, 0, setb (setb 0 k true) k false⟩ : G).st k = active := by
    show bg (setb _ k active) k = active
    rw [bg_setb _ _ _ _ hk64 hk64]; simp
  cases active
  all_goals
    go_wp2_with fail
    refine (status_ok g k _ _ HB8.out hkn hn2).mono ?_
    rintro e w9 ⟨rfl, rfl⟩
    rw [hst]
    clear hst
    go_wp2_with fail
  · have hz : G.ready ⟨n, lv, setb (setb 0 k true) k false, setb (setb 0 k true) k false, setb 0 k true, 0, setb (setb 0 k true) k false⟩ = 0#64 := eq_zero_of (fun j hj => by
      rw [ready_bit _ _ hj]; simp only [bg_setb _ _ _ _ hk64 hj, bg_zero]; split <;> simp)
    refine (next_none g _ _ HB8.out hz).mono ?_
    clear hz
    rintro e w10 ⟨rfl, hk10⟩
    have HK10 := Lib.hid (HK8.out.tr hk10)
    clear hk10
    go_wp2
    go_ret
    exact ⟨rfl, HK10.out⟩
  · have hz : Low (G.ready ⟨n, lv, setb (setb 0 k true) k true, setb (setb 0 k true) k true, setb 0 k true, 0, setb (setb 0 k true) k false⟩) k :=
      low_of hk64 (by rw [ready_bit _ _ hk64]; simp only [bg_setb _ _ _ _ hk64 hk64, bg_zero]; simp)
        (fun j hj => by
          have hne : ¬ k = j := by omega
          have hj64 : j < 64 := by omega
          rw [ready_bit _ _ hj64]
          simp only [bg_setb _ _ _ _ hk64 hj64, bg_zero, if_neg hne]
          simp)
    refine (next_some g k _ _ HB8.out hz HT8.out).mono ?_
    clear hz
    rintro e w10 ⟨rfl, hk10⟩
    have HK10 := Lib.hid (HK8.out.tr hk10)
    clear hk10
    go_wp2
    go_ret
    exact ⟨rfl, HK10.out⟩
end Go.Proofs.YtolbecinjajejaaDoor
