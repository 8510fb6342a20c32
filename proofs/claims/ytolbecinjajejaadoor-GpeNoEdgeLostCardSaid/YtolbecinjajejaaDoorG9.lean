/- The law GpeNoEdgeLost: the walk. -/
import Derived.Test.YtolbecinjajejaaDoorG9a
import Derived.Deep.RegionWith
import Derived.Deep.DeepCutAuto
import Derived.Deep.CutBlock
namespace Go.Proofs.YtolbecinjajejaaDoor
open Go.RowKit Go.My
set_option linter.unusedVariables false
set_option linter.unusedSimpArgs false

theorem next_inv (g : Nat) (b : G) (l p h : Bool) (w : World) (hg : IsG w g b) (hi : Inv b l p h) (ht : Tab w) :
    Calls Tryd.prog 14 #[.pointer (some ⟨g, 0, none⟩)] w fun e w' => e = .returned (.tuple #[.int .i64 0, .bool (p && !h)]) ∧ Keep Non w w' := by
  cases p <;> cases h
  · exact next_none g b w hg (hi.none rfl)
  · exact next_none g b w hg (hi.none rfl)
  · exact next_some g 0 b w hg hi.some ht
  · exact next_none g b w hg (hi.none rfl)
theorem status_inv (g : Nat) (b : G) (l p h : Bool) (w : World) (hg : IsG w g b) (hi : Inv b l p h) :
    Calls Tryd.prog 17 #[.pointer (some ⟨g, 0, none⟩), .int .i64 0] w fun e w' => e = .returned (.bool p) ∧ w' = w := by
  have := status_ok g 0 b w hg (by have := hi.n; omega) (by have := hi.n; omega)
  rw [hi.st] at this
  exact this

set_option maxHeartbeats 100000000 in
set_option maxRecDepth 100000 in
theorem edgeLaw {O : Nat → Prop} (v : Value) (xs : List OpG) (w : World) (hx : RowR ROp 3 O w v xs) (ht : Tab w) :
    Calls Tryd.prog 4 #[v] w fun e w' => e = .returned (.bool true) ∧ Keep Non w w' := by
  obtain ⟨A, c, rfl, hl, hm, hx⟩ := hx
  unfold maxLen at hm
  have HX := Lib.hid hx
  have HT := Lib.hid ht
  clear hx ht
  go_enter Tryd.func4, Tryd.ntmps4
  go_wp2_with fail
  refine (new_ok _ [false, true, false] _ _ (Row1.made (w := w) [false, true, false] (t := 4) (cs := #[_, _, _]) (Blk.new' rfl) rfl) (by simp) (by simp)).mono ?_
  rintro e w1 ⟨g, lv, hg, rfl, hk1, hlv, hb⟩
  have hlv0 : bg lv 0 = false := by rw [hlv 0 (by omega)]; rfl
  have hgw : w.heap.size ≤ g := by simp at hg; omega
  have HK1 := Lib.hid (((Keep.refl Non w).alloc (.cells #[.bool false, .bool true, .bool false] 4)).tr hk1)
  have HB1 := Lib.hid hb
  have HLV := Lib.hid hlv0
  clear hlv hb hg hk1 hlv0
  go_wp2_with fail
  refine (awake17 _ (HT.out.keep HK1.out (fun h => h))).mono ?_
  rintro e w2 ⟨rfl, hk2⟩
  have HK2 := Lib.hid (HK1.out.tr hk2)
  have HB2 := Lib.hid (HB1.out.keep hk2 (fun h => h))
  clear hk2
  go_wp2_with fail
  refine (en_ok g 0 _ true _ HB2.out (show 0 < 3 by omega) (show 3 ≤ 64 by omega)).mono ?_
  rintro e w3 ⟨rfl, hk3, hb3⟩
  have HK3 := Lib.hid (HK2.out.trans hk3 (fun q hq e => by simp only [My.One] at e; omega))
  have HB3 := Lib.hid hb3
  clear hk3 hb3
  go_wp2_with fail
  go_loopw [5, 6, 7, 8] (fun l p h i wr => ∃ (k : Nat) (b : G) (L P H : Bool), l = .bool L ∧ p = .bool P ∧ h = .bool H ∧ i = .int .i64 k ∧ k ≤ xs.length ∧ Hid (Inv b L P H) ∧ Hid (IsG wr g b) ∧ Hid (Keep Non w wr)) (fun _ _ _ i _ => xs.length - (intOf i).toNat)
  case atStart => exact ⟨0, _, false, false, false, rfl, rfl, rfl, rfl, Nat.zero_le _, ⟨rfl, HLV.out, rfl, bg_zero 0, bg_zero 0, bg_zero 0⟩, HB3.out, HK3.out⟩
  case round =>
    obtain ⟨k, b, L, P, H, rfl, rfl, rfl, rfl, hk, HI, HB, HK⟩ := hrel
    by_cases hlt : k < xs.length
    · by_cases h90 : k < 90
      · obtain ⟨bb, off, cs, rfl, hcl, hr, hcc⟩ := rowR_at ⟨0, 0, false⟩ HX.out hlt
        generalize at1 _ xs k = x at hr
        obtain ⟨q0, q1, q2⟩ := cells_three hcl hr hcc
        have c0 := HK.out.cell' q0 (fun h => h)
        have c1 := HK.out.cell' q1 (fun h => h)
        have c2 := HK.out.cell' q2 (fun h => h)
        clear q0 q1 q2 hcl hr hcc
        obtain ⟨xk, xe, xon⟩ := x
        have HBa : Hid (IsG (wr.alloc (Obj.cells #[Value.int IntKind.i64 xk, Value.int IntKind.i64 xe, Value.bool xon] 33)) g b) := Blk.alloc HB.out _
        have HKa : Hid (Keep Non w (wr.alloc (Obj.cells #[Value.int IntKind.i64 xk, Value.int IntKind.i64 xe, Value.bool xon] 33))) := HK.out.alloc _
        have HTa := Lib.hid (HT.out.keep HKa.out (fun h => h))
        go_wp2_with fail
        refine (mod_any _ _ _ (by omega) (by omega)).mono ?_
        rintro e w' ⟨rfl, rfl⟩
        have hr := md_range xk 6 (by omega)
        generalize md xk 6 = m at *
        go_upto_block 2 with fail
        go_cut [5, 6, 7] (fun l p h wx => ∃ (b' : G) (L' P' H' : Bool), l = .bool L' ∧ p = .bool P' ∧ h = .bool H' ∧ Hid (Inv b' L' P' H') ∧ Hid (IsG wx g b') ∧ Hid (Keep Non w wx))
        case first =>
          rcases (by omega : m = 0 ∨ m = 1 ∨ m = 2 ∨ m = 3 ∨ m = 4 ∨ m = 5) with rfl | rfl | rfl | rfl | rfl | rfl
          all_goals clear hr
          · -- m = 0
            cases xon
            · go_wp2_with fail
              refine (set_ok g 0 b false _ HBa.out (by have := HI.out.n; omega) (by have := HI.out.n; omega)).mono ?_
              rintro e z1 ⟨rfl, hk, hb⟩
              have HI1 : Hid (Inv (b.setM 0 false) false P H) := by have := HI.out.set0 false; show Inv _ _ _ _; simpa using this
              have HK1 := Lib.hid (HKa.out.trans hk (fun q hq e => by simp only [My.One] at e; omega))
              have HB1 := Lib.hid hb
              clear hk hb
              go_wp2_with fail
              go_meet
              exact ⟨_, _, _, _, rfl, rfl, rfl, HI1.out, HB1.out, HK1.out⟩
            · cases L
              · go_wp2_with fail
                refine (set_ok g 0 b true _ HBa.out (by have := HI.out.n; omega) (by have := HI.out.n; omega)).mono ?_
                rintro e z1 ⟨rfl, hk, hb⟩
                have HI1 : Hid (Inv (b.setM 0 true) true true H) := by have := HI.out.set0 true; show Inv _ _ _ _; simpa using this
                have HK1 := Lib.hid (HKa.out.trans hk (fun q hq e => by simp only [My.One] at e; omega))
                have HB1 := Lib.hid hb
                clear hk hb
                go_wp2_with fail
                go_meet
                exact ⟨_, _, _, _, rfl, rfl, rfl, HI1.out, HB1.out, HK1.out⟩
              · go_wp2_with fail
                refine (set_ok g 0 b true _ HBa.out (by have := HI.out.n; omega) (by have := HI.out.n; omega)).mono ?_
                rintro e z1 ⟨rfl, hk, hb⟩
                have HI1 : Hid (Inv (b.setM 0 true) true P H) := by have := HI.out.set0 true; show Inv _ _ _ _; simpa using this
                have HK1 := Lib.hid (HKa.out.trans hk (fun q hq e => by simp only [My.One] at e; omega))
                have HB1 := Lib.hid hb
                clear hk hb
                go_wp2_with fail
                go_meet
                exact ⟨_, _, _, _, rfl, rfl, rfl, HI1.out, HB1.out, HK1.out⟩
          · -- m = 1
            cases xon
            · go_wp2_with fail
              refine (set_ok g 0 b false _ HBa.out (by have := HI.out.n; omega) (by have := HI.out.n; omega)).mono ?_
              rintro e z1 ⟨rfl, hk, hb⟩
              have HI1 : Hid (Inv (b.setM 0 false) false P H) := by have := HI.out.set0 false; show Inv _ _ _ _; simpa using this
              have HK1 := Lib.hid (HKa.out.trans hk (fun q hq e => by simp only [My.One] at e; omega))
              have HB1 := Lib.hid hb
              clear hk hb
              go_wp2_with fail
              go_meet
              exact ⟨_, _, _, _, rfl, rfl, rfl, HI1.out, HB1.out, HK1.out⟩
            · cases L
              · go_wp2_with fail
                refine (set_ok g 0 b true _ HBa.out (by have := HI.out.n; omega) (by have := HI.out.n; omega)).mono ?_
                rintro e z1 ⟨rfl, hk, hb⟩
                have HI1 : Hid (Inv (b.setM 0 true) true true H) := by have := HI.out.set0 true; show Inv _ _ _ _; simpa using this
                have HK1 := Lib.hid (HKa.out.trans hk (fun q hq e => by simp only [My.One] at e; omega))
                have HB1 := Lib.hid hb
                clear hk hb
                go_wp2_with fail
                go_meet
                exact ⟨_, _, _, _, rfl, rfl, rfl, HI1.out, HB1.out, HK1.out⟩
              · go_wp2_with fail
                refine (set_ok g 0 b true _ HBa.out (by have := HI.out.n; omega) (by have := HI.out.n; omega)).mono ?_
                rintro e z1 ⟨rfl, hk, hb⟩
                have HI1 : Hid (Inv (b.setM 0 true) true P H) := by have := HI.out.set0 true; show Inv _ _ _ _; simpa using this
                have HK1 := Lib.hid (HKa.out.trans hk (fun q hq e => by simp only [My.One] at e; omega))
                have HB1 := Lib.hid hb
                clear hk hb
                go_wp2_with fail
                go_meet
                exact ⟨_, _, _, _, rfl, rfl, rfl, HI1.out, HB1.out, HK1.out⟩
          · -- m = 2
            cases P <;> cases H
            · go_wp2_with fail
              refine (next_none g _ _ HBa.out (HI.out.none rfl)).mono ?_
              rintro e z0 ⟨rfl, hk0⟩
              have HB1 := Lib.hid (HBa.out.keep hk0 (fun h => h))
              have HK1 := Lib.hid (HKa.out.tr hk0)
              have HI1 := HI
              clear hk0
              go_wp2_with fail
              go_meet
              exact ⟨_, _, _, _, rfl, rfl, rfl, HI1.out, HB1.out, HK1.out⟩
            · go_wp2_with fail
              refine (next_none g _ _ HBa.out (HI.out.none rfl)).mono ?_
              rintro e z0 ⟨rfl, hk0⟩
              have HB1 := Lib.hid (HBa.out.keep hk0 (fun h => h))
              have HK1 := Lib.hid (HKa.out.tr hk0)
              have HI1 := HI
              clear hk0
              go_wp2_with fail
              go_meet
              exact ⟨_, _, _, _, rfl, rfl, rfl, HI1.out, HB1.out, HK1.out⟩
            · go_wp2_with fail
              refine (next_some g 0 _ _ HBa.out HI.out.some HTa.out).mono ?_
              rintro e z0 ⟨rfl, hk0⟩
              have HBx := Lib.hid (HBa.out.keep hk0 (fun h => h))
              have HKx := Lib.hid (HKa.out.tr hk0)
              clear hk0
              go_wp2_with fail
              refine (begin_ok g 0 b _ HBx.out (by have := HI.out.n; omega) (by have := HI.out.n; omega) (by rw [HI.out.bit 0 (by omega)]; rfl)).mono ?_
              rintro e z1 ⟨rfl, hk, hb⟩
              clear HKa
              have HKa := HKx
              have HI1 : Hid (Inv _ L false true) := HI.out.beg
              have HK1 := Lib.hid (HKa.out.trans hk (fun q hq e => by simp only [My.One] at e; omega))
              have HB1 := Lib.hid hb
              clear hk hb
              go_wp2_with fail
              go_meet
              exact ⟨_, _, _, _, rfl, rfl, rfl, HI1.out, HB1.out, HK1.out⟩
            · go_wp2_with fail
              refine (next_none g _ _ HBa.out (HI.out.none rfl)).mono ?_
              rintro e z0 ⟨rfl, hk0⟩
              have HB1 := Lib.hid (HBa.out.keep hk0 (fun h => h))
              have HK1 := Lib.hid (HKa.out.tr hk0)
              have HI1 := HI
              clear hk0
              go_wp2_with fail
              go_meet
              exact ⟨_, _, _, _, rfl, rfl, rfl, HI1.out, HB1.out, HK1.out⟩
          · -- m = 3
            cases H
            · go_wp2_with fail
              refine (comp_no g 0 b _ HBa.out (by have := HI.out.n; omega) (by have := HI.out.n; omega) HI.out.hd).mono ?_
              rintro e z1 ⟨rfl, rfl⟩
              have HI1 := HI
              have HB1 := HBa
              have HK1 := HKa
              go_wp2_with fail
              go_meet
              exact ⟨_, _, _, _, rfl, rfl, rfl, HI1.out, HB1.out, HK1.out⟩
            · go_wp2_with fail
              refine (comp_ok g 0 b _ HBa.out (by have := HI.out.n; omega) (by have := HI.out.n; omega) HI.out.hd).mono ?_
              rintro e z1 ⟨rfl, hk, hb⟩
              have HI1 : Hid (Inv _ L P false) := HI.out.comp
              have HK1 := Lib.hid (HKa.out.trans hk (fun q hq e => by simp only [My.One] at e; omega))
              have HB1 := Lib.hid hb
              clear hk hb
              go_wp2_with fail
              go_meet
              exact ⟨_, _, _, _, rfl, rfl, rfl, HI1.out, HB1.out, HK1.out⟩
          · -- m = 4
            go_wp2_with fail
            obtain ⟨j, hj, hj12⟩ : ∃ j : Nat, 1 + md xe 2 = j ∧ (j = 1 ∨ j = 2) := ⟨(1 + md xe 2).toNat, by have := md_range xe 2 (by omega); omega, by have := md_range xe 2 (by omega); omega⟩
            have hjn : j < b.n := by have := HI.out.n; omega
            have hn64 : b.n ≤ 64 := by have := HI.out.n; omega
            have HMOD : Hid (∀ w, Calls Tryd.prog 9 #[.int .i64 xe, .int .i64 2] w fun e w' => e = .returned (.int .i64 (md xe 2)) ∧ w = w') := fun w => mod_any xe 2 w (by omega) (by omega)
            have hmr := (md_range xe 2 (by omega)).1
            have hmr2 := (md_range xe 2 (by omega)).2
            have hwr : IntKind.i64.wrap (1 + md xe 2) = (j : Int) := by rw [IntWalk.i64_in _ (by omega)]; exact hj
            clear hj hmr hmr2
            go_region_with (first | (go_at_call 9; refine (HMOD.out _).mono ?_; rintro e w' ⟨rfl, rfl⟩) | (go_at_call 13; refine (set_ok g j b xon _ (IsG.drew HBa.out) hjn hn64).mono ?_; rintro e z1 ⟨rfl, hk0, hb0⟩; have hk := Lib.hid hk0; have hb := Lib.hid hb0; clear hk0 hb0))
            all_goals
              clear hwr
              have HI1 : Hid (Inv _ L P H) := HI.out.set xon j hj12
              have HB1 := hb
              have HK1 := Lib.hid ((Keep.drew HKa.out).trans hk.out (fun q hq e => by simp only [My.One] at e; omega))
              go_wp2_with fail
              go_meet
              exact ⟨_, _, _, _, rfl, rfl, rfl, HI1.out, HB1.out, HK1.out⟩
          · -- m = 5
            go_wp2_with fail
            obtain ⟨j, hj, hj12⟩ : ∃ j : Nat, 1 + md xe 2 = j ∧ (j = 1 ∨ j = 2) := ⟨(1 + md xe 2).toNat, by have := md_range xe 2 (by omega); omega, by have := md_range xe 2 (by omega); omega⟩
            have hjn : j < b.n := by have := HI.out.n; omega
            have hn64 : b.n ≤ 64 := by have := HI.out.n; omega
            have HMOD : Hid (∀ w, Calls Tryd.prog 9 #[.int .i64 xe, .int .i64 2] w fun e w' => e = .returned (.int .i64 (md xe 2)) ∧ w = w') := fun w => mod_any xe 2 w (by omega) (by omega)
            have hmr := (md_range xe 2 (by omega)).1
            have hmr2 := (md_range xe 2 (by omega)).2
            have hwr : IntKind.i64.wrap (1 + md xe 2) = (j : Int) := by rw [IntWalk.i64_in _ (by omega)]; exact hj
            clear hj hmr hmr2
            go_region_with (first | (go_at_call 9; refine (HMOD.out _).mono ?_; rintro e w' ⟨rfl, rfl⟩) | (go_at_call 13; refine (set_ok g j b xon _ (IsG.drew HBa.out) hjn hn64).mono ?_; rintro e z1 ⟨rfl, hk0, hb0⟩; have hk := Lib.hid hk0; have hb := Lib.hid hb0; clear hk0 hb0))
            all_goals
              clear hwr
              have HI1 : Hid (Inv _ L P H) := HI.out.set xon j hj12
              have HB1 := hb
              have HK1 := Lib.hid ((Keep.drew HKa.out).trans hk.out (fun q hq e => by simp only [My.One] at e; omega))
              go_wp2_with fail
              go_meet
              exact ⟨_, _, _, _, rfl, rfl, rfl, HI1.out, HB1.out, HK1.out⟩
        case rest =>
          clear HI HB HK HBa HKa HTa hr
          obtain ⟨b', L', P', H', rfl, rfl, rfl, HI1, HB1, HK1⟩ := hcut
          have HT1 := Lib.hid (HT.out.keep HK1.out (fun h => h))
          go_wp2_with fail
          refine (next_inv g _ L' P' H' _ HB1.out HI1.out HT1.out).mono ?_
          rintro e z2 ⟨rfl, hk⟩
          have HB3 := Lib.hid (HB1.out.keep hk (fun h => h))
          have HK3 := Lib.hid (HK1.out.tr hk)
          clear hk
          go_wp2_with fail
          refine (status_inv g _ L' P' H' _ HB3.out HI1.out).mono ?_
          rintro e z3 ⟨rfl, rfl⟩
          cases P' <;> cases H'
          all_goals
            go_wp2
            exact ⟨⟨k + 1, _, L', _, _, rfl, rfl, rfl, by go_num, by omega, HI1.out, HB3.out, HK3.out⟩, by simp [intOf]; omega⟩
      · go_wp2
        go_ret
        exact ⟨rfl, HK.out⟩
    · go_wp2
      go_ret
      exact ⟨rfl, HK.out⟩
end Go.Proofs.YtolbecinjajejaaDoor
