/- The law GpeMatchesModel: the walk. -/
import Derived.Test.YtolbecinjajejaaDoorG16a
namespace Go.Proofs.YtolbecinjajejaaDoor
open Go.RowKit Go.My
set_option linter.unusedVariables false
set_option linter.unusedSimpArgs false

set_option maxHeartbeats 100000000 in
set_option maxRecDepth 100000 in
theorem modelLaw {O O' : Nat → Prop} (v v' : Value) (lv0 : List Bool) (xs : List OpG) (w : World) (hv : Row1 Value.bool O' w v' lv0) (hx : RowR ROp 3 O w v xs) (ht : Tab w) :
    Calls Tryd.prog 6 #[v', v] w fun e w' => e = .returned (.bool true) ∧ Keep Non w w' := by
  obtain ⟨A', c', rfl, hl', hv⟩ := hv
  obtain ⟨A, c, rfl, hl, hm, hx⟩ := hx
  unfold maxLen at hm
  have HX := Lib.hid hx
  have HT := Lib.hid ht
  have HV : Hid (Row1 Value.bool O' w (.slice A' lv0.length c') lv0) := ⟨A', c', rfl, hl', hv⟩
  clear hx ht hv
  go_enter Tryd.func6, Tryd.ntmps6
  by_cases h40 : 1 ≤ lv0.length ∧ lv0.length ≤ 40
  · obtain ⟨h1, h2⟩ := h40
    go_wp2_with fail
    have HROW := HV
    have HKW : Hid (Keep Non w w) := Keep.refl _ _
    have hn1 := h1
    have hn40 := h2
    as_aux_lemma =>
      have HTW := Lib.hid (HT.out.keep HKW.out (fun h => h))
      refine (new_ok _ lv0 _ _ HROW.out hn1 (by omega)).mono ?_
      rintro e w1 ⟨g, lv, hg, rfl, hk1, hlv, hb⟩
      have HLV := Lib.hid hlv
      have HB1 := Lib.hid hb
      have HK1 := Lib.hid (HKW.out.tr hk1)
      have HROW1 := Lib.hid (HROW.out.keepN hk1)
      have hgw : w.heap.size ≤ g := Nat.le_trans HKW.out.size hg
      clear hlv hb hk1 hg
      go_wp2_with fail
      refine (rnew_ok _ lv0 _ _ HROW1.out hn1 (by omega)).mono ?_
      rintro e w2 ⟨r, q, cap, cur, hr, hq, rfl, hk2, hb1, hcap, hb2, hcur⟩
      have hqw : w.heap.size ≤ q := Nat.le_trans HK1.out.size hq
      have hw0 := HT.out.1
      have HB2 : Hid (Bo w2 g r q cap ⟨lv0.length, lv, 0, 0, 0, 0, 0⟩) := ⟨HB1.out.keep hk2 (fun h => h), isR_new hb1 hcap hb2 hcur HLV.out (by omega), by show lv0.length ≤ 64; omega, hi_new _ _, by omega, by omega⟩
      have HK2 := Lib.hid (HK1.out.tr hk2)
      clear hk2 hb1 hcap hb2 hcur hr hq
      go_wp2_with fail
      refine (awake17 _ (HT.out.keep HK2.out (fun h => h))).mono ?_
      rintro e w3 ⟨rfl, hk3⟩
      have HK3 := Lib.hid (HK2.out.tr hk3)
      have HB3 : Hid (Bo w3 g r q cap ⟨lv0.length, lv, 0, 0, 0, 0, 0⟩) := HB2.out.keepN hk3
      clear hk3
      clear HB1 HB2 HK1 HK2 HROW1
      go_wp2_with fail
      go_loopw [8] (fun i wr => ∃ (k : Nat) (b : G), i = .int .i64 k ∧ k ≤ xs.length ∧ Hid (b.n = lv0.length) ∧ Hid (Bo wr g r q cap b) ∧ Hid (Keep Non w wr)) (fun i _ => xs.length - (intOf i).toNat)
      case atStart => exact ⟨0, ⟨lv0.length, lv, 0, 0, 0, 0, 0⟩, rfl, Nat.zero_le _, (rfl : lv0.length = lv0.length), HB3.out, HK3.out⟩
      case round =>
        obtain ⟨k, b, rfl, hk, HN, HB, HK⟩ := hrel
        by_cases hlt : k < xs.length
        · by_cases h90 : k < 90
          · obtain ⟨bb, off, cs, rfl, hcl, hr, hcc⟩ := rowR_at ⟨0, 0, false⟩ HX.out hlt
            generalize at1 _ xs k = x at hr
            obtain ⟨q0, q1, q2⟩ := cells_three hcl hr hcc
            have c0 := HK.out.cell' q0 (fun h => h)
            have c1 := HK.out.cell' q1 (fun h => h)
            have c2 := HK.out.cell' q2 (fun h => h)
            clear q0 q1 q2 hcl hr hcc
            obtain ⟨xk, xe, xon⟩ := x
            go_wp2_with fail
            refine (apply_n _ g r q cap b _ _ _ _ HB.out (HT.out.keep HK.out (fun h => h)) HN.out).mono ?_
            rintro e z1 ⟨rfl, hk1, b', hbn, hb1⟩
            have HN1 := Lib.hid hbn
            have HB1 := Lib.hid hb1
            have HK1 := Lib.hid (HK.out.trans hk1 (fun p hp e => by rcases e with e | e <;> omega))
            have hb64 : b'.n ≤ 64 := by rw [hbn]; omega
            clear hbn hb1 hk1
            clear c0 c1 c2
            go_wp2_with fail
            refine (gnext_any g b' _ HB1.out.hg hb64 HB1.out.hi (HT.out.keep HK1.out (fun h => h))).mono ?_
            generalize hres : firstOf (rdy b') b'.n 0 = res
            have HRES := Lib.hid hres
            clear hres
            rintro e z2 ⟨rfl, hk2⟩
            have HB2 := Lib.hid (HB1.out.keepN hk2)
            have HK2 := Lib.hid (HK1.out.tr hk2)
            clear hk2
            cases res
            all_goals
              simp only [nextV]
              go_wp2_with fail
              refine (rnext_any r q cap b' _ HB2.out.hr hb64).mono ?_
              rw [HRES.out]
              rintro e z3 ⟨rfl, rfl⟩
              simp only [nextV]
              go_wp2_with fail
              refine (gwake_any g b' _ HB2.out.hg hb64 HB2.out.hi).mono ?_
              rintro e z3 ⟨rfl, m, rfl⟩
              have HB3 := Lib.hid (HB2.out.drewN m)
              have HK3' := Lib.hid (HK2.out.drewN m)
              go_wp2_with fail
              refine (rwake_any r q cap b' _ HB3.out.hr hb64).mono ?_
              rintro e z4 ⟨rfl, rfl⟩
              go_wp2_with fail
              go_loop [13] (fun u => ∃ j : Nat, u = .int .i64 ((j : Int) - 1) ∧ j ≤ lv0.length + 2) (fun u => lv0.length + 2 - (intOf u + 1).toNat)
              case atStart => exact ⟨0, rfl, Nat.zero_le _⟩
              case round =>
                obtain ⟨j, rfl, hj⟩ := hrel
                by_cases hjn : j < lv0.length + 2
                · go_wp2_with fail
                  refine (gst_any g b' _ _ HB3.out.hg hb64).mono ?_
                  rintro e z5 ⟨rfl, rfl⟩
                  go_wp2_with fail
                  refine (rst_any r q cap b' _ _ HB3.out.hr).mono ?_
                  rintro e z6 ⟨rfl, rfl⟩
                  go_wp2
                  exact ⟨⟨j + 1, by go_num, by omega⟩, by simp [intOf]; omega⟩
                · go_wp2
                  exact ⟨⟨k + 1, b', by go_num, by omega, HN1.out, HB3.out, HK3'.out⟩, by simp [intOf]; omega⟩
          · go_wp2
            go_ret
            exact ⟨rfl, HK.out⟩
        · obtain rfl : k = xs.length := by omega
          go_wp2
          go_ret
          exact ⟨rfl, HK.out⟩
  · rcases (by omega : lv0.length = 0 ∨ 40 < lv0.length) with h0 | h0
    · go_wp2_with fail
      obtain ⟨ys, hys⟩ : ∃ ys : List Bool, ys = [true, false, true, false] := ⟨_, rfl⟩
      have hyl : ys.length = 4 := by rw [hys]; rfl
      obtain ⟨cc, hcc⟩ : ∃ cc : Nat, cc = ys.length := ⟨_, rfl⟩
      have HROW : Hid (Row1 Value.bool (fun k => w.heap.size ≤ k) (w.alloc (Obj.cells #[Value.bool true, Value.bool false, Value.bool true, Value.bool false] 4)) (.slice (some ⟨w.heap.size, 0, none⟩) ys.length cc) ys) := by
        rw [hcc]; exact Row1.made (t := 4) ys (Blk.new' rfl) (by rw [hys]; rfl)
      have hS : Value.slice (some ⟨w.heap.size, 0, none⟩) 4 4 = Value.slice (some ⟨w.heap.size, 0, none⟩) ys.length cc := by rw [hcc, hyl]
      rw [hS]
      have hn1 : 1 ≤ ys.length := by omega
      have hn40 : ys.length ≤ 40 := by omega
      have HKW : Hid (Keep Non w (w.alloc (Obj.cells #[Value.bool true, Value.bool false, Value.bool true, Value.bool false] 4))) := (Keep.refl _ _).alloc _
      clear hS hys hyl hcc
      generalize w.alloc (Obj.cells #[Value.bool true, Value.bool false, Value.bool true, Value.bool false] 4) = W at *
      generalize (some (⟨w.heap.size, 0, none⟩ : Addr)) = B at *
      as_aux_lemma =>
        have HTW := Lib.hid (HT.out.keep HKW.out (fun h => h))
        refine (new_ok _ ys _ _ HROW.out hn1 (by omega)).mono ?_
        rintro e w1 ⟨g, lv, hg, rfl, hk1, hlv, hb⟩
        have HLV := Lib.hid hlv
        have HB1 := Lib.hid hb
        have HK1 := Lib.hid (HKW.out.tr hk1)
        have HROW1 := Lib.hid (HROW.out.keepN hk1)
        have hgw : w.heap.size ≤ g := Nat.le_trans HKW.out.size hg
        clear hlv hb hk1 hg
        go_wp2_with fail
        refine (rnew_ok _ ys _ _ HROW1.out hn1 (by omega)).mono ?_
        rintro e w2 ⟨r, q, cap, cur, hr, hq, rfl, hk2, hb1, hcap, hb2, hcur⟩
        have hqw : w.heap.size ≤ q := Nat.le_trans HK1.out.size hq
        have hw0 := HT.out.1
        have HB2 : Hid (Bo w2 g r q cap ⟨ys.length, lv, 0, 0, 0, 0, 0⟩) := ⟨HB1.out.keep hk2 (fun h => h), isR_new hb1 hcap hb2 hcur HLV.out (by omega), by show ys.length ≤ 64; omega, hi_new _ _, by omega, by omega⟩
        have HK2 := Lib.hid (HK1.out.tr hk2)
        clear hk2 hb1 hcap hb2 hcur hr hq
        go_wp2_with fail
        refine (awake17 _ (HT.out.keep HK2.out (fun h => h))).mono ?_
        rintro e w3 ⟨rfl, hk3⟩
        have HK3 := Lib.hid (HK2.out.tr hk3)
        have HB3 : Hid (Bo w3 g r q cap ⟨ys.length, lv, 0, 0, 0, 0, 0⟩) := HB2.out.keepN hk3
        clear hk3
        clear HB1 HB2 HK1 HK2 HROW1
        go_wp2_with fail
        go_loopw [8] (fun i wr => ∃ (k : Nat) (b : G), i = .int .i64 k ∧ k ≤ xs.length ∧ Hid (b.n = ys.length) ∧ Hid (Bo wr g r q cap b) ∧ Hid (Keep Non w wr)) (fun i _ => xs.length - (intOf i).toNat)
        case atStart => exact ⟨0, ⟨ys.length, lv, 0, 0, 0, 0, 0⟩, rfl, Nat.zero_le _, (rfl : ys.length = ys.length), HB3.out, HK3.out⟩
        case round =>
          obtain ⟨k, b, rfl, hk, HN, HB, HK⟩ := hrel
          by_cases hlt : k < xs.length
          · by_cases h90 : k < 90
            · obtain ⟨bb, off, cs, rfl, hcl, hr, hcc⟩ := rowR_at ⟨0, 0, false⟩ HX.out hlt
              generalize at1 _ xs k = x at hr
              obtain ⟨q0, q1, q2⟩ := cells_three hcl hr hcc
              have c0 := HK.out.cell' q0 (fun h => h)
              have c1 := HK.out.cell' q1 (fun h => h)
              have c2 := HK.out.cell' q2 (fun h => h)
              clear q0 q1 q2 hcl hr hcc
              obtain ⟨xk, xe, xon⟩ := x
              go_wp2_with fail
              refine (apply_n _ g r q cap b _ _ _ _ HB.out (HT.out.keep HK.out (fun h => h)) HN.out).mono ?_
              rintro e z1 ⟨rfl, hk1, b', hbn, hb1⟩
              have HN1 := Lib.hid hbn
              have HB1 := Lib.hid hb1
              have HK1 := Lib.hid (HK.out.trans hk1 (fun p hp e => by rcases e with e | e <;> omega))
              have hb64 : b'.n ≤ 64 := by rw [hbn]; omega
              clear hbn hb1 hk1
              clear c0 c1 c2
              go_wp2_with fail
              refine (gnext_any g b' _ HB1.out.hg hb64 HB1.out.hi (HT.out.keep HK1.out (fun h => h))).mono ?_
              generalize hres : firstOf (rdy b') b'.n 0 = res
              have HRES := Lib.hid hres
              clear hres
              rintro e z2 ⟨rfl, hk2⟩
              have HB2 := Lib.hid (HB1.out.keepN hk2)
              have HK2 := Lib.hid (HK1.out.tr hk2)
              clear hk2
              cases res
              all_goals
                simp only [nextV]
                go_wp2_with fail
                refine (rnext_any r q cap b' _ HB2.out.hr hb64).mono ?_
                rw [HRES.out]
                rintro e z3 ⟨rfl, rfl⟩
                simp only [nextV]
                go_wp2_with fail
                refine (gwake_any g b' _ HB2.out.hg hb64 HB2.out.hi).mono ?_
                rintro e z3 ⟨rfl, m, rfl⟩
                have HB3 := Lib.hid (HB2.out.drewN m)
                have HK3' := Lib.hid (HK2.out.drewN m)
                go_wp2_with fail
                refine (rwake_any r q cap b' _ HB3.out.hr hb64).mono ?_
                rintro e z4 ⟨rfl, rfl⟩
                go_wp2_with fail
                go_loop [13] (fun u => ∃ j : Nat, u = .int .i64 ((j : Int) - 1) ∧ j ≤ ys.length + 2) (fun u => ys.length + 2 - (intOf u + 1).toNat)
                case atStart => exact ⟨0, rfl, Nat.zero_le _⟩
                case round =>
                  obtain ⟨j, rfl, hj⟩ := hrel
                  by_cases hjn : j < ys.length + 2
                  · go_wp2_with fail
                    refine (gst_any g b' _ _ HB3.out.hg hb64).mono ?_
                    rintro e z5 ⟨rfl, rfl⟩
                    go_wp2_with fail
                    refine (rst_any r q cap b' _ _ HB3.out.hr).mono ?_
                    rintro e z6 ⟨rfl, rfl⟩
                    go_wp2
                    exact ⟨⟨j + 1, by go_num, by omega⟩, by simp [intOf]; omega⟩
                  · go_wp2
                    exact ⟨⟨k + 1, b', by go_num, by omega, HN1.out, HB3.out, HK3'.out⟩, by simp [intOf]; omega⟩
            · go_wp2
              go_ret
              exact ⟨rfl, HK.out⟩
          · obtain rfl : k = xs.length := by omega
            go_wp2
            go_ret
            exact ⟨rfl, HK.out⟩
    · go_wp2_with fail
      obtain ⟨ys, hys⟩ : ∃ ys : List Bool, ys = [true, false, true, false] := ⟨_, rfl⟩
      have hyl : ys.length = 4 := by rw [hys]; rfl
      obtain ⟨cc, hcc⟩ : ∃ cc : Nat, cc = ys.length := ⟨_, rfl⟩
      have HROW : Hid (Row1 Value.bool (fun k => w.heap.size ≤ k) (w.alloc (Obj.cells #[Value.bool true, Value.bool false, Value.bool true, Value.bool false] 4)) (.slice (some ⟨w.heap.size, 0, none⟩) ys.length cc) ys) := by
        rw [hcc]; exact Row1.made (t := 4) ys (Blk.new' rfl) (by rw [hys]; rfl)
      have hS : Value.slice (some ⟨w.heap.size, 0, none⟩) 4 4 = Value.slice (some ⟨w.heap.size, 0, none⟩) ys.length cc := by rw [hcc, hyl]
      rw [hS]
      have hn1 : 1 ≤ ys.length := by omega
      have hn40 : ys.length ≤ 40 := by omega
      have HKW : Hid (Keep Non w (w.alloc (Obj.cells #[Value.bool true, Value.bool false, Value.bool true, Value.bool false] 4))) := (Keep.refl _ _).alloc _
      clear hS hys hyl hcc
      generalize w.alloc (Obj.cells #[Value.bool true, Value.bool false, Value.bool true, Value.bool false] 4) = W at *
      generalize (some (⟨w.heap.size, 0, none⟩ : Addr)) = B at *
      as_aux_lemma =>
        have HTW := Lib.hid (HT.out.keep HKW.out (fun h => h))
        refine (new_ok _ ys _ _ HROW.out hn1 (by omega)).mono ?_
        rintro e w1 ⟨g, lv, hg, rfl, hk1, hlv, hb⟩
        have HLV := Lib.hid hlv
        have HB1 := Lib.hid hb
        have HK1 := Lib.hid (HKW.out.tr hk1)
        have HROW1 := Lib.hid (HROW.out.keepN hk1)
        have hgw : w.heap.size ≤ g := Nat.le_trans HKW.out.size hg
        clear hlv hb hk1 hg
        go_wp2_with fail
        refine (rnew_ok _ ys _ _ HROW1.out hn1 (by omega)).mono ?_
        rintro e w2 ⟨r, q, cap, cur, hr, hq, rfl, hk2, hb1, hcap, hb2, hcur⟩
        have hqw : w.heap.size ≤ q := Nat.le_trans HK1.out.size hq
        have hw0 := HT.out.1
        have HB2 : Hid (Bo w2 g r q cap ⟨ys.length, lv, 0, 0, 0, 0, 0⟩) := ⟨HB1.out.keep hk2 (fun h => h), isR_new hb1 hcap hb2 hcur HLV.out (by omega), by show ys.length ≤ 64; omega, hi_new _ _, by omega, by omega⟩
        have HK2 := Lib.hid (HK1.out.tr hk2)
        clear hk2 hb1 hcap hb2 hcur hr hq
        go_wp2_with fail
        refine (awake17 _ (HT.out.keep HK2.out (fun h => h))).mono ?_
        rintro e w3 ⟨rfl, hk3⟩
        have HK3 := Lib.hid (HK2.out.tr hk3)
        have HB3 : Hid (Bo w3 g r q cap ⟨ys.length, lv, 0, 0, 0, 0, 0⟩) := HB2.out.keepN hk3
        clear hk3
        clear HB1 HB2 HK1 HK2 HROW1
        go_wp2_with fail
        go_loopw [8] (fun i wr => ∃ (k : Nat) (b : G), i = .int .i64 k ∧ k ≤ xs.length ∧ Hid (b.n = ys.length) ∧ Hid (Bo wr g r q cap b) ∧ Hid (Keep Non w wr)) (fun i _ => xs.length - (intOf i).toNat)
        case atStart => exact ⟨0, ⟨ys.length, lv, 0, 0, 0, 0, 0⟩, rfl, Nat.zero_le _, (rfl : ys.length = ys.length), HB3.out, HK3.out⟩
        case round =>
          obtain ⟨k, b, rfl, hk, HN, HB, HK⟩ := hrel
          by_cases hlt : k < xs.length
          · by_cases h90 : k < 90
            · obtain ⟨bb, off, cs, rfl, hcl, hr, hcc⟩ := rowR_at ⟨0, 0, false⟩ HX.out hlt
              generalize at1 _ xs k = x at hr
              obtain ⟨q0, q1, q2⟩ := cells_three hcl hr hcc
              have c0 := HK.out.cell' q0 (fun h => h)
              have c1 := HK.out.cell' q1 (fun h => h)
              have c2 := HK.out.cell' q2 (fun h => h)
              clear q0 q1 q2 hcl hr hcc
              obtain ⟨xk, xe, xon⟩ := x
              go_wp2_with fail
              refine (apply_n _ g r q cap b _ _ _ _ HB.out (HT.out.keep HK.out (fun h => h)) HN.out).mono ?_
              rintro e z1 ⟨rfl, hk1, b', hbn, hb1⟩
              have HN1 := Lib.hid hbn
              have HB1 := Lib.hid hb1
              have HK1 := Lib.hid (HK.out.trans hk1 (fun p hp e => by rcases e with e | e <;> omega))
              have hb64 : b'.n ≤ 64 := by rw [hbn]; omega
              clear hbn hb1 hk1
              clear c0 c1 c2
              go_wp2_with fail
              refine (gnext_any g b' _ HB1.out.hg hb64 HB1.out.hi (HT.out.keep HK1.out (fun h => h))).mono ?_
              generalize hres : firstOf (rdy b') b'.n 0 = res
              have HRES := Lib.hid hres
              clear hres
              rintro e z2 ⟨rfl, hk2⟩
              have HB2 := Lib.hid (HB1.out.keepN hk2)
              have HK2 := Lib.hid (HK1.out.tr hk2)
              clear hk2
              cases res
              all_goals
                simp only [nextV]
                go_wp2_with fail
                refine (rnext_any r q cap b' _ HB2.out.hr hb64).mono ?_
                rw [HRES.out]
                rintro e z3 ⟨rfl, rfl⟩
                simp only [nextV]
                go_wp2_with fail
                refine (gwake_any g b' _ HB2.out.hg hb64 HB2.out.hi).mono ?_
                rintro e z3 ⟨rfl, m, rfl⟩
                have HB3 := Lib.hid (HB2.out.drewN m)
                have HK3' := Lib.hid (HK2.out.drewN m)
                go_wp2_with fail
                refine (rwake_any r q cap b' _ HB3.out.hr hb64).mono ?_
                rintro e z4 ⟨rfl, rfl⟩
                go_wp2_with fail
                go_loop [13] (fun u => ∃ j : Nat, u = .int .i64 ((j : Int) - 1) ∧ j ≤ ys.length + 2) (fun u => ys.length + 2 - (intOf u + 1).toNat)
                case atStart => exact ⟨0, rfl, Nat.zero_le _⟩
                case round =>
                  obtain ⟨j, rfl, hj⟩ := hrel
                  by_cases hjn : j < ys.length + 2
                  · go_wp2_with fail
                    refine (gst_any g b' _ _ HB3.out.hg hb64).mono ?_
                    rintro e z5 ⟨rfl, rfl⟩
                    go_wp2_with fail
                    refine (rst_any r q cap b' _ _ HB3.out.hr).mono ?_
                    rintro e z6 ⟨rfl, rfl⟩
                    go_wp2
                    exact ⟨⟨j + 1, by go_num, by omega⟩, by simp [intOf]; omega⟩
                  · go_wp2
                    exact ⟨⟨k + 1, b', by go_num, by omega, HN1.out, HB3.out, HK3'.out⟩, by simp [intOf]; omega⟩
            · go_wp2
              go_ret
              exact ⟨rfl, HK.out⟩
          · obtain rfl : k = xs.length := by omega
            go_wp2
            go_ret
            exact ⟨rfl, HK.out⟩
end Go.Proofs.YtolbecinjajejaaDoor
