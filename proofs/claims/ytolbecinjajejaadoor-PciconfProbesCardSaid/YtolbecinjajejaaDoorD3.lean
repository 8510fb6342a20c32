/- The reference's ValidFunction: the same answer. Printed by genD3.py. -/
import Derived.Test.YtolbecinjajejaaDoorD2
import Derived.Deep.DeepCutAuto
set_option linter.unusedVariables false
set_option linter.unusedSimpArgs false
namespace Go.Proofs.YtolbecinjajejaaDoor
open Go.RowKit Go.My

set_option maxHeartbeats 4000000 in
theorem registers_any (f : Fh) (v : Value) (w : World) : Calls Tryd.prog 33 #[.agg (fhL f v)] w fun e w' => e = .returned (.int .i64 (cntB f.bridge)) ∧ Keep Non w w' := by
  obtain ⟨f0, f1, f2, f3, f4, f5, f6, f7, f8, f9⟩ := f
  unfold fhL
  go_enter Tryd.func33, Tryd.ntmps33
  cases f4
  · go_wp2
    go_ret
    exact ⟨rfl, (Keep.refl _ _).alloc _⟩
  · go_wp2
    go_ret
    exact ⟨rfl, (Keep.refl _ _).alloc _⟩

theorem okAt_def (bs : List Br) (k : Nat) (x : Br) (hx : at1 ⟨0, 0⟩ bs k = x) : okAt bs k = (vBar x.k x.s && !(dbl x.k && (decide (k + 1 = bs.length) || !decide ((at1 ⟨0, 0⟩ bs (k + 1)).k = 0)))) := by subst hx; rfl

set_option maxHeartbeats 16000000 in
set_option maxRecDepth 100000 in
theorem validFunction_any (f : Fh) (v : Value) (bs : List Br) (O : Nat → Prop) (w : World) (h : Bars O w v bs) : Calls Tryd.prog 27 #[.agg (fhL f v)] w fun e w' => e = .returned (.bool (vFn f bs)) ∧ Keep Non w w' := by
  obtain ⟨A, c, rfl, hl, hm, h⟩ := h
  unfold maxLen at hm
  have HX := Lib.hid h
  clear h
  have HR0 : ∀ w, Calls Tryd.prog 33 #[.agg (fhL f (.slice A bs.length c))] w fun e w' => e = .returned (.int .i64 (cntB f.bridge)) ∧ Keep Non w w' := fun w => registers_any f _ w
  obtain ⟨f0, f1, f2, f3, f4, f5, f6, f7, f8, f9⟩ := f
  have HV : Hid (vFn ⟨f0, f1, f2, f3, f4, f5, f6, f7, f8, f9⟩ bs = ((rng f2 1 65534 && rng f3 0 65535 && rng f1 0 31 && rng f8 0 4 && rng f7 0 32) && (rng f9 0 32 && pw2 f9) && (!((!f4 && (f5 || f6)) || (decide (0 < f7) && !f6))) && vBars f4 bs)) := rfl
  have HRG := Lib.hid HR0
  clear HR0
  unfold fhL at *
  simp only at *
  have hcb : cntB f4 = 2 ∨ cntB f4 = 6 := by cases f4 <;> simp [cntB]
  have HVB : Hid (vBars f4 bs = (decide ((bs.length : Int) ≤ cntB f4) && allFrom (okAt bs) bs.length 0)) := rfl
  generalize cntB f4 = cnt at *
  go_enter Tryd.func27, Tryd.ntmps27
  have HBX := Lib.hid (Blk.new w #[Value.int IntKind.i64 f0, Value.int IntKind.i64 f1, Value.int IntKind.i64 f2, Value.int IntKind.i64 f3, Value.bool f4, Value.bool f5, Value.bool f6, Value.int IntKind.i64 f7, Value.int IntKind.i64 f8, Value.int IntKind.i64 f9, Value.slice A bs.length c] 50)
  have HK1 : Hid (Keep Non w (w.alloc (.cells #[Value.int IntKind.i64 f0, Value.int IntKind.i64 f1, Value.int IntKind.i64 f2, Value.int IntKind.i64 f3, Value.bool f4, Value.bool f5, Value.bool f6, Value.int IntKind.i64 f7, Value.int IntKind.i64 f8, Value.int IntKind.i64 f9, Value.slice A bs.length c] 50))) := (Keep.refl _ _).alloc _
  by_cases lf2 : f2 < 1
  · have HR : Hid (vFn ⟨f0, f1, f2, f3, f4, f5, f6, f7, f8, f9⟩ bs = false) := by
      show _ = _
      rw [HV.out]
      have : rng f2 1 65534 = false := by simp [rng]; omega
      simp [this]
    go_wp2
    go_ret
    exact ⟨(ret_b HR.out).symm, HK1.out⟩
  by_cases uf2 : 65534 < f2
  · have HR : Hid (vFn ⟨f0, f1, f2, f3, f4, f5, f6, f7, f8, f9⟩ bs = false) := by
      show _ = _
      rw [HV.out]
      have : rng f2 1 65534 = false := by simp [rng]; omega
      simp [this]
    go_wp2
    go_ret
    exact ⟨(ret_b HR.out).symm, HK1.out⟩
  by_cases lf3 : f3 < 0
  · have HR : Hid (vFn ⟨f0, f1, f2, f3, f4, f5, f6, f7, f8, f9⟩ bs = false) := by
      show _ = _
      rw [HV.out]
      have : rng f3 0 65535 = false := by simp [rng]; omega
      simp [this]
    go_wp2
    go_ret
    exact ⟨(ret_b HR.out).symm, HK1.out⟩
  by_cases uf3 : 65535 < f3
  · have HR : Hid (vFn ⟨f0, f1, f2, f3, f4, f5, f6, f7, f8, f9⟩ bs = false) := by
      show _ = _
      rw [HV.out]
      have : rng f3 0 65535 = false := by simp [rng]; omega
      simp [this]
    go_wp2
    go_ret
    exact ⟨(ret_b HR.out).symm, HK1.out⟩
  by_cases lf1 : f1 < 0
  · have HR : Hid (vFn ⟨f0, f1, f2, f3, f4, f5, f6, f7, f8, f9⟩ bs = false) := by
      show _ = _
      rw [HV.out]
      have : rng f1 0 31 = false := by simp [rng]; omega
      simp [this]
    go_wp2
    go_ret
    exact ⟨(ret_b HR.out).symm, HK1.out⟩
  by_cases uf1 : 31 < f1
  · have HR : Hid (vFn ⟨f0, f1, f2, f3, f4, f5, f6, f7, f8, f9⟩ bs = false) := by
      show _ = _
      rw [HV.out]
      have : rng f1 0 31 = false := by simp [rng]; omega
      simp [this]
    go_wp2
    go_ret
    exact ⟨(ret_b HR.out).symm, HK1.out⟩
  by_cases lf8 : f8 < 0
  · have HR : Hid (vFn ⟨f0, f1, f2, f3, f4, f5, f6, f7, f8, f9⟩ bs = false) := by
      show _ = _
      rw [HV.out]
      have : rng f8 0 4 = false := by simp [rng]; omega
      simp [this]
    go_wp2
    go_ret
    exact ⟨(ret_b HR.out).symm, HK1.out⟩
  by_cases uf8 : 4 < f8
  · have HR : Hid (vFn ⟨f0, f1, f2, f3, f4, f5, f6, f7, f8, f9⟩ bs = false) := by
      show _ = _
      rw [HV.out]
      have : rng f8 0 4 = false := by simp [rng]; omega
      simp [this]
    go_wp2
    go_ret
    exact ⟨(ret_b HR.out).symm, HK1.out⟩
  by_cases lf7 : f7 < 0
  · have HR : Hid (vFn ⟨f0, f1, f2, f3, f4, f5, f6, f7, f8, f9⟩ bs = false) := by
      show _ = _
      rw [HV.out]
      have : rng f7 0 32 = false := by simp [rng]; omega
      simp [this]
    go_wp2
    go_ret
    exact ⟨(ret_b HR.out).symm, HK1.out⟩
  by_cases uf7 : 32 < f7
  · have HR : Hid (vFn ⟨f0, f1, f2, f3, f4, f5, f6, f7, f8, f9⟩ bs = false) := by
      show _ = _
      rw [HV.out]
      have : rng f7 0 32 = false := by simp [rng]; omega
      simp [this]
    go_wp2
    go_ret
    exact ⟨(ret_b HR.out).symm, HK1.out⟩
  by_cases lf9 : f9 < 0
  · have HR : Hid (vFn ⟨f0, f1, f2, f3, f4, f5, f6, f7, f8, f9⟩ bs = false) := by
      show _ = _
      rw [HV.out]
      have : rng f9 0 32 = false := by simp [rng]; omega
      simp [this]
    go_wp2
    go_ret
    exact ⟨(ret_b HR.out).symm, HK1.out⟩
  by_cases uf9 : 32 < f9
  · have HR : Hid (vFn ⟨f0, f1, f2, f3, f4, f5, f6, f7, f8, f9⟩ bs = false) := by
      show _ = _
      rw [HV.out]
      have : rng f9 0 32 = false := by simp [rng]; omega
      simp [this]
    go_wp2
    go_ret
    exact ⟨(ret_b HR.out).symm, HK1.out⟩
  have HRR : Hid ((rng f2 1 65534 && rng f3 0 65535 && rng f1 0 31 && rng f8 0 4 && rng f7 0 32) = true ∧ rng f9 0 32 = true) := by
    constructor <;> simp [rng] <;> omega
  cases hp : pw2 f9
  · have HR : Hid (vFn ⟨f0, f1, f2, f3, f4, f5, f6, f7, f8, f9⟩ bs = false) := by show _ = _; rw [HV.out, hp]; simp
    have hq : (bits .and .i64 f9 (f9 - 1) != 0) = true := by unfold pw2 at hp; simpa using hp
    clear hp
    go_wp2
    go_ret
    exact ⟨(ret_b HR.out).symm, HK1.out⟩
  have hq : (bits .and .i64 f9 (f9 - 1) != 0) = false := by unfold pw2 at hp; simpa using hp
  have HVV : Hid (vFn ⟨f0, f1, f2, f3, f4, f5, f6, f7, f8, f9⟩ bs = ((!((!f4 && (f5 || f6)) || (decide (0 < f7) && !f6))) && vBars f4 bs)) := by
    show _ = _
    rw [HV.out, HRR.out.1, HRR.out.2, hp]; simp
  clear hp
  clear HRR HV
  go_upto_region 3 with fail
  go_cut [97] (fun s wx => s = .bool ((!f4 && (f5 || f6)) || (decide (0 < f7) && !f6)) ∧ wx = w.alloc (.cells #[Value.int IntKind.i64 f0, Value.int IntKind.i64 f1, Value.int IntKind.i64 f2, Value.int IntKind.i64 f3, Value.bool f4, Value.bool f5, Value.bool f6, Value.int IntKind.i64 f7, Value.int IntKind.i64 f8, Value.int IntKind.i64 f9, Value.slice A bs.length c] 50))
  case first =>
    by_cases hs : 0 < f7
    · have HS := Lib.hid hs
      cases f4 <;> cases f5 <;> cases f6
      all_goals
        go_wp2_with fail
        go_meet
        exact ⟨by have := HS.out; simp [this], rfl⟩
    · obtain rfl : f7 = 0 := by omega
      cases f4 <;> cases f5 <;> cases f6
      all_goals
        go_wp2_with fail
        go_meet
        exact ⟨by simp, rfl⟩
  case rest =>
    obtain ⟨rfl, rfl⟩ := hcut
    generalize hC : ((!f4 && (f5 || f6)) || (decide (0 < f7) && !f6)) = C at *
    clear hC
    cases C
    · have HVW : Hid (vFn ⟨f0, f1, f2, f3, f4, f5, f6, f7, f8, f9⟩ bs = vBars f4 bs) := by show _ = _; rw [HVV.out]; rfl
      clear HVV
      go_upto_region 5 with fail
      go_cut [103] (fun s wx => s = .bool (decide (cnt < (bs.length : Int))) ∧ Hid (Keep Non w wx) ∧ Hid (wx.cell? ⟨w.heap.size, 10, none⟩ = some (.slice A bs.length c)))
      case first =>
        go_region_with (go_at_call 33; refine (HRG.out _).mono ?_; rintro e z1 ⟨rfl, hk0⟩; have c10z := (HBX.out.drew.keep hk0 (fun h => h)).cell 10; have HK2 := Lib.hid (show Keep Non w z1 from (HK1.out.drew.tr hk0)); have HB1 := Lib.hid (HBX.out.drew.keep hk0 (fun h => h)); clear hk0; simp only [List.getElem?_toArray, List.getElem?_cons_zero, List.getElem?_cons_succ] at c10z)
        all_goals
          have C10 := Lib.hid c10z
          go_wp2_with fail
          go_meet
          exact ⟨rfl, HK2.out, C10.out⟩
      case rest =>
        obtain ⟨rfl, HK2, C10⟩ := hcut
        clear HBX HRG
        by_cases hgt : cnt < (bs.length : Int)
        · have HR : Hid (vFn ⟨f0, f1, f2, f3, f4, f5, f6, f7, f8, f9⟩ bs = false) := by show _ = _; rw [HVW.out, HVB.out, decide_eq_false (by omega)]; rfl
          go_wp2
          go_ret
          exact ⟨(ret_b HR.out).symm, HK2.out⟩
        · have E : Hid (vFn ⟨f0, f1, f2, f3, f4, f5, f6, f7, f8, f9⟩ bs = allFrom (okAt bs) bs.length 0) := by show _ = _; rw [HVW.out, HVB.out, decide_eq_true (by omega)]; rfl
          clear HVB HVW
          generalize hres : allFrom (okAt bs) bs.length 0 = res at *
          have HRES := Lib.hid hres
          clear hres
          have c10z := C10.out
          go_wp2_with fail
          clear c10z
          go_loopw [3] (fun i wr => ∃ k : Nat, i = .int .i64 k ∧ k ≤ bs.length ∧ Hid (allFrom (okAt bs) (bs.length - k) k = res) ∧ Hid (wr.cell? ⟨w.heap.size, 10, none⟩ = some (.slice A bs.length c)) ∧ Hid (Keep Non w wr)) (fun i _ => bs.length - (intOf i).toNat)
          case atStart => exact ⟨0, rfl, Nat.zero_le _, HRES.out, C10.out, HK2.out⟩
          case round =>
            obtain ⟨k, rfl, hk, HJ, HC10, HK⟩ := hrel
            by_cases hlt : k < bs.length
            · obtain ⟨bb, off, rfl, q0, q1⟩ := bars_at HX.out hlt
              have c0 := HK.out.cell' q0 (fun h => h)
              have c1 := HK.out.cell' q1 (fun h => h)
              clear q0 q1
              have c10 := HC10.out
              have HST := Lib.hid (show allFrom (okAt bs) (bs.length - k) k = (okAt bs k && allFrom (okAt bs) (bs.length - (k + 1)) (k + 1)) by rw [show bs.length - k = (bs.length - (k + 1)) + 1 by omega]; rfl)
              have HS := Lib.hid (show okAt bs k = (vBar (at1 ⟨0, 0⟩ bs k).k (at1 ⟨0, 0⟩ bs k).s && !(dbl (at1 ⟨0, 0⟩ bs k).k && (decide (k + 1 = bs.length) || !decide ((at1 ⟨0, 0⟩ bs (k + 1)).k = 0)))) from rfl)
              generalize at1 _ bs k = x at *
              obtain ⟨xk, xs⟩ := x
              simp only at HS c0 c1
              have HKa : Hid (Keep Non w (wr.alloc (.cells #[.int .i64 xk, .int .i64 xs] 67))) := HK.out.alloc _
              have c10' : Hid ((wr.alloc (.cells #[.int .i64 xk, .int .i64 xs] 67)).cell? ⟨w.heap.size, 10, none⟩ = some (.slice (some ⟨bb, off, none⟩) bs.length c)) := ((Keep.refl Non wr).alloc _).cell' c10 (fun h => h)
              have bad : ∀ b : Bool, (b = false → okAt bs k = false) → b = false → Hid (res = false) := fun b h1 h2 => by have := HJ.out; rw [HST.out, h1 h2] at this; exact this.symm
              have BAD := Lib.hid bad
              have good : okAt bs k = true → Hid (allFrom (okAt bs) (bs.length - (k + 1)) (k + 1) = res) := fun h1 => by have := HJ.out; rw [HST.out, h1] at this; exact this
              have GOOD := Lib.hid good
              clear bad good
              by_cases hk0 : xk = 0
              · subst hk0
                by_cases hz : xs = 0
                · subst hz
                  have HG := GOOD.out (by rw [HS.out]; rfl)
                  go_wp2
                  exact ⟨⟨k + 1, by go_num, by omega, HG.out, c10'.out, HKa.out⟩, by simp [intOf]; omega⟩
                · have hz' : (xs != 0) = true := by simpa using hz
                  have HR := BAD.out false (fun _ => by rw [HS.out]; simp [vBar, hz]) rfl
                  go_wp2
                  go_ret
                  exact ⟨(ret_b (E.out.trans HR.out)).symm, HKa.out⟩
              by_cases hk1 : xk = 1
              · subst hk1
                by_cases hlo : xs < 2
                · have HR := BAD.out false (fun _ => by rw [HS.out]; have : ¬ (2 ≤ xs) := (by omega); simp [vBar, this]) rfl
                  go_wp2
                  go_ret
                  exact ⟨(ret_b (E.out.trans HR.out)).symm, HKa.out⟩
                by_cases hhi : 8 < xs
                · have HR := BAD.out false (fun _ => by rw [HS.out]; have : ¬ (xs ≤ 8) := (by omega); simp [vBar, this]) rfl
                  go_wp2
                  go_ret
                  exact ⟨(ret_b (E.out.trans HR.out)).symm, HKa.out⟩
                have HG := GOOD.out (by rw [HS.out]; have h1 : vBar 1 xs = true := (by simp [vBar]; omega); rw [h1]; rfl)
                go_wp2
                exact ⟨⟨k + 1, by go_num, by omega, HG.out, c10'.out, HKa.out⟩, by simp [intOf]; omega⟩
              by_cases hk2 : xk = 2
              · subst hk2
                by_cases hlo : xs < 4
                · have HR := BAD.out false (fun _ => by rw [HS.out]; have : ¬ (4 ≤ xs) := (by omega); simp [vBar, this]) rfl
                  go_wp2
                  go_ret
                  exact ⟨(ret_b (E.out.trans HR.out)).symm, HKa.out⟩
                by_cases hhi : 31 < xs
                · have HR := BAD.out false (fun _ => by rw [HS.out]; have : ¬ (xs ≤ 31) := (by omega); simp [vBar, this]) rfl
                  go_wp2
                  go_ret
                  exact ⟨(ret_b (E.out.trans HR.out)).symm, HKa.out⟩
                have HG := GOOD.out (by rw [HS.out]; have h1 : vBar 2 xs = true := (by simp [vBar]; omega); rw [h1]; rfl)
                go_wp2
                exact ⟨⟨k + 1, by go_num, by omega, HG.out, c10'.out, HKa.out⟩, by simp [intOf]; omega⟩
              by_cases hk3 : xk = 3
              · subst hk3
                by_cases hlo : xs < 4
                · have HR := BAD.out false (fun _ => by rw [HS.out]; have : ¬ (4 ≤ xs) := (by omega); simp [vBar, this]) rfl
                  go_wp2
                  go_ret
                  exact ⟨(ret_b (E.out.trans HR.out)).symm, HKa.out⟩
                by_cases hhi : 40 < xs
                · have HR := BAD.out false (fun _ => by rw [HS.out]; have : ¬ (xs ≤ 40) := (by omega); simp [vBar, this]) rfl
                  go_wp2
                  go_ret
                  exact ⟨(ret_b (E.out.trans HR.out)).symm, HKa.out⟩
                have c10a := c10'.out
                by_cases hend : k + 1 = bs.length
                · have hend' : (bs.length : Int) ≤ (k : Int) + 1 := by omega
                  have HR := BAD.out false (fun _ => by rw [HS.out]; simp [dbl, hend]) rfl
                  go_wp2
                  go_ret
                  exact ⟨(ret_b (E.out.trans HR.out)).symm, HKa.out⟩
                obtain ⟨bb', off', e', q0, q1⟩ := bars_at HX.out (show k + 1 < bs.length by omega)
                have eb : bb = bb' ∧ off = off' := by simpa using e'
                obtain ⟨rfl, rfl⟩ := eb
                have n0 := HKa.out.cell' q0 (fun h => h)
                clear q0 q1 e'
                have hend' : ¬ (bs.length : Int) ≤ (k : Int) + 1 := by omega
                by_cases hz : (at1 ⟨0, 0⟩ bs (k + 1)).k = 0
                · rw [hz] at n0
                  have HG := GOOD.out (by rw [HS.out]; have h1 : vBar 3 xs = true := (by simp [vBar]; omega); rw [h1, hz]; simp [hend])
                  go_wp2
                  exact ⟨⟨k + 1, by go_num, by omega, HG.out, c10'.out, HKa.out⟩, by simp [intOf]; omega⟩
                · have HR := BAD.out false (fun _ => by rw [HS.out]; simp [dbl, hz]) rfl
                  clear HS
                  generalize (at1 ⟨0, 0⟩ bs (k + 1)).k = nk at *
                  have hz' : (nk != 0) = true := by simpa using hz
                  go_wp2
                  go_ret
                  exact ⟨(ret_b (E.out.trans HR.out)).symm, HKa.out⟩
              by_cases hk4 : xk = 4
              · subst hk4
                by_cases hlo : xs < 4
                · have HR := BAD.out false (fun _ => by rw [HS.out]; have : ¬ (4 ≤ xs) := (by omega); simp [vBar, this]) rfl
                  go_wp2
                  go_ret
                  exact ⟨(ret_b (E.out.trans HR.out)).symm, HKa.out⟩
                by_cases hhi : 40 < xs
                · have HR := BAD.out false (fun _ => by rw [HS.out]; have : ¬ (xs ≤ 40) := (by omega); simp [vBar, this]) rfl
                  go_wp2
                  go_ret
                  exact ⟨(ret_b (E.out.trans HR.out)).symm, HKa.out⟩
                have c10a := c10'.out
                by_cases hend : k + 1 = bs.length
                · have hend' : (bs.length : Int) ≤ (k : Int) + 1 := by omega
                  have HR := BAD.out false (fun _ => by rw [HS.out]; simp [dbl, hend]) rfl
                  go_wp2
                  go_ret
                  exact ⟨(ret_b (E.out.trans HR.out)).symm, HKa.out⟩
                obtain ⟨bb', off', e', q0, q1⟩ := bars_at HX.out (show k + 1 < bs.length by omega)
                have eb : bb = bb' ∧ off = off' := by simpa using e'
                obtain ⟨rfl, rfl⟩ := eb
                have n0 := HKa.out.cell' q0 (fun h => h)
                clear q0 q1 e'
                have hend' : ¬ (bs.length : Int) ≤ (k : Int) + 1 := by omega
                by_cases hz : (at1 ⟨0, 0⟩ bs (k + 1)).k = 0
                · rw [hz] at n0
                  have HG := GOOD.out (by rw [HS.out]; have h1 : vBar 4 xs = true := (by simp [vBar]; omega); rw [h1, hz]; simp [hend])
                  go_wp2
                  exact ⟨⟨k + 1, by go_num, by omega, HG.out, c10'.out, HKa.out⟩, by simp [intOf]; omega⟩
                · have HR := BAD.out false (fun _ => by rw [HS.out]; simp [dbl, hz]) rfl
                  clear HS
                  generalize (at1 ⟨0, 0⟩ bs (k + 1)).k = nk at *
                  have hz' : (nk != 0) = true := by simpa using hz
                  go_wp2
                  go_ret
                  exact ⟨(ret_b (E.out.trans HR.out)).symm, HKa.out⟩
              have HR := BAD.out false (fun _ => by rw [HS.out]; simp [vBar, hk0, hk1, hk2, hk3, hk4]) rfl
              go_wp2
              go_ret
              exact ⟨(ret_b (E.out.trans HR.out)).symm, HKa.out⟩
            · obtain rfl : k = bs.length := by omega
              have HR : Hid (res = true) := by have := HJ.out; rw [Nat.sub_self] at this; exact this.symm
              have c10 := HC10.out
              go_wp2
              go_ret
              exact ⟨(ret_b (E.out.trans HR.out)).symm, HK.out⟩
    · have HR : Hid (vFn ⟨f0, f1, f2, f3, f4, f5, f6, f7, f8, f9⟩ bs = false) := by show _ = _; rw [HVV.out]; rfl
      go_wp2
      go_ret
      exact ⟨(ret_b HR.out).symm, HK1.out⟩
end Go.Proofs.YtolbecinjajejaaDoor
