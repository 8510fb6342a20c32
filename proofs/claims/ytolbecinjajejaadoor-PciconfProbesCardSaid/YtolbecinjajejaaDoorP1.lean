/- Valid: the function's fields and its registers. -/
import Derived.Test.YtolbecinjajejaaDoorP0
import Derived.Deep.RegionWith
set_option linter.unusedVariables false
set_option linter.unusedSimpArgs false
namespace Go.Proofs.YtolbecinjajejaaDoor
open Go.RowKit Go.My

def allFrom (f : Nat → Bool) : Nat → Nat → Bool
  | 0, _ => true
  | n + 1, i => f i && allFrom f n (i + 1)
def cntB (bridge : Bool) : Int := if bridge then 2 else 6
def okAt (bs : List Br) (i : Nat) : Bool :=
  vBar (at1 ⟨0, 0⟩ bs i).k (at1 ⟨0, 0⟩ bs i).s && !(dbl (at1 ⟨0, 0⟩ bs i).k && (decide (i + 1 = bs.length) || !decide ((at1 ⟨0, 0⟩ bs (i + 1)).k = 0)))
def vBars (bridge : Bool) (bs : List Br) : Bool := decide ((bs.length : Int) ≤ cntB bridge) && allFrom (okAt bs) bs.length 0

set_option maxHeartbeats 4000000 in
theorem validBars_any (f : Fh) (v : Value) (bs : List Br) (O : Nat → Prop) (w : World) (h : Bars O w v bs) : Calls Tryd.prog 53 #[.agg (fhL f v)] w fun e w' => e = .returned (.bool (vBars f.bridge bs)) ∧ Keep Non w w' := by
  obtain ⟨A, c, rfl, hl, hm, h⟩ := h
  unfold maxLen at hm
  have HX := Lib.hid h
  clear h
  have HC : ∀ w, Calls Tryd.prog 50 #[.agg (fhL f (.slice A bs.length c))] w fun e w' => e = .returned (.int .i64 (cntB f.bridge)) ∧ Keep Non w w' := barCount_any f (.slice A bs.length c)
  obtain ⟨f0, f1, f2, f3, f4, f5, f6, f7, f8, f9⟩ := f
  unfold fhL at *
  simp only at *
  have HC := Lib.hid HC
  have hcb : cntB f4 = 2 ∨ cntB f4 = 6 := by cases f4 <;> simp [cntB]
  unfold vBars
  generalize cntB f4 = cnt at *
  go_enter Tryd.func53, Tryd.ntmps53
  have HBX := Lib.hid (Blk.new w #[Value.int IntKind.i64 f0, Value.int IntKind.i64 f1, Value.int IntKind.i64 f2, Value.int IntKind.i64 f3, Value.bool f4, Value.bool f5, Value.bool f6, Value.int IntKind.i64 f7, Value.int IntKind.i64 f8, Value.int IntKind.i64 f9, Value.slice A bs.length c] 50)
  go_wp2_with fail
  go_region_with (go_at_call 50; refine (HC.out _).mono ?_; rintro e z1 ⟨rfl, hk0⟩; have c10z := (HBX.out.drew.keep hk0 (fun h => h)).cell 10; have HK1 := Lib.hid (show Keep Non w z1 from ((Keep.refl Non w).alloc _).drew.tr hk0); have HB1 := Lib.hid (HBX.out.drew.keep hk0 (fun h => h)); clear hk0; simp only [List.getElem?_toArray, List.getElem?_cons_zero, List.getElem?_cons_succ] at c10z)
  all_goals
    by_cases hgt : cnt < (bs.length : Int)
    · have e : decide ((bs.length : Int) ≤ cnt) = false := decide_eq_false (by omega)
      have E := Lib.hid e
      clear e
      go_wp2
      go_ret
      exact ⟨by rw [E.out]; rfl, HK1.out⟩
    · have e : decide ((bs.length : Int) ≤ cnt) = true := decide_eq_true (by omega)
      have E := Lib.hid e
      clear e
      have C10 := Lib.hid c10z
      generalize hres : allFrom (okAt bs) bs.length 0 = res
      have HRES := Lib.hid hres
      clear hres
      go_wp2_with fail
      clear c10z
      go_loopw [14] (fun i wr => ∃ k : Nat, i = .int .i64 k ∧ k ≤ bs.length ∧ Hid (allFrom (okAt bs) (bs.length - k) k = res) ∧ Hid (wr.cell? ⟨w.heap.size, 10, none⟩ = some (.slice A bs.length c)) ∧ Hid (Keep Non w wr)) (fun i _ => bs.length - (intOf i).toNat)
      case atStart => exact ⟨0, rfl, Nat.zero_le _, HRES.out, C10.out, HK1.out⟩
      case round =>
        obtain ⟨k, rfl, hk, HJ, HC10, HK⟩ := hrel
        by_cases hlt : k < bs.length
        · obtain ⟨bb, off, rfl, q0, q1⟩ := bars_at HX.out hlt
          have c0 := HK.out.cell' q0 (fun h => h)
          have c1 := HK.out.cell' q1 (fun h => h)
          clear q0 q1
          have c10 := HC10.out
          have HST := Lib.hid (show allFrom (okAt bs) (bs.length - k) k = (okAt bs k && allFrom (okAt bs) (bs.length - (k + 1)) (k + 1)) by rw [show bs.length - k = (bs.length - (k + 1)) + 1 by omega]; rfl)
          have HS := Lib.hid (show okAt bs k = (vBar (at1 ⟨0, 0⟩ bs k).k (at1 ⟨0, 0⟩ bs k).s && !(dbl (at1 ⟨0, 0⟩ bs k).k && (decide (k + 1 = bs.length) || !decide ((at1 ⟨0, 0⟩ bs (k + 1)).k = 0)))) from rfl)
          generalize at1 _ bs k = x at *
          obtain ⟨xk, xs⟩ := x
          simp only at HS
          go_wp2_with fail
          refine (validBar_any xk xs _).mono ?_
          rintro e z2 ⟨rfl, hk2⟩
          have HBb : Hid (Blk z2 wr.heap.size #[.int .i64 xk, .int .i64 xs] 67) := (Blk.new wr _ _).keep hk2 (fun h => h)
          have HK2 := Lib.hid (show Keep Non wr z2 from ((Keep.refl Non wr).alloc _).tr hk2)
          clear hk2 c0 c1 c10
          have d0 := HBb.out.cell 0
          have d1 := HBb.out.cell 1
          simp only [List.getElem?_toArray, List.getElem?_cons_zero, List.getElem?_cons_succ] at d0 d1
          cases hv : vBar xk xs
          · have HR : Hid (res = false) := by have := HJ.out; rw [HST.out, HS.out, hv] at this; exact this.symm
            clear hv
            go_wp2
            go_ret
            exact ⟨by rw [E.out, HRES.out, HR.out]; rfl, HK.out.tr HK2.out⟩
          · have HV := Lib.hid hv
            clear hv
            go_wp2_with fail
            refine (double_any xk xs _).mono ?_
            rintro e z3 ⟨rfl, hk3⟩
            have HK3 := Lib.hid (HK2.out.tr hk3)
            clear hk3 d0 d1
            have c10 := HK3.out.cell' HC10.out (fun h => h)
            cases hd : dbl xk
            · have HR : Hid (allFrom (okAt bs) (bs.length - (k + 1)) (k + 1) = res) := by have := HJ.out; rw [HST.out, HS.out, HV.out, hd] at this; show _ = _; simpa using this
              clear hd
              go_wp2
              exact ⟨⟨k + 1, by go_num, by omega, HR.out, c10, HK.out.tr HK3.out⟩, by simp [intOf]; omega⟩
            · by_cases hk1 : k + 1 = bs.length
              · have HR : Hid (res = false) := by have := HJ.out; rw [HST.out, HS.out, HV.out, hd] at this; show _ = _; simpa [hk1] using this.symm
                clear hd
                have hk1' : (k : Int) + 1 = bs.length := by omega
                go_wp2
                go_ret
                exact ⟨by rw [E.out, HRES.out, HR.out]; rfl, HK.out.tr HK3.out⟩
              · obtain ⟨bb', off', e', q0, q1⟩ := bars_at HX.out (show k + 1 < bs.length by omega)
                have eb : bb = bb' ∧ off = off' := by simpa using e'
                obtain ⟨rfl, rfl⟩ := eb
                have n0 := HK3.out.cell' (HK.out.cell' q0 (fun h => h)) (fun h => h)
                clear q0 q1 e'
                have hk1' : ¬ (k : Int) + 1 = bs.length := by omega
                by_cases hz : (at1 ⟨0, 0⟩ bs (k + 1)).k = 0
                · have HR : Hid (allFrom (okAt bs) (bs.length - (k + 1)) (k + 1) = res) := by have := HJ.out; rw [HST.out, HS.out, HV.out, hd] at this; show _ = _; simpa [hk1, hz] using this
                  rw [hz] at n0
                  clear hd hz
                  go_wp2
                  exact ⟨⟨k + 1, by go_num, by omega, HR.out, c10, HK.out.tr HK3.out⟩, by simp [intOf]; omega⟩
                · have HR : Hid (res = false) := by have := HJ.out; rw [HST.out, HS.out, HV.out, hd] at this; show _ = _; simpa [hk1, hz] using this.symm
                  generalize (at1 ⟨0, 0⟩ bs (k + 1)).k = nk at *
                  have hz' : (nk != 0) = true := by simpa using hz
                  clear hd
                  go_wp2
                  go_ret
                  exact ⟨by rw [E.out, HRES.out, HR.out]; first | rfl | simp [hz], HK.out.tr HK3.out⟩
        · obtain rfl : k = bs.length := by omega
          have HR : Hid (res = true) := by have := HJ.out; rw [Nat.sub_self] at this; exact this.symm
          go_wp2
          go_ret
          exact ⟨by rw [E.out, HRES.out, HR.out]; rfl, HK.out⟩
end Go.Proofs.YtolbecinjajejaaDoor
