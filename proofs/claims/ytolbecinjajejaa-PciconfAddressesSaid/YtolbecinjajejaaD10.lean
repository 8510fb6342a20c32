/- The reference's bar and NewDevice: the same configuration space. -/
import Derived.Test.YtolbecinjajejaaD9
import Derived.Test.YtolbecinjajejaaD3
import Derived.Deep.DeepCutAuto
set_option linter.unusedVariables false
set_option linter.unusedSimpArgs false
namespace Go.Proofs.Ytolbecinjajejaa
open Go.RowKit Go.My

set_option maxHeartbeats 4000000 in
theorem bar_any (f : Fh) (v : Value) (bs : List Br) (O : Nat → Prop) (i : Nat) (w : World) (h : RowE encB 2 O w v bs) (hi : i ≤ 1000) :
    Calls Try.prog 37 #[.agg (fhL f v), .int .i64 i] w fun e w' => e = .returned (.agg #[.int .i64 (at1 ⟨0, 0⟩ bs i).k, .int .i64 (at1 ⟨0, 0⟩ bs i).s]) ∧ Keep Non w w' := by
  have hh := h
  obtain ⟨A, c, rfl, hl, hm, h0⟩ := h
  have HX : Hid (RowE encB 2 O w (.slice A bs.length c) bs) := hh
  clear h0 hh
  unfold maxLen at hm
  obtain ⟨f0, f1, f2, f3, f4, f5, f6, f7, f8, f9⟩ := f
  unfold fhL
  have HK : Hid (Keep Non w ((w.alloc (.cells #[.int .i64 f0, .int .i64 f1, .int .i64 f2, .int .i64 f3, .bool f4, .bool f5, .bool f6, .int .i64 f7, .int .i64 f8, .int .i64 f9, .slice A bs.length c] 44)).alloc (.cells #[.int .i64 0, .int .i64 0] 61))) := ((Keep.refl _ _).alloc _).alloc _
  by_cases hlt : i < bs.length
  · obtain ⟨bb, off, rfl, hO, q0, q1⟩ := bars_get HX.out hlt
    generalize at1 _ bs i = x at *
    obtain ⟨xk, xs⟩ := x
    simp only at q0 q1
    have c0 := HK.out.cell' q0 (fun h => h)
    have c1 := HK.out.cell' q1 (fun h => h)
    clear q0 q1
    go_enter Try.func37, Try.ntmps37
    go_wp2
    exact bodyPost_ret (v := .agg #[.int .i64 xk, .int .i64 xs]) (by simp [results, Try.results37, go_sem]; done) rfl ⟨rfl, ((Keep.refl _ _).alloc _).alloc _⟩
  · have hz : at1 (⟨0, 0⟩ : Br) bs i = ⟨0, 0⟩ := by simp [at1, List.getD, List.getElem?_eq_none (Nat.le_of_not_lt hlt)]
    rw [hz]
    clear hz
    go_enter Try.func37, Try.ntmps37
    go_wp2
    exact bodyPost_ret (v := .agg #[.int .i64 0, .int .i64 0]) (by simp [results, Try.results37, go_sem]; done) rfl ⟨rfl, ((Keep.refl _ _).alloc _).alloc _⟩

theorem zero82 : (Try.prog.info? 82).map (fun i => i.zero) = some (some (.agg Z76)) := by kernel_rfl
theorem run_zero82 (w : World) : Sem.run Try.prog (zeroValue 82) w = .ok (.agg Z76) w := by
  have h := zero82
  simp only [Option.map_eq_some_iff] at h
  obtain ⟨i, h1, h2⟩ := h
  simp [zeroValue, typeInfo, h1, h2]
theorem isD_new82 (W : World) (f : Fh) (v : Value) : IsD 82 (W.alloc (.cells (((((((((((Z76.setIfInBounds 0 (.int .i64 f.parent)).setIfInBounds 1 (.int .i64 f.slot)).setIfInBounds 2 (.int .i64 f.vendor)).setIfInBounds 3 (.int .i64 f.device)).setIfInBounds 4 (.bool f.bridge)).setIfInBounds 5 (.bool f.pref)).setIfInBounds 6 (.bool f.hot)).setIfInBounds 7 (.int .i64 f.spare)).setIfInBounds 8 (.int .i64 f.pin)).setIfInBounds 9 (.int .i64 f.vectors)).setIfInBounds 10 v) 82)) W.heap.size ⟨f, v, fun _ => 0#8, fun _ => 0#8⟩ := by
  refine ⟨_, Blk.new _ _ _, by simp [Z76_size], fun i hi => ?_, fun j hj => ?_, fun j hj => ?_⟩
  · rcases (by omega : i = 0 ∨ i = 1 ∨ i = 2 ∨ i = 3 ∨ i = 4 ∨ i = 5 ∨ i = 6 ∨ i = 7 ∨ i = 8 ∨ i = 9 ∨ i = 10) with rfl | rfl | rfl | rfl | rfl | rfl | rfl | rfl | rfl | rfl | rfl <;> simp [Array.getElem?_setIfInBounds, Z76_size, fhL]
  · simp only [Array.getElem?_setIfInBounds]
    rw [if_neg (by omega), if_neg (by omega), if_neg (by omega), if_neg (by omega), if_neg (by omega), if_neg (by omega), if_neg (by omega), if_neg (by omega), if_neg (by omega), if_neg (by omega), if_neg (by omega)]
    unfold Z76
    rw [Array.getElem?_append_right (by simp)]
    rw [Array.getElem?_replicate, if_pos (by simp; omega)]
    rfl
  · simp only [Array.getElem?_setIfInBounds]
    rw [if_neg (by omega), if_neg (by omega), if_neg (by omega), if_neg (by omega), if_neg (by omega), if_neg (by omega), if_neg (by omega), if_neg (by omega), if_neg (by omega), if_neg (by omega), if_neg (by omega)]
    unfold Z76
    rw [Array.getElem?_append_right (by simp; omega)]
    rw [Array.getElem?_replicate, if_pos (by simp; omega)]
    rfl

/-- A register that is none changes nothing. -/
theorem Dv.bar_none (d : Dv) (i : Nat) (s : Int) : d.bar i 0 s = d := by simp [Dv.bar]
theorem Dv.bars_more (d : Dv) (bs : List Br) (k : Nat) : d.bars bs (bs.length + k) = d.bars bs bs.length := by
  induction k with
  | zero => rfl
  | succ k ih =>
    show (d.bars bs (bs.length + k)).bar (bs.length + k) (at1 ⟨0, 0⟩ bs (bs.length + k)).k (at1 ⟨0, 0⟩ bs (bs.length + k)).s = _
    have : at1 (⟨0, 0⟩ : Br) bs (bs.length + k) = ⟨0, 0⟩ := by simp [at1, List.getD, List.getElem?_eq_none]
    rw [this, Dv.bar_none, ih]
theorem okAt_next {bs : List Br} {k : Nat} (h : okAt bs k = true) (hd : dbl (at1 ⟨0, 0⟩ bs k).k = true) : k + 1 ≠ bs.length ∧ (at1 ⟨0, 0⟩ bs (k + 1)).k = 0 := by
  unfold okAt at h
  rw [hd] at h
  simp only [Bool.and_eq_true, Bool.not_eq_true', Bool.true_and, Bool.or_eq_false_iff, decide_eq_false_iff_not, Bool.not_eq_false', decide_eq_true_eq] at h
  exact h.2
theorem vBar_range {k s : Int} (hv : vBar k s = true) : 0 ≤ s ∧ s ≤ 40 ∧ (k = 0 ∨ k = 1 ∨ k = 2 ∨ k = 3 ∨ k = 4) := by
  unfold vBar at hv
  split at hv
  · simp at hv; omega
  split at hv
  · simp at hv; omega
  split at hv
  · simp at hv; omega
  split at hv
  · simp at hv; omega
  · cases hv
theorem vBar_at {f : Fh} {bs : List Br} (h : vFn f bs = true) (k : Nat) : vBar (at1 ⟨0, 0⟩ bs k).k (at1 ⟨0, 0⟩ bs k).s = true := by
  by_cases hk : k < bs.length
  · exact okAt_bar (vFn_ok h hk)
  · have : at1 (⟨0, 0⟩ : Br) bs k = ⟨0, 0⟩ := by simp [at1, List.getD, List.getElem?_eq_none (Nat.le_of_not_lt hk)]
    rw [this]; rfl
theorem wide_at {f : Fh} {bs : List Br} (h : vFn f bs = true) (k : Nat) (hd : dbl (at1 ⟨0, 0⟩ bs k).k = true) : k + 1 < bs.length ∧ (at1 ⟨0, 0⟩ bs (k + 1)).k = 0 := by
  by_cases hk : k < bs.length
  · have := okAt_next (vFn_ok h hk) hd
    exact ⟨by omega, this.2⟩
  · have : at1 (⟨0, 0⟩ : Br) bs k = ⟨0, 0⟩ := by simp [at1, List.getD, List.getElem?_eq_none (Nat.le_of_not_lt hk)]
    rw [this] at hd
    cases hd
theorem cnt_le {f : Fh} {bs : List Br} (h : vFn f bs = true) : (bs.length : Int) ≤ cntB f.bridge := by
  unfold vFn vBars at h
  simp only [Bool.and_eq_true, decide_eq_true_eq] at h
  exact h.2.1
theorem pref_bridge {f : Fh} {bs : List Br} (h : vFn f bs = true) : f.bridge = false → f.pref = false := by
  unfold vFn vC at h
  simp only [Bool.and_eq_true] at h
  intro hb
  have := h.1.2
  rw [hb] at this
  cases hp : f.pref <;> simp_all

set_option maxHeartbeats 8000000 in
set_option maxRecDepth 100000 in
theorem newDevice_ok (f : Fh) (v : Value) (bs : List Br) (O : Nat → Prop) (w : World) (h : RowE encB 2 O w v bs) (hv : vFn f bs = true) :
    Calls Try.prog 23 #[.agg (fhL f v)] w fun e w' => ∃ (g : Nat), e = .returned (.pointer (some ⟨g, 0, none⟩)) ∧ w.heap.size ≤ g ∧ Keep Non w w' ∧ IsD 82 w' g (cfgP f v bs) := by
  have hlen := bars_len hv
  have hcl := cnt_le hv
  have HVB := Lib.hid (vBar_at hv)
  have HWI := Lib.hid (wide_at hv)
  have HPB := Lib.hid (pref_bridge hv)
  have HRG0 : ∀ w, Calls Try.prog 35 #[.agg (fhL f v)] w fun e w' => e = .returned (.int .i64 (cntB f.bridge)) ∧ Keep Non w w' := fun w => registers_any f v w
  have HBA0 : ∀ i w, RowE encB 2 O w v bs → i ≤ 1000 → Calls Try.prog 37 #[.agg (fhL f v), .int .i64 ((i : Nat) : Int)] w fun e w' => e = .returned (.agg #[.int .i64 (at1 ⟨0, 0⟩ bs i).k, .int .i64 (at1 ⟨0, 0⟩ bs i).s]) ∧ Keep Non w w' := fun i w h hi => bar_any f v bs O i w h hi
  have HX := Lib.hid h
  clear h hv
  obtain ⟨A, n, c, rfl⟩ : ∃ A n c, v = .slice A n c := by obtain ⟨A, c, h, _⟩ := HX.out; exact ⟨A, _, c, h⟩
  obtain ⟨f0, f1, f2, f3, f4, f5, f6, f7, f8, f9⟩ := f
  unfold fhL at *
  simp only at *
  have HRG := Lib.hid HRG0
  have HBA := Lib.hid HBA0
  clear HRG0 HBA0
  have hcb : cntB f4 = 2 ∨ cntB f4 = 6 := by cases f4 <;> simp [cntB]
  obtain ⟨cnt, hcnt, hc6⟩ : ∃ cnt : Nat, cntB f4 = cnt ∧ cnt ≤ 6 := by rcases hcb with h | h <;> rw [h]; exact ⟨2, rfl, by omega⟩; exact ⟨6, rfl, by omega⟩
  rw [hcnt] at HRG hcl
  have HCN := Lib.hid hcnt
  clear hcnt hcb
  go_enter Try.func23, Try.ntmps23
  have HB0 := Lib.hid (Blk.new w #[.int .i64 f0, .int .i64 f1, .int .i64 f2, .int .i64 f3, .bool f4, .bool f5, .bool f6, .int .i64 f7, .int .i64 f8, .int .i64 f9, .slice A n c] 44)
  have HK0 : Hid (Keep Non w (w.alloc (.cells #[.int .i64 f0, .int .i64 f1, .int .i64 f2, .int .i64 f3, .bool f4, .bool f5, .bool f6, .int .i64 f7, .int .i64 f8, .int .i64 f9, .slice A n c] 44))) := (Keep.refl _ _).alloc _
  go_upto_region 1 with fail
  go_cut [3] (fun s wx => ∃ g : Nat, s = .pointer (some ⟨g, 0, none⟩) ∧ w.heap.size < g ∧ Hid (Keep Non w wx) ∧ Hid (Blk wx w.heap.size #[.int .i64 f0, .int .i64 f1, .int .i64 f2, .int .i64 f3, .bool f4, .bool f5, .bool f6, .int .i64 f7, .int .i64 f8, .int .i64 f9, .slice A n c] 44) ∧ Hid (IsD 82 wx g ⟨⟨f0, f1, f2, f3, f4, f5, f6, f7, f8, f9⟩, .slice A n c, fun _ => 0#8, fun _ => 0#8⟩))
  case first =>
    have hz76 := run_zero82
    have hs76 := Z76_size
    go_wp2_with fail
    go_meet
    exact ⟨w.heap.size + 1, by simp, by omega, Lib.hid (HK0.out.alloc _), Lib.hid (HB0.out.alloc _), by
      have h := isD_new82 (w.alloc (.cells #[.int .i64 f0, .int .i64 f1, .int .i64 f2, .int .i64 f3, .bool f4, .bool f5, .bool f6, .int .i64 f7, .int .i64 f8, .int .i64 f9, .slice A n c] 44)) ⟨f0, f1, f2, f3, f4, f5, f6, f7, f8, f9⟩ (.slice A n c)
      simp only [World.size_alloc] at h
      exact Lib.hid h⟩
  case rest =>
    clear HK0 HB0
    obtain ⟨g, rfl, hg, HK, HB, HD⟩ := hcut
    have hag : w.heap.size ≠ g := by omega
    have HU2 := Lib.hid (un_ofInt f2).symm
    have HU3 := Lib.hid (un_ofInt f3).symm
    have HU8 := Lib.hid (un_ofInt f8).symm
    have c2 := blk_c HB.out 2 _ rfl
    go_wp2_with fail
    refine (set_at g _ _ _ _ 0 2 (BitVec.ofInt 64 f2) 0#64 (by rfl) (by rfl) HU2.out (by rfl) _ _ HD.out (by omega) (by omega)).mono ?_
    rintro e z ⟨rfl, hk, hd⟩
    replace HK := Lib.hid (HK.out.trans hk (fun q hq e => by simp only [My.One] at e; omega))
    replace HB := Lib.hid (HB.out.keep hk (fun e => hag e))
    replace HD := Lib.hid hd
    clear hk hd
    clear c2
    have c3 := blk_c HB.out 3 _ rfl
    go_wp2_with fail
    refine (set_at g _ _ _ _ 2 2 (BitVec.ofInt 64 f3) 0#64 (by rfl) (by rfl) HU3.out (by rfl) _ _ HD.out (by omega) (by omega)).mono ?_
    rintro e z ⟨rfl, hk, hd⟩
    replace HK := Lib.hid (HK.out.trans hk (fun q hq e => by simp only [My.One] at e; omega))
    replace HB := Lib.hid (HB.out.keep hk (fun e => hag e))
    replace HD := Lib.hid hd
    clear hk hd
    clear c3
    go_wp2_with fail
    refine (set_at g _ _ _ _ 4 2 0#64 7#64 (by rfl) (by rfl) (by rfl) (by rfl) _ _ HD.out (by omega) (by omega)).mono ?_
    rintro e z ⟨rfl, hk, hd⟩
    replace HK := Lib.hid (HK.out.trans hk (fun q hq e => by simp only [My.One] at e; omega))
    replace HB := Lib.hid (HB.out.keep hk (fun e => hag e))
    replace HD := Lib.hid hd
    clear hk hd
    go_wp2_with fail
    refine (set_at g _ _ _ _ 60 1 0#64 255#64 (by rfl) (by rfl) (by rfl) (by rfl) _ _ HD.out (by omega) (by omega)).mono ?_
    rintro e z ⟨rfl, hk, hd⟩
    replace HK := Lib.hid (HK.out.trans hk (fun q hq e => by simp only [My.One] at e; omega))
    replace HB := Lib.hid (HB.out.keep hk (fun e => hag e))
    replace HD := Lib.hid hd
    clear hk hd
    have c8 := blk_c HB.out 8 _ rfl
    go_wp2_with fail
    refine (set_at g _ _ _ _ 61 1 (BitVec.ofInt 64 f8) 0#64 (by rfl) (by rfl) HU8.out (by rfl) _ _ HD.out (by omega) (by omega)).mono ?_
    rintro e z ⟨rfl, hk, hd⟩
    replace HK := Lib.hid (HK.out.trans hk (fun q hq e => by simp only [My.One] at e; omega))
    replace HB := Lib.hid (HB.out.keep hk (fun e => hag e))
    replace HD := Lib.hid hd
    clear hk hd
    clear c8
    obtain ⟨d0, hd0⟩ : ∃ d0, d0 = cfg0 ⟨f0, f1, f2, f3, f4, f5, f6, f7, f8, f9⟩ (.slice A n c) := ⟨_, rfl⟩
    have HD0 := Lib.hid hd0
    have HD1 := HD
    unfold cfg0 at hd0
    rw [← hd0] at HD1
    have hd0 := HD0.out
    clear HD hd0
    go_wp2_with fail
    go_loopw [4] (fun i wr => ∃ k : Nat, i = .int .i64 k ∧ k ≤ cnt ∧ Hid (Keep Non w wr) ∧ Hid (Blk wr w.heap.size #[.int .i64 f0, .int .i64 f1, .int .i64 f2, .int .i64 f3, .bool f4, .bool f5, .bool f6, .int .i64 f7, .int .i64 f8, .int .i64 f9, .slice A n c] 44) ∧ Hid (IsD 82 wr g (d0.bars bs k))) (fun i _ => cnt - (intOf i).toNat)
    case atStart => exact ⟨0, rfl, Nat.zero_le _, HK.out, HB.out, HD1.out⟩
    case round =>
      clear HK HB HD1
      obtain ⟨k, rfl, hk, HK, HB, HD⟩ := hrel
      have c0 := blk_c HB.out 0 _ rfl
      have c1 := blk_c HB.out 1 _ rfl
      have c2 := blk_c HB.out 2 _ rfl
      have c3 := blk_c HB.out 3 _ rfl
      have c4 := blk_c HB.out 4 _ rfl
      have c5 := blk_c HB.out 5 _ rfl
      have c6 := blk_c HB.out 6 _ rfl
      have c7 := blk_c HB.out 7 _ rfl
      have c8 := blk_c HB.out 8 _ rfl
      have c9 := blk_c HB.out 9 _ rfl
      have c10 := blk_c HB.out 10 _ rfl
      go_wp2_with fail
      refine (HRG.out _).mono ?_
      rintro e z ⟨rfl, hk1⟩
      replace HK := Lib.hid (HK.out.tr hk1)
      replace HB := Lib.hid (HB.out.keep hk1 (fun h => h))
      replace HD := Lib.hid (HD.out.keep hk1 (fun h => h))
      clear hk1 c0 c1 c2 c3 c4 c5 c6 c7 c8 c9 c10
      by_cases hlt : k < cnt
      · have c0 := blk_c HB.out 0 _ rfl
        have c1 := blk_c HB.out 1 _ rfl
        have c2 := blk_c HB.out 2 _ rfl
        have c3 := blk_c HB.out 3 _ rfl
        have c4 := blk_c HB.out 4 _ rfl
        have c5 := blk_c HB.out 5 _ rfl
        have c6 := blk_c HB.out 6 _ rfl
        have c7 := blk_c HB.out 7 _ rfl
        have c8 := blk_c HB.out 8 _ rfl
        have c9 := blk_c HB.out 9 _ rfl
        have c10 := blk_c HB.out 10 _ rfl
        go_wp2_with fail
        refine (HBA.out k _ (HX.out.keepN HK.out) (by omega)).mono ?_
        rintro e z ⟨rfl, hk1⟩
        replace HK := Lib.hid (HK.out.tr hk1)
        replace HB := Lib.hid (HB.out.keep hk1 (fun h => h))
        replace HD := Lib.hid (HD.out.keep hk1 (fun h => h))
        clear hk1 c0 c1 c2 c3 c4 c5 c6 c7 c8 c9 c10
        have HST := Lib.hid (show d0.bars bs (k + 1) = (d0.bars bs k).bar k (at1 ⟨0, 0⟩ bs k).k (at1 ⟨0, 0⟩ bs k).s from rfl)
        have hvb := vBar_range (HVB.out k)
        have HWK := Lib.hid (HWI.out k)
        generalize at1 (⟨0, 0⟩ : Br) bs k = x at *
        obtain ⟨xk, xs⟩ := x
        simp only at HST hvb HWK
        obtain ⟨s0, s1, hkk⟩ := hvb
        obtain ⟨s', rfl⟩ : ∃ s' : Nat, xs = s' := ⟨xs.toNat, by omega⟩
        have HM := Lib.hid (un_ones s' (by omega))
        have hzg : z.heap.size ≠ g := by have h1 := HD.out.lt; omega
        replace HK := Lib.hid (HK.out.alloc (.cells #[.int .i64 xk, .int .i64 s'] 61))
        replace HB := Lib.hid (HB.out.alloc (.cells #[.int .i64 xk, .int .i64 s'] 61))
        replace HD := Lib.hid (HD.out.keep ((Keep.refl Non _).alloc (.cells #[.int .i64 xk, .int .i64 s'] 61)) (fun h => h))
        have HBb := Lib.hid (Blk.new z #[.int .i64 xk, .int .i64 s'] 61)
        rcases hkk with rfl | rfl | rfl | rfl | rfl
        · go_wp2_with fail
          refine (wide_any _ _ _).mono ?_
          rintro e z2 ⟨rfl, hk1⟩
          have HD1 : Hid (IsD 82 z2 g (d0.bars bs (k + 1))) := by show IsD _ _ _ _; rw [HST.out, Dv.bar_none]; exact HD.out.keep hk1 (fun h => h)
          have HK1 := Lib.hid (HK.out.tr hk1)
          have HB1 := Lib.hid (HB.out.keep hk1 (fun h => h))
          clear hk1
          go_wp2
          exact ⟨⟨k + 1, by go_num, by omega, HK1.out, HB1.out, HD1.out⟩, by simp [intOf]; omega⟩
        · go_wp2_with fail
          refine (set_at g _ _ _ _ (16 + 4 * k) 4 1#64 (ones s') (by omega) (by omega) (by rfl) HM.out _ _ HD.out (by omega) (by omega)).mono ?_
          rintro e z1 ⟨rfl, hk1, hd1⟩
          replace HK := Lib.hid (HK.out.trans hk1 (fun q hq e => by simp only [My.One] at e; omega))
          replace HB := Lib.hid (HB.out.keep hk1 (fun e => hag e))
          replace HBb := Lib.hid (HBb.out.keep hk1 (fun e => hzg e))
          have HD1 : Hid (IsD 82 z1 g (d0.bars bs (k + 1))) := by show IsD _ _ _ _; rw [HST.out]; exact hd1
          clear hk1 hd1
          have b0 := blk_c HBb.out 0 _ rfl
          have b1 := blk_c HBb.out 1 _ rfl
          go_wp2_with fail
          refine (wide_any _ _ _).mono ?_
          rintro e z2 ⟨rfl, hk1⟩
          replace HK := Lib.hid (HK.out.tr hk1)
          replace HB := Lib.hid (HB.out.keep hk1 (fun h => h))
          replace HD1 := Lib.hid (HD1.out.keep hk1 (fun h => h))
          clear hk1 b0 b1
          go_wp2
          exact ⟨⟨k + 1, by go_num, by omega, HK.out, HB.out, HD1.out⟩, by simp [intOf]; omega⟩
        · go_wp2_with fail
          refine (set_at g _ _ _ _ (16 + 4 * k) 4 0#64 (ones s') (by omega) (by omega) (by rfl) HM.out _ _ HD.out (by omega) (by omega)).mono ?_
          rintro e z1 ⟨rfl, hk1, hd1⟩
          replace HK := Lib.hid (HK.out.trans hk1 (fun q hq e => by simp only [My.One] at e; omega))
          replace HB := Lib.hid (HB.out.keep hk1 (fun e => hag e))
          replace HBb := Lib.hid (HBb.out.keep hk1 (fun e => hzg e))
          have HD1 : Hid (IsD 82 z1 g (d0.bars bs (k + 1))) := by show IsD _ _ _ _; rw [HST.out]; exact hd1
          clear hk1 hd1
          have b0 := blk_c HBb.out 0 _ rfl
          have b1 := blk_c HBb.out 1 _ rfl
          go_wp2_with fail
          refine (wide_any _ _ _).mono ?_
          rintro e z2 ⟨rfl, hk1⟩
          replace HK := Lib.hid (HK.out.tr hk1)
          replace HB := Lib.hid (HB.out.keep hk1 (fun h => h))
          replace HD1 := Lib.hid (HD1.out.keep hk1 (fun h => h))
          clear hk1 b0 b1
          go_wp2
          exact ⟨⟨k + 1, by go_num, by omega, HK.out, HB.out, HD1.out⟩, by simp [intOf]; omega⟩
        · go_wp2_with fail
          refine (set_at g _ _ _ _ (16 + 4 * k) 8 4#64 (ones s') (by omega) (by omega) (by rfl) HM.out _ _ HD.out (by omega) (by omega)).mono ?_
          rintro e z1 ⟨rfl, hk1, hd1⟩
          replace HK := Lib.hid (HK.out.trans hk1 (fun q hq e => by simp only [My.One] at e; omega))
          replace HB := Lib.hid (HB.out.keep hk1 (fun e => hag e))
          replace HBb := Lib.hid (HBb.out.keep hk1 (fun e => hzg e))
          have HD1 : Hid (IsD 82 z1 g (d0.bars bs (k + 1))) := by show IsD _ _ _ _; rw [HST.out]; exact hd1
          clear hk1 hd1
          have b0 := blk_c HBb.out 0 _ rfl
          have b1 := blk_c HBb.out 1 _ rfl
          go_wp2_with fail
          refine (wide_any _ _ _).mono ?_
          rintro e z2 ⟨rfl, hk1⟩
          replace HK := Lib.hid (HK.out.tr hk1)
          replace HB := Lib.hid (HB.out.keep hk1 (fun h => h))
          replace HD1 := Lib.hid (HD1.out.keep hk1 (fun h => h))
          clear hk1 b0 b1
          obtain ⟨hw1, hw2⟩ := HWK.out rfl
          have HD2 : Hid (IsD 82 z2 g (d0.bars bs (k + 2))) := by
            show IsD 82 z2 g ((d0.bars bs (k + 1)).bar (k + 1) (at1 ⟨0, 0⟩ bs (k + 1)).k (at1 ⟨0, 0⟩ bs (k + 1)).s)
            rw [hw2, Dv.bar_none]; exact HD1.out
          clear hw2
          go_wp2
          exact ⟨⟨k + 2, by go_num, by omega, HK.out, HB.out, HD2.out⟩, by simp [intOf]; omega⟩
        · go_wp2_with fail
          refine (set_at g _ _ _ _ (16 + 4 * k) 8 12#64 (ones s') (by omega) (by omega) (by rfl) HM.out _ _ HD.out (by omega) (by omega)).mono ?_
          rintro e z1 ⟨rfl, hk1, hd1⟩
          replace HK := Lib.hid (HK.out.trans hk1 (fun q hq e => by simp only [My.One] at e; omega))
          replace HB := Lib.hid (HB.out.keep hk1 (fun e => hag e))
          replace HBb := Lib.hid (HBb.out.keep hk1 (fun e => hzg e))
          have HD1 : Hid (IsD 82 z1 g (d0.bars bs (k + 1))) := by show IsD _ _ _ _; rw [HST.out]; exact hd1
          clear hk1 hd1
          have b0 := blk_c HBb.out 0 _ rfl
          have b1 := blk_c HBb.out 1 _ rfl
          go_wp2_with fail
          refine (wide_any _ _ _).mono ?_
          rintro e z2 ⟨rfl, hk1⟩
          replace HK := Lib.hid (HK.out.tr hk1)
          replace HB := Lib.hid (HB.out.keep hk1 (fun h => h))
          replace HD1 := Lib.hid (HD1.out.keep hk1 (fun h => h))
          clear hk1 b0 b1
          obtain ⟨hw1, hw2⟩ := HWK.out rfl
          have HD2 : Hid (IsD 82 z2 g (d0.bars bs (k + 2))) := by
            show IsD 82 z2 g ((d0.bars bs (k + 1)).bar (k + 1) (at1 ⟨0, 0⟩ bs (k + 1)).k (at1 ⟨0, 0⟩ bs (k + 1)).s)
            rw [hw2, Dv.bar_none]; exact HD1.out
          clear hw2
          go_wp2
          exact ⟨⟨k + 2, by go_num, by omega, HK.out, HB.out, HD2.out⟩, by simp [intOf]; omega⟩
      · obtain rfl : k = cnt := by omega
        have hfin : d0.bars bs k = d0.bars bs bs.length := by
          have h := Dv.bars_more d0 bs (k - bs.length)
          rwa [show bs.length + (k - bs.length) = k by omega] at h
        have HFI := Lib.hid hfin
        clear hfin
        have c4 := blk_c HB.out 4 _ rfl
        have c5 := blk_c HB.out 5 _ rfl
        cases f4
        · obtain rfl : f5 = false := HPB.out rfl
          go_wp2
          go_ret
          exact ⟨g, rfl, by omega, HK.out, by have h := HD.out; rw [HFI.out, HD0.out] at h; exact h⟩
        · clear c4 c5
          have c4 := blk_c HB.out 4 _ rfl
          go_wp2_with fail
          refine (set_at g _ _ _ _ 14 1 1#64 0#64 (by rfl) (by rfl) (by rfl) (by rfl) _ _ HD.out (by omega) (by omega)).mono ?_
          rintro e z ⟨rfl, hk, hd⟩
          replace HK := Lib.hid (HK.out.trans hk (fun q hq e => by simp only [My.One] at e; omega))
          replace HB := Lib.hid (HB.out.keep hk (fun e => hag e))
          replace HD := Lib.hid hd
          clear hk hd
          clear c4
          go_wp2_with fail
          refine (set_at g _ _ _ _ 24 3 0#64 0xFFFFFF#64 (by rfl) (by rfl) (by rfl) (by rfl) _ _ HD.out (by omega) (by omega)).mono ?_
          rintro e z ⟨rfl, hk, hd⟩
          replace HK := Lib.hid (HK.out.trans hk (fun q hq e => by simp only [My.One] at e; omega))
          replace HB := Lib.hid (HB.out.keep hk (fun e => hag e))
          replace HD := Lib.hid hd
          clear hk hd
          go_wp2_with fail
          refine (set_at g _ _ _ _ 28 2 0#64 0xF0F0#64 (by rfl) (by rfl) (by rfl) (by rfl) _ _ HD.out (by omega) (by omega)).mono ?_
          rintro e z ⟨rfl, hk, hd⟩
          replace HK := Lib.hid (HK.out.trans hk (fun q hq e => by simp only [My.One] at e; omega))
          replace HB := Lib.hid (HB.out.keep hk (fun e => hag e))
          replace HD := Lib.hid hd
          clear hk hd
          go_wp2_with fail
          refine (set_at g _ _ _ _ 32 4 0#64 0xFFF0FFF0#64 (by rfl) (by rfl) (by rfl) (by rfl) _ _ HD.out (by omega) (by omega)).mono ?_
          rintro e z ⟨rfl, hk, hd⟩
          replace HK := Lib.hid (HK.out.trans hk (fun q hq e => by simp only [My.One] at e; omega))
          replace HB := Lib.hid (HB.out.keep hk (fun e => hag e))
          replace HD := Lib.hid hd
          clear hk hd
          have c5 := blk_c HB.out 5 _ rfl
          cases f5
          · go_wp2
            go_ret
            exact ⟨g, rfl, by omega, HK.out, by have h := HD.out; rw [HFI.out, HD0.out] at h; exact h⟩
          · clear c5
            have c5 := blk_c HB.out 5 _ rfl
            go_wp2_with fail
            refine (set_at g _ _ _ _ 36 4 0x00010001#64 0xFFF0FFF0#64 (by rfl) (by rfl) (by rfl) (by rfl) _ _ HD.out (by omega) (by omega)).mono ?_
            rintro e z ⟨rfl, hk, hd⟩
            replace HK := Lib.hid (HK.out.trans hk (fun q hq e => by simp only [My.One] at e; omega))
            replace HB := Lib.hid (HB.out.keep hk (fun e => hag e))
            replace HD := Lib.hid hd
            clear hk hd
            clear c5
            go_wp2_with fail
            refine (set_at g _ _ _ _ 40 8 0#64 0xFFFFFFFFFFFFFFFF#64 (by rfl) (by rfl) (by rfl) (by rfl) _ _ HD.out (by omega) (by omega)).mono ?_
            rintro e z ⟨rfl, hk, hd⟩
            replace HK := Lib.hid (HK.out.trans hk (fun q hq e => by simp only [My.One] at e; omega))
            replace HB := Lib.hid (HB.out.keep hk (fun e => hag e))
            replace HD := Lib.hid hd
            clear hk hd
            go_wp2
            go_ret
            exact ⟨g, rfl, by omega, HK.out, by have h := HD.out; rw [HFI.out, HD0.out] at h; exact h⟩
end Go.Proofs.Ytolbecinjajejaa
