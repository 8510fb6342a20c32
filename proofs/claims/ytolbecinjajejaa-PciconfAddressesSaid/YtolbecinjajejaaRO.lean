/- The law PciconfReadOnly: the walk. -/
import Derived.Test.YtolbecinjajejaaD11
import Derived.Test.YtolbecinjajejaaD7
import Derived.Deep.DeepCutAuto
import Derived.Test.YtolbecinjajejaaL5
import Derived.Deep.QuietTactic
import Derived.BigQuiet
set_option linter.unusedVariables false
set_option linter.unusedSimpArgs false
namespace Go.Proofs.Ytolbecinjajejaa
open Go.RowKit Go.My

theorem rread4_at (g : Nat) (O V : Int) (o : Nat) (hO : O = o) (d : Dv) (w : World) (h : IsD 82 w g d) (ho : o ≤ 252) (h4 : o % 4 = 0) (hV : un (rdw d.by_ o 4) = V) :
    Calls Try.prog 27 #[.pointer (some ⟨g, 0, none⟩), .int .i64 O, .int .i64 4] w fun e w' => e = .returned (.int .u64 V) ∧ w = w' := by
  subst hO hV
  exact rread4 g o d w h ho h4
theorem rread1_at (g : Nat) (O V : Int) (o : Nat) (hO : O = o) (d : Dv) (w : World) (h : IsD 82 w g d) (ho : o ≤ 252) (hV : un (rdw d.by_ o 1) = V) :
    Calls Try.prog 27 #[.pointer (some ⟨g, 0, none⟩), .int .i64 O, .int .i64 1] w fun e w' => e = .returned (.int .u64 V) ∧ w = w' := by
  subst hO hV
  exact rread1 g o d w h ho

/-- The law's state: the function, two devices and the reference's. -/
structure RO (w : World) (a gd gc gx : Nat) (F : Fh) (V : Value) (d dc dx : Dv) (wr : World) : Prop where
  k : Keep Non w wr
  b : Blk wr a (fhL F V) 44
  hd : IsD 76 wr gd d
  hc : IsD 76 wr gc dc
  hx : IsD 82 wr gx dx
  ne : w.heap.size ≤ gd ∧ gd ≠ gc ∧ gd ≠ gx ∧ gd ≠ a
section
variable {w : World} {a gd gc gx : Nat} {F : Fh} {V : Value} {d dc dx d' : Dv} {wr w1 : World}
theorem RO.keep (h : RO w a gd gc gx F V d dc dx wr) (k : Keep Non wr w1) : RO w a gd gc gx F V d dc dx w1 :=
  ⟨h.k.tr k, h.b.keep k (fun h => h), h.hd.keep k (fun h => h), h.hc.keep k (fun h => h), h.hx.keep k (fun h => h), h.ne⟩
theorem RO.write (h : RO w a gd gc gx F V d dc dx wr) (k : Keep (My.One gd) wr w1) (hd : IsD 76 w1 gd d') : RO w a gd gc gx F V d' dc dx w1 :=
  ⟨h.k.trans k (fun q hq e => by have := h.ne.1; simp only [My.One] at e; omega), h.b.keep k (fun e => h.ne.2.2.2 e.symm), hd, h.hc.keep k (fun e => h.ne.2.1 e.symm), h.hx.keep k (fun e => h.ne.2.2.1 e.symm), h.ne⟩
end
/-- The function's variable and its registers. -/
structure FSt (w : World) (a : Nat) (F : Fh) (V : Value) (bs : List Br) (wr : World) : Prop where
  k : Keep Non w wr
  b : Blk wr a (fhL F V) 44
  r : RowE encB 2 (fun _ => True) wr V bs
theorem FSt.keep {w : World} {a : Nat} {F : Fh} {V : Value} {bs : List Br} {wr w1 : World} (h : FSt w a F V bs wr) (k : Keep Non wr w1) : FSt w a F V bs w1 :=
  ⟨h.k.tr k, h.b.keep k (fun h => h), h.r.keepN k⟩
theorem cfgP_by (f : Fh) (v v' : Value) (bs : List Br) : (cfgP f v bs).by_ = (cfgP f v' bs).by_ := by
  have e : ∀ k, ((cfg0 f v).bars bs k).by_ = ((cfg0 f v').bars bs k).by_ := by
    intro k
    induction k with
    | zero => rfl
    | succ k ih =>
      show (Dv.bar _ _ _ _).by_ = (Dv.bar _ _ _ _).by_
      unfold Dv.bar Dv.def_
      repeat' split
      all_goals simp only [ih]
  unfold cfgP
  cases f.bridge
  · exact e _
  · simp only [if_true]
    unfold Dv.bridge
    cases f.pref <;> simp only [Dv.def_, e, if_true, Bool.false_eq_true, if_false]
theorem vFn_rng {f : Fh} {bs : List Br} (h : vFn f bs = true) : (1 ≤ f.vendor ∧ f.vendor ≤ 65534) ∧ (0 ≤ f.device ∧ f.device ≤ 65535) ∧ (0 ≤ f.pin ∧ f.pin ≤ 4) := by
  unfold vFn vA at h
  simp only [Bool.and_eq_true] at h
  exact ⟨rng_le h.1.1.1.1.1.1.1, rng_le h.1.1.1.1.1.1.2, rng_le h.1.1.1.1.2⟩
/-- What the writes leave at the identity. -/
theorem ro_vendor {f : Fh} {v : Value} {bs : List Br} (hv : vFn f bs = true) {d : Dv} (hs : Stays (cfgP f v bs) d) : un (rdw d.by_ 0 2) = IntKind.u64.wrap f.vendor := by
  have h6 := bars_len hv
  have hr := (vFn_rng hv).1
  have a0 : d.by_ 0 = byteOf (BitVec.ofInt 64 f.vendor) 0 := (stays_at hs (((cfgP_out f v bs h6 0 (by omega)).2).trans rfl)).trans (((cfgP_out f v bs h6 0 (by omega)).1).trans rfl)
  have a1 : d.by_ 1 = byteOf (BitVec.ofInt 64 f.vendor) 1 := (stays_at hs (((cfgP_out f v bs h6 1 (by omega)).2).trans rfl)).trans (((cfgP_out f v bs h6 1 (by omega)).1).trans rfl)
  have h := byte0 f.vendor (by omega) (by omega)
  have e : rdw d.by_ 0 2 = rdw (fun j => byteOf (BitVec.ofInt 64 f.vendor) j) 0 2 := by simp only [rdw, Nat.add_zero, Nat.zero_add, a0, a1]
  rw [e, h, un_ofInt]
theorem ro_device {f : Fh} {v : Value} {bs : List Br} (hv : vFn f bs = true) {d : Dv} (hs : Stays (cfgP f v bs) d) : un (rdw d.by_ 2 2) = IntKind.u64.wrap f.device := by
  have h6 := bars_len hv
  have hr := (vFn_rng hv).2.1
  have a0 : d.by_ 2 = byteOf (BitVec.ofInt 64 f.device) 0 := (stays_at hs (((cfgP_out f v bs h6 2 (by omega)).2).trans rfl)).trans (((cfgP_out f v bs h6 2 (by omega)).1).trans rfl)
  have a1 : d.by_ 3 = byteOf (BitVec.ofInt 64 f.device) 1 := (stays_at hs (((cfgP_out f v bs h6 3 (by omega)).2).trans rfl)).trans (((cfgP_out f v bs h6 3 (by omega)).1).trans rfl)
  have h := byte0 f.device (by omega) (by omega)
  have e : rdw d.by_ 2 2 = rdw (fun j => byteOf (BitVec.ofInt 64 f.device) j) 0 2 := by simp only [rdw, Nat.add_zero, Nat.zero_add, Nat.reduceAdd, a0, a1]
  rw [e, h, un_ofInt]
theorem ro_pin {f : Fh} {v : Value} {bs : List Br} (hv : vFn f bs = true) {d : Dv} (hs : Stays (cfgP f v bs) d) : un (rdw d.by_ 61 1) = IntKind.u64.wrap f.pin := by
  have h6 := bars_len hv
  have hr := (vFn_rng hv).2.2
  have a0 : d.by_ 61 = byteOf (BitVec.ofInt 64 f.pin) 0 := (stays_at hs (((cfgP_out f v bs h6 61 (by omega)).2).trans rfl)).trans (((cfgP_out f v bs h6 61 (by omega)).1).trans rfl)
  have e : rdw d.by_ 61 1 = (d.by_ 61).setWidth 64 := by simp [rdw]
  rw [e, ← un_byte, a0, ← byte_div, un_ofInt]
  rw [IntKind.wrap_u64]
  simp
  omega
theorem ro_head {f : Fh} {v v' : Value} {bs : List Br} (hv : vFn f bs = true) {d : Dv} (hs : Stays (cfgP f v bs) d) : un (rdw d.by_ 14 1) = un (rdw (cfgP f v' bs).by_ 14 1) := by
  have h6 := bars_len hv
  have a0 : d.by_ 14 = (cfgP f v' bs).by_ 14 := (stays_at hs (cfgP_m14 f v bs h6)).trans (by rw [cfgP_by f v v' bs])
  simp only [rdw, Nat.add_zero, a0]

set_option maxHeartbeats 16000000 in
set_option maxRecDepth 100000 in
theorem readOnlyLaw (f : Fh) (v : Value) (bs : List Br) (lv : Value) (xs : List OpP) (w : World) (h : Bars (fun _ => True) w v bs) (hx : RowE encO 5 (fun _ => True) w lv xs) :
    Calls Try.prog 6 #[.agg (fhL f v), lv] w fun e w' => e = .returned (.bool true) ∧ Keep Non w w' := by
  have HF := Lib.hid (show RowE encB 2 (fun _ => True) w v bs from h)
  have hxx := hx
  obtain ⟨A, c, rfl, hl, hm, h0⟩ := hx
  have HX : Hid (RowE encO 5 (fun _ => True) w (.slice A xs.length c) xs) := hxx
  clear h h0 hxx
  unfold maxLen at hm
  have HK0 : Hid (Keep Non w (w.alloc (.cells (fhL f v) 44))) := (Keep.refl _ _).alloc _
  unfold fhL at HK0 ⊢
  go_enter Try.func6, Try.ntmps6
  go_wp2_with fail
  refine (some_any f v bs _ _ (HF.out.keepN HK0.out)).mono ?_
  rintro e z ⟨F, V, bs1, he, hk0, hr⟩
  obtain ⟨A1, n1, c1, rfl⟩ : ∃ A1 n1 c1, V = .slice A1 n1 c1 := by obtain ⟨A1, c1, h, _⟩ := hr; exact ⟨A1, _, c1, h⟩
  unfold fhL at he
  subst he
  have HS : Hid (FSt w z.heap.size F (.slice A1 n1 c1) bs1 (z.alloc (.cells #[.int .i64 F.parent, .int .i64 F.slot, .int .i64 F.vendor, .int .i64 F.device, .bool F.bridge, .bool F.pref, .bool F.hot, .int .i64 F.spare, .int .i64 F.pin, .int .i64 F.vectors, .slice A1 n1 c1] 44))) :=
    ⟨(HK0.out.tr hk0).alloc _, Blk.new _ _ _, (hr.mono (fun _ _ _ => trivial)).keepN ((Keep.refl _ _).alloc _)⟩
  have hza : w.heap.size ≤ z.heap.size := (HK0.out.tr hk0).size
  clear hk0 hr HF HK0
  go_wp2_with fail
  refine (validFunction_any F _ bs1 _ _ HS.out.r).mono ?_
  rintro e z1 ⟨rfl, hk0⟩
  replace HS := Lib.hid (HS.out.keep hk0)
  clear hk0
  generalize z.heap.size = a at *
  cases hv : vFn F bs1
  · go_wp2_with fail
    refine (awake18 _).mono ?_
    rintro e z2 ⟨rfl, hk0⟩
    replace HS := Lib.hid (HS.out.keep hk0)
    clear hk0 hv
    go_wp2
    go_ret
    exact ⟨rfl, HS.out.k⟩
  · have HV := Lib.hid hv
    clear hv
    obtain ⟨e0, e1, e2, e3, e4, e5, e6, e7, e8, e9, e10⟩ := f_cells HS.out.b
    go_wp2_with fail
    refine (new_ok F _ bs1 _ _ HS.out.r HV.out).mono ?_
    rintro e z2 ⟨gd, v1, rfl, hgd, hk0, _, hd0⟩
    have hga : a < gd := by have := HS.out.b.lt; omega
    replace HS := Lib.hid (HS.out.keep hk0)
    have HD := Lib.hid hd0
    clear hk0 hd0 e0 e1 e2 e3 e4 e5 e6 e7 e8 e9 e10 hgd
    obtain ⟨e0, e1, e2, e3, e4, e5, e6, e7, e8, e9, e10⟩ := f_cells HS.out.b
    go_wp2_with fail
    refine (new_ok F _ bs1 _ _ HS.out.r HV.out).mono ?_
    rintro e z3 ⟨gc, v2, rfl, hgc, hk0, _, hc0⟩
    have hdc : gd ≠ gc := by have := HD.out.lt; omega
    replace HS := Lib.hid (HS.out.keep hk0)
    replace HD := Lib.hid (HD.out.keep hk0 (fun h => h))
    have HC := Lib.hid hc0
    clear hk0 hc0 e0 e1 e2 e3 e4 e5 e6 e7 e8 e9 e10 hgc
    go_wp2_with fail
    refine (awake18 _).mono ?_
    rintro e z4 ⟨rfl, hk0⟩
    replace HS := Lib.hid (HS.out.keep hk0)
    replace HD := Lib.hid (HD.out.keep hk0 (fun h => h))
    replace HC := Lib.hid (HC.out.keep hk0 (fun h => h))
    clear hk0
    obtain ⟨e0, e1, e2, e3, e4, e5, e6, e7, e8, e9, e10⟩ := f_cells HS.out.b
    go_wp2_with fail
    refine (newDevice_ok F _ bs1 _ _ HS.out.r HV.out).mono ?_
    rintro e z5 ⟨gx, rfl, hgx, hk0, hx0⟩
    have hdx : gd ≠ gx := by have := HD.out.lt; omega
    have HRO : Hid (RO w a gd gc gx F (.slice A1 n1 c1) (cfgP F v1 bs1) (cfgP F v2 bs1) (cfgP F (.slice A1 n1 c1) bs1) z5) :=
      ⟨HS.out.k.tr hk0, HS.out.b.keep hk0 (fun h => h), HD.out.keep hk0 (fun h => h), HC.out.keep hk0 (fun h => h), hx0, by omega, hdc, hdx, by omega⟩
    clear hk0 hx0 e0 e1 e2 e3 e4 e5 e6 e7 e8 e9 e10 HS HD HC
    have HBY := Lib.hid (cfgP_by F v2 (.slice A1 n1 c1) bs1)
    have HVE : Hid (∀ d', Stays (cfgP F v1 bs1) d' → un (rdw d'.by_ 0 2) = IntKind.u64.wrap F.vendor) := fun d' hs => ro_vendor HV.out hs
    have HDE : Hid (∀ d', Stays (cfgP F v1 bs1) d' → un (rdw d'.by_ 2 2) = IntKind.u64.wrap F.device) := fun d' hs => ro_device HV.out hs
    have HPI : Hid (∀ d', Stays (cfgP F v1 bs1) d' → un (rdw d'.by_ 61 1) = IntKind.u64.wrap F.pin) := fun d' hs => ro_pin HV.out hs
    have HHE : Hid (∀ d', Stays (cfgP F v1 bs1) d' → un (rdw d'.by_ 14 1) = un (rdw (cfgP F (.slice A1 n1 c1) bs1).by_ 14 1)) := fun d' hs => ro_head HV.out hs
    generalize hdx0 : cfgP F (.slice A1 n1 c1) bs1 = dx at *
    generalize hdc0 : cfgP F v2 bs1 = dc at *
    generalize hdd0 : cfgP F v1 bs1 = d0 at *
    clear hdx0 hdc0 hdd0
    go_wp2_with fail
    go_loopw [11] (fun i wr => ∃ (k : Nat) (d' : Dv), i = .int .i64 k ∧ k ≤ xs.length ∧ Hid (Stays d0 d') ∧ Hid (RO w a gd gc gx F (.slice A1 n1 c1) d' dc dx wr)) (fun i _ => xs.length - (intOf i).toNat)
    case atStart => exact ⟨0, d0, rfl, Nat.zero_le _, Stays.refl _, HRO.out⟩
    case round =>
      clear HRO
      obtain ⟨k, d', rfl, hk, HST, HRO⟩ := hrel
      go_upto_region 10 with fail
      go_cut [58] (fun s wx => s = .bool (decide (k < xs.length) && decide (k < 40)) ∧ wx = wr)
      case first =>
        by_cases hlt : k < xs.length
        · go_wp2_with fail
          go_meet
          exact ⟨by simp [hlt]; try omega, rfl⟩
        · go_wp2_with fail
          go_meet
          exact ⟨by simp [hlt]; try omega, rfl⟩
      case rest =>
        obtain ⟨rfl, rfl⟩ := hcut
        by_cases hgo : k < xs.length ∧ k < 40
        · have hd : (decide (k < xs.length) && decide (k < 40)) = true := by simp [hgo]
          rw [hd]
          clear hd
          obtain ⟨hlt, h40⟩ := hgo
          obtain ⟨b, off, rfl, q0, q1, q2, q3, q4⟩ := ops_get HX.out hlt
          generalize at1 _ xs k = x at *
          have p0 := HRO.out.k.cell' q0 (fun h => h)
          have p1 := HRO.out.k.cell' q1 (fun h => h)
          have p2 := HRO.out.k.cell' q2 (fun h => h)
          have p3 := HRO.out.k.cell' q3 (fun h => h)
          have p4 := HRO.out.k.cell' q4 (fun h => h)
          go_wp2_with fail
          refine (access_any x _).mono ?_
          rintro e z6 ⟨at_, wd, rfl, hk0⟩
          replace HRO := Lib.hid (HRO.out.keep hk0)
          clear hk0 p0 p1 p2 p3 p4
          have p3 := HRO.out.k.cell' q3 (fun h => h)
          clear q0 q1 q2 q3 q4
          go_wp2_with fail
          refine (write_any gd at_ wd x.val d' _ HRO.out.hd).mono ?_
          rintro e z7 ⟨rfl, hk0, d2, hs2, hd2⟩
          replace HRO := Lib.hid (HRO.out.write hk0 hd2)
          have HST2 := Lib.hid (HST.out.trans hs2)
          clear hk0 hs2 hd2 p3
          go_wp2
          exact ⟨⟨k + 1, d2, by go_num, by omega, HST2.out, HRO.out⟩, by simp [intOf]; omega⟩
        · have hd : (decide (k < xs.length) && decide (k < 40)) = false := by simp; omega
          rw [hd]
          clear hd
          have HV0 := Lib.hid (HVE.out d' HST.out)
          have HV1 := Lib.hid (HDE.out d' HST.out)
          have HV2 := Lib.hid (HPI.out d' HST.out)
          have HV3 := Lib.hid (HHE.out d' HST.out)
          obtain ⟨e0, e1, e2, e3, e4, e5, e6, e7, e8, e9, e10⟩ := f_cells HRO.out.b
          clear e0 e1 e4 e5 e6 e7 e9 e10
          go_wp2_with fail
          go_loop [14] (fun i => ∃ j : Nat, i = .int .i64 (4 * (j : Int)) ∧ j ≤ 64) (fun i => 260 - (intOf i).toNat)
          case atStart => exact ⟨0, rfl, by omega⟩
          case round =>
            obtain ⟨j, rfl, hj⟩ := hrel
            by_cases hlt : j < 64
            · go_wp2_with fail
              refine (read_at gc _ _ (un (rdw dx.by_ (4 * j) 4)) (4 * j) 4 (by omega) (by omega) dc _ HRO.out.hc (by simp [wfm]; omega) (by rw [HBY.out])).mono ?_
              rintro e z8 ⟨rfl, rfl⟩
              go_wp2_with fail
              refine (rread4_at gx _ (un (rdw dx.by_ (4 * j) 4)) (4 * j) (by omega) dx _ HRO.out.hx (by omega) (by omega) rfl).mono ?_
              rintro e z8 ⟨rfl, rfl⟩
              go_wp2
              exact ⟨⟨j + 1, by go_num, by omega⟩, by simp [intOf]; omega⟩
            · obtain rfl : j = 64 := by omega
              go_wp2_with fail
              refine wp_region_held_drew (S := (fun w' : World => w'.cell? ⟨a, 2, none⟩ = some (.int .i64 F.vendor) ∧ w'.cell? ⟨a, 3, none⟩ = some (.int .i64 F.device) ∧ w'.cell? ⟨a, 8, none⟩ = some (.int .i64 F.pin) ∧ IsD 76 w' gd d' ∧ IsD 82 w' gx dx)) (by kernel_rfl) ?_ (fun hHeld => ?_)
              · exact ⟨e2, e3, e8, HRO.out.hd.drew, HRO.out.hx.drew⟩
              refine take_first (i := 0) (oi := { dst := some 89, op := Go.Op.move (Go.Operand.tmp 6), type := 45, pos := "law.go:217", after := #[], guard := none }) (v := ?_) rfl (by kernel_rfl) (by kernel_rfl) (by kernel_rfl) (fun _ _ _ h => h) ⟨by rfl, fun w hSw => .inl ?_⟩ (by assumption) ?_
              rotate_left
              · ((try dsimp only at hSw); go_simp; (try with_reducible rfl))
              try simp only [Act.put, List.setIfInBounds_toArray, List.set_cons_zero, List.set_cons_succ]
              refine take_first (i := 1) (oi := { dst := some 90, op := Go.Op.call { callee := Go.Callee.value (Go.Operand.func 26), args := #[Go.Operand.tmp 89, Go.Operand.const (Go.Value.int Go.IntKind.i64 0), Go.Operand.const (Go.Value.int Go.IntKind.i64 2)], argTypes := #[45, 3, 3] }, type := 22, pos := "law.go:217", after := #[{ on := 0, ground := Go.Ground.data }], guard := none }) (v := (.int .u64 (IntKind.u64.wrap F.vendor))) rfl (by kernel_rfl) (by kernel_rfl) (by kernel_rfl) (fun _ _ _ h => h) ⟨by rfl, fun w hSw => .inr ⟨26, #[.pointer (some ⟨gd, 0, none⟩), .int .i64 0, .int .i64 2], ?_, read_at gd 0 2 (IntKind.u64.wrap F.vendor) 0 2 rfl rfl d' w hSw.2.2.2.1 rfl HV0.out⟩⟩ (by assumption) ?_
              · first | rfl | go_simp | (go_simp; rfl)
              try simp only [Act.put, List.setIfInBounds_toArray, List.set_cons_zero, List.set_cons_succ]
              refine take_first (i := 2) (oi := { dst := some 91, op := Go.Op.fieldAddr 44 (Go.Operand.tmp 5) 2, type := 0, pos := "law.go:217", after := #[], guard := none }) (v := ?_) rfl (by kernel_rfl) (by kernel_rfl) (by kernel_rfl) (fun _ _ _ h => h) ⟨by rfl, fun w hSw => .inl ?_⟩ (by assumption) ?_
              rotate_left
              · ((try dsimp only at hSw); go_simp; (try with_reducible rfl))
              try simp only [Act.put, List.setIfInBounds_toArray, List.set_cons_zero, List.set_cons_succ]
              refine take_first (i := 3) (oi := { dst := some 92, op := Go.Op.load 3 (Go.Operand.tmp 91), type := 3, pos := "law.go:217", after := #[{ on := 2, ground := Go.Ground.data }], guard := none }) (v := ?_) rfl (by kernel_rfl) (by kernel_rfl) (by kernel_rfl) (fun _ _ _ h => h) ⟨by rfl, fun w hSw => .inl ?_⟩ (by assumption) ?_
              rotate_left
              · ((try dsimp only at hSw); go_simp; (try with_reducible rfl))
              try simp only [Act.put, List.setIfInBounds_toArray, List.set_cons_zero, List.set_cons_succ]
              refine take_first (i := 4) (oi := { dst := some 93, op := Go.Op.convert 3 22 (Go.Operand.tmp 92), type := 22, pos := "law.go:217", after := #[{ on := 3, ground := Go.Ground.data }], guard := none }) (v := ?_) rfl (by kernel_rfl) (by kernel_rfl) (by kernel_rfl) (fun _ _ _ h => h) ⟨by rfl, fun w hSw => .inl ?_⟩ (by assumption) ?_
              rotate_left
              · ((try dsimp only at hSw); go_simp; (try with_reducible rfl))
              try simp only [Act.put, List.setIfInBounds_toArray, List.set_cons_zero, List.set_cons_succ]
              refine take_first (i := 5) (oi := { dst := some 94, op := Go.Op.binOp Go.BinOp.eql 22 (Go.Operand.tmp 90) (Go.Operand.tmp 93) 22, type := 4, pos := "law.go:217", after := #[{ on := 1, ground := Go.Ground.data }, { on := 4, ground := Go.Ground.data }], guard := none }) (v := ?_) rfl (by kernel_rfl) (by kernel_rfl) (by kernel_rfl) (fun _ _ _ h => h) ⟨by rfl, fun w hSw => .inl ?_⟩ (by assumption) ?_
              rotate_left
              · ((try dsimp only at hSw); go_simp; (try with_reducible rfl))
              try simp only [Act.put, List.setIfInBounds_toArray, List.set_cons_zero, List.set_cons_succ]
              refine take_first (i := 6) (oi := { dst := some 95, op := Go.Op.move (Go.Operand.tmp 94), type := 4, pos := "law.go:217", after := #[{ on := 5, ground := Go.Ground.data }, { on := 1, ground := Go.Ground.chain }], guard := none }) (v := ?_) rfl (by kernel_rfl) (by kernel_rfl) (by kernel_rfl) (fun _ _ _ h => h) ⟨by rfl, fun w hSw => .inl ?_⟩ (by assumption) ?_
              rotate_left
              · ((try dsimp only at hSw); go_simp; (try with_reducible rfl))
              try simp only [Act.put, List.setIfInBounds_toArray, List.set_cons_zero, List.set_cons_succ]
              refine take_first (i := 7) (oi := { dst := some 96, op := Go.Op.move (Go.Operand.tmp 6), type := 45, pos := "law.go:217", after := #[{ on := 6, ground := Go.Ground.guard }], guard := some (6, true) }) (v := ?_) rfl (by kernel_rfl) (by kernel_rfl) (by kernel_rfl) (fun _ _ _ h => h) ⟨by rfl, fun w hSw => .inl ?_⟩ (by assumption) ?_
              rotate_left
              · ((try dsimp only at hSw); go_simp; (try with_reducible rfl))
              try simp only [Act.put, List.setIfInBounds_toArray, List.set_cons_zero, List.set_cons_succ]
              refine take_first (i := 8) (oi := { dst := some 97, op := Go.Op.call { callee := Go.Callee.value (Go.Operand.func 26), args := #[Go.Operand.tmp 96, Go.Operand.const (Go.Value.int Go.IntKind.i64 2), Go.Operand.const (Go.Value.int Go.IntKind.i64 2)], argTypes := #[45, 3, 3] }, type := 22, pos := "law.go:217", after := #[{ on := 7, ground := Go.Ground.data }, { on := 6, ground := Go.Ground.chain }, { on := 6, ground := Go.Ground.guard }], guard := some (6, true) }) (v := (.int .u64 (IntKind.u64.wrap F.device))) rfl (by kernel_rfl) (by kernel_rfl) (by kernel_rfl) (fun _ _ _ h => h) ⟨by rfl, fun w hSw => .inr ⟨26, #[.pointer (some ⟨gd, 0, none⟩), .int .i64 2, .int .i64 2], ?_, read_at gd 2 2 (IntKind.u64.wrap F.device) 2 2 rfl rfl d' w hSw.2.2.2.1 rfl HV1.out⟩⟩ (by assumption) ?_
              · first | rfl | go_simp | (go_simp; rfl)
              try simp only [Act.put, List.setIfInBounds_toArray, List.set_cons_zero, List.set_cons_succ]
              refine take_first (i := 9) (oi := { dst := some 98, op := Go.Op.fieldAddr 44 (Go.Operand.tmp 5) 3, type := 0, pos := "law.go:217", after := #[{ on := 6, ground := Go.Ground.guard }], guard := some (6, true) }) (v := ?_) rfl (by kernel_rfl) (by kernel_rfl) (by kernel_rfl) (fun _ _ _ h => h) ⟨by rfl, fun w hSw => .inl ?_⟩ (by assumption) ?_
              rotate_left
              · ((try dsimp only at hSw); go_simp; (try with_reducible rfl))
              try simp only [Act.put, List.setIfInBounds_toArray, List.set_cons_zero, List.set_cons_succ]
              refine take_first (i := 10) (oi := { dst := some 99, op := Go.Op.load 3 (Go.Operand.tmp 98), type := 3, pos := "law.go:217", after := #[{ on := 9, ground := Go.Ground.data }, { on := 6, ground := Go.Ground.guard }], guard := some (6, true) }) (v := ?_) rfl (by kernel_rfl) (by kernel_rfl) (by kernel_rfl) (fun _ _ _ h => h) ⟨by rfl, fun w hSw => .inl ?_⟩ (by assumption) ?_
              rotate_left
              · ((try dsimp only at hSw); go_simp; (try with_reducible rfl))
              try simp only [Act.put, List.setIfInBounds_toArray, List.set_cons_zero, List.set_cons_succ]
              refine take_first (i := 11) (oi := { dst := some 100, op := Go.Op.convert 3 22 (Go.Operand.tmp 99), type := 22, pos := "law.go:217", after := #[{ on := 10, ground := Go.Ground.data }, { on := 6, ground := Go.Ground.guard }], guard := some (6, true) }) (v := ?_) rfl (by kernel_rfl) (by kernel_rfl) (by kernel_rfl) (fun _ _ _ h => h) ⟨by rfl, fun w hSw => .inl ?_⟩ (by assumption) ?_
              rotate_left
              · ((try dsimp only at hSw); go_simp; (try with_reducible rfl))
              try simp only [Act.put, List.setIfInBounds_toArray, List.set_cons_zero, List.set_cons_succ]
              refine take_first (i := 12) (oi := { dst := some 101, op := Go.Op.binOp Go.BinOp.eql 22 (Go.Operand.tmp 97) (Go.Operand.tmp 100) 22, type := 4, pos := "law.go:217", after := #[{ on := 8, ground := Go.Ground.data }, { on := 11, ground := Go.Ground.data }, { on := 6, ground := Go.Ground.guard }], guard := some (6, true) }) (v := ?_) rfl (by kernel_rfl) (by kernel_rfl) (by kernel_rfl) (fun _ _ _ h => h) ⟨by rfl, fun w hSw => .inl ?_⟩ (by assumption) ?_
              rotate_left
              · ((try dsimp only at hSw); go_simp; (try with_reducible rfl))
              try simp only [Act.put, List.setIfInBounds_toArray, List.set_cons_zero, List.set_cons_succ]
              refine take_first (i := 13) (oi := { dst := some 102, op := Go.Op.pick (Go.Operand.tmp 95) (Go.Operand.tmp 101) (Go.Operand.const (Go.Value.bool false)), type := 4, pos := "law.go:217", after := #[{ on := 6, ground := Go.Ground.data }, { on := 12, ground := Go.Ground.data }], guard := none }) (v := ?_) rfl (by kernel_rfl) (by kernel_rfl) (by kernel_rfl) (fun _ _ _ h => h) ⟨by rfl, fun w hSw => .inl ?_⟩ (by assumption) ?_
              rotate_left
              · ((try dsimp only at hSw); go_simp; (try with_reducible rfl))
              try simp only [Act.put, List.setIfInBounds_toArray, List.set_cons_zero, List.set_cons_succ]
              refine take_first (i := 14) (oi := { dst := some 103, op := Go.Op.move (Go.Operand.tmp 102), type := 4, pos := "law.go:217", after := #[{ on := 13, ground := Go.Ground.data }, { on := 8, ground := Go.Ground.chain }], guard := none }) (v := ?_) rfl (by kernel_rfl) (by kernel_rfl) (by kernel_rfl) (fun _ _ _ h => h) ⟨by rfl, fun w hSw => .inl ?_⟩ (by assumption) ?_
              rotate_left
              · ((try dsimp only at hSw); go_simp; (try with_reducible rfl))
              try simp only [Act.put, List.setIfInBounds_toArray, List.set_cons_zero, List.set_cons_succ]
              refine take_first (i := 15) (oi := { dst := some 104, op := Go.Op.move (Go.Operand.tmp 6), type := 45, pos := "law.go:217", after := #[{ on := 14, ground := Go.Ground.guard }], guard := some (14, true) }) (v := ?_) rfl (by kernel_rfl) (by kernel_rfl) (by kernel_rfl) (fun _ _ _ h => h) ⟨by rfl, fun w hSw => .inl ?_⟩ (by assumption) ?_
              rotate_left
              · ((try dsimp only at hSw); go_simp; (try with_reducible rfl))
              try simp only [Act.put, List.setIfInBounds_toArray, List.set_cons_zero, List.set_cons_succ]
              refine take_first (i := 16) (oi := { dst := some 105, op := Go.Op.call { callee := Go.Callee.value (Go.Operand.func 26), args := #[Go.Operand.tmp 104, Go.Operand.const (Go.Value.int Go.IntKind.i64 14), Go.Operand.const (Go.Value.int Go.IntKind.i64 1)], argTypes := #[45, 3, 3] }, type := 22, pos := "law.go:217", after := #[{ on := 15, ground := Go.Ground.data }, { on := 14, ground := Go.Ground.chain }, { on := 14, ground := Go.Ground.guard }], guard := some (14, true) }) (v := (.int .u64 (un (rdw dx.by_ 14 1)))) rfl (by kernel_rfl) (by kernel_rfl) (by kernel_rfl) (fun _ _ _ h => h) ⟨by rfl, fun w hSw => .inr ⟨26, #[.pointer (some ⟨gd, 0, none⟩), .int .i64 14, .int .i64 1], ?_, read_at gd 14 1 (un (rdw dx.by_ 14 1)) 14 1 rfl rfl d' w hSw.2.2.2.1 rfl HV3.out⟩⟩ (by assumption) ?_
              · first | rfl | go_simp | (go_simp; rfl)
              try simp only [Act.put, List.setIfInBounds_toArray, List.set_cons_zero, List.set_cons_succ]
              refine take_first (i := 17) (oi := { dst := some 106, op := Go.Op.move (Go.Operand.tmp 10), type := 51, pos := "law.go:217", after := #[{ on := 14, ground := Go.Ground.guard }], guard := some (14, true) }) (v := ?_) rfl (by kernel_rfl) (by kernel_rfl) (by kernel_rfl) (fun _ _ _ h => h) ⟨by rfl, fun w hSw => .inl ?_⟩ (by assumption) ?_
              rotate_left
              · ((try dsimp only at hSw); go_simp; (try with_reducible rfl))
              try simp only [Act.put, List.setIfInBounds_toArray, List.set_cons_zero, List.set_cons_succ]
              refine take_first (i := 18) (oi := { dst := some 107, op := Go.Op.call { callee := Go.Callee.value (Go.Operand.func 27), args := #[Go.Operand.tmp 106, Go.Operand.const (Go.Value.int Go.IntKind.i64 14), Go.Operand.const (Go.Value.int Go.IntKind.i64 1)], argTypes := #[51, 3, 3] }, type := 22, pos := "law.go:217", after := #[{ on := 17, ground := Go.Ground.data }, { on := 16, ground := Go.Ground.chain }, { on := 14, ground := Go.Ground.guard }], guard := some (14, true) }) (v := (.int .u64 (un (rdw dx.by_ 14 1)))) rfl (by kernel_rfl) (by kernel_rfl) (by kernel_rfl) (fun _ _ _ h => h) ⟨by rfl, fun w hSw => .inr ⟨27, #[.pointer (some ⟨gx, 0, none⟩), .int .i64 14, .int .i64 1], ?_, rread1_at gx 14 (un (rdw dx.by_ 14 1)) 14 rfl dx w hSw.2.2.2.2 (by decide) rfl⟩⟩ (by assumption) ?_
              · first | rfl | go_simp | (go_simp; rfl)
              try simp only [Act.put, List.setIfInBounds_toArray, List.set_cons_zero, List.set_cons_succ]
              refine take_first (i := 19) (oi := { dst := some 108, op := Go.Op.binOp Go.BinOp.eql 22 (Go.Operand.tmp 105) (Go.Operand.tmp 107) 22, type := 4, pos := "law.go:217", after := #[{ on := 16, ground := Go.Ground.data }, { on := 18, ground := Go.Ground.data }, { on := 14, ground := Go.Ground.guard }], guard := some (14, true) }) (v := ?_) rfl (by kernel_rfl) (by kernel_rfl) (by kernel_rfl) (fun _ _ _ h => h) ⟨by rfl, fun w hSw => .inl ?_⟩ (by assumption) ?_
              rotate_left
              · ((try dsimp only at hSw); go_simp; (try with_reducible rfl))
              try simp only [Act.put, List.setIfInBounds_toArray, List.set_cons_zero, List.set_cons_succ]
              refine take_first (i := 20) (oi := { dst := some 109, op := Go.Op.pick (Go.Operand.tmp 103) (Go.Operand.tmp 108) (Go.Operand.const (Go.Value.bool false)), type := 4, pos := "law.go:217", after := #[{ on := 14, ground := Go.Ground.data }, { on := 19, ground := Go.Ground.data }], guard := none }) (v := ?_) rfl (by kernel_rfl) (by kernel_rfl) (by kernel_rfl) (fun _ _ _ h => h) ⟨by rfl, fun w hSw => .inl ?_⟩ (by assumption) ?_
              rotate_left
              · ((try dsimp only at hSw); go_simp; (try with_reducible rfl))
              try simp only [Act.put, List.setIfInBounds_toArray, List.set_cons_zero, List.set_cons_succ]
              refine take_first (i := 21) (oi := { dst := some 110, op := Go.Op.move (Go.Operand.tmp 109), type := 4, pos := "law.go:217", after := #[{ on := 20, ground := Go.Ground.data }, { on := 18, ground := Go.Ground.chain }], guard := none }) (v := ?_) rfl (by kernel_rfl) (by kernel_rfl) (by kernel_rfl) (fun _ _ _ h => h) ⟨by rfl, fun w hSw => .inl ?_⟩ (by assumption) ?_
              rotate_left
              · ((try dsimp only at hSw); go_simp; (try with_reducible rfl))
              try simp only [Act.put, List.setIfInBounds_toArray, List.set_cons_zero, List.set_cons_succ]
              refine take_first (i := 22) (oi := { dst := some 111, op := Go.Op.move (Go.Operand.tmp 6), type := 45, pos := "law.go:217", after := #[{ on := 21, ground := Go.Ground.guard }], guard := some (21, true) }) (v := ?_) rfl (by kernel_rfl) (by kernel_rfl) (by kernel_rfl) (fun _ _ _ h => h) ⟨by rfl, fun w hSw => .inl ?_⟩ (by assumption) ?_
              rotate_left
              · ((try dsimp only at hSw); go_simp; (try with_reducible rfl))
              try simp only [Act.put, List.setIfInBounds_toArray, List.set_cons_zero, List.set_cons_succ]
              refine take_first (i := 23) (oi := { dst := some 112, op := Go.Op.call { callee := Go.Callee.value (Go.Operand.func 26), args := #[Go.Operand.tmp 111, Go.Operand.const (Go.Value.int Go.IntKind.i64 61), Go.Operand.const (Go.Value.int Go.IntKind.i64 1)], argTypes := #[45, 3, 3] }, type := 22, pos := "law.go:217", after := #[{ on := 22, ground := Go.Ground.data }, { on := 21, ground := Go.Ground.chain }, { on := 21, ground := Go.Ground.guard }], guard := some (21, true) }) (v := (.int .u64 (IntKind.u64.wrap F.pin))) rfl (by kernel_rfl) (by kernel_rfl) (by kernel_rfl) (fun _ _ _ h => h) ⟨by rfl, fun w hSw => .inr ⟨26, #[.pointer (some ⟨gd, 0, none⟩), .int .i64 61, .int .i64 1], ?_, read_at gd 61 1 (IntKind.u64.wrap F.pin) 61 1 rfl rfl d' w hSw.2.2.2.1 rfl HV2.out⟩⟩ (by assumption) ?_
              · first | rfl | go_simp | (go_simp; rfl)
              try simp only [Act.put, List.setIfInBounds_toArray, List.set_cons_zero, List.set_cons_succ]
              refine take_first (i := 24) (oi := { dst := some 113, op := Go.Op.fieldAddr 44 (Go.Operand.tmp 5) 8, type := 0, pos := "law.go:217", after := #[{ on := 21, ground := Go.Ground.guard }], guard := some (21, true) }) (v := ?_) rfl (by kernel_rfl) (by kernel_rfl) (by kernel_rfl) (fun _ _ _ h => h) ⟨by rfl, fun w hSw => .inl ?_⟩ (by assumption) ?_
              rotate_left
              · ((try dsimp only at hSw); go_simp; (try with_reducible rfl))
              try simp only [Act.put, List.setIfInBounds_toArray, List.set_cons_zero, List.set_cons_succ]
              refine take_first (i := 25) (oi := { dst := some 114, op := Go.Op.load 3 (Go.Operand.tmp 113), type := 3, pos := "law.go:217", after := #[{ on := 24, ground := Go.Ground.data }, { on := 21, ground := Go.Ground.guard }], guard := some (21, true) }) (v := ?_) rfl (by kernel_rfl) (by kernel_rfl) (by kernel_rfl) (fun _ _ _ h => h) ⟨by rfl, fun w hSw => .inl ?_⟩ (by assumption) ?_
              rotate_left
              · ((try dsimp only at hSw); go_simp; (try with_reducible rfl))
              try simp only [Act.put, List.setIfInBounds_toArray, List.set_cons_zero, List.set_cons_succ]
              refine take_first (i := 26) (oi := { dst := some 115, op := Go.Op.convert 3 22 (Go.Operand.tmp 114), type := 22, pos := "law.go:217", after := #[{ on := 25, ground := Go.Ground.data }, { on := 21, ground := Go.Ground.guard }], guard := some (21, true) }) (v := ?_) rfl (by kernel_rfl) (by kernel_rfl) (by kernel_rfl) (fun _ _ _ h => h) ⟨by rfl, fun w hSw => .inl ?_⟩ (by assumption) ?_
              rotate_left
              · ((try dsimp only at hSw); go_simp; (try with_reducible rfl))
              try simp only [Act.put, List.setIfInBounds_toArray, List.set_cons_zero, List.set_cons_succ]
              refine take_first (i := 27) (oi := { dst := some 116, op := Go.Op.binOp Go.BinOp.eql 22 (Go.Operand.tmp 112) (Go.Operand.tmp 115) 22, type := 4, pos := "law.go:217", after := #[{ on := 23, ground := Go.Ground.data }, { on := 26, ground := Go.Ground.data }, { on := 21, ground := Go.Ground.guard }], guard := some (21, true) }) (v := ?_) rfl (by kernel_rfl) (by kernel_rfl) (by kernel_rfl) (fun _ _ _ h => h) ⟨by rfl, fun w hSw => .inl ?_⟩ (by assumption) ?_
              rotate_left
              · ((try dsimp only at hSw); go_simp; (try with_reducible rfl))
              try simp only [Act.put, List.setIfInBounds_toArray, List.set_cons_zero, List.set_cons_succ]
              refine take_first (i := 28) (oi := { dst := some 117, op := Go.Op.pick (Go.Operand.tmp 110) (Go.Operand.tmp 116) (Go.Operand.const (Go.Value.bool false)), type := 4, pos := "law.go:217", after := #[{ on := 21, ground := Go.Ground.data }, { on := 27, ground := Go.Ground.data }], guard := none }) (v := ?_) rfl (by kernel_rfl) (by kernel_rfl) (by kernel_rfl) (fun _ _ _ h => h) ⟨by rfl, fun w hSw => .inl ?_⟩ (by assumption) ?_
              rotate_left
              · ((try dsimp only at hSw); go_simp; (try with_reducible rfl))
              try simp only [Act.put, List.setIfInBounds_toArray, List.set_cons_zero, List.set_cons_succ]
              refine take_first (i := 29) (oi := { dst := some 4, op := Go.Op.assign (Go.Operand.tmp 117), type := 4, pos := "law.go:217", after := #[{ on := 28, ground := Go.Ground.data }, { on := 23, ground := Go.Ground.chain }, { on := 0, ground := Go.Ground.phase }, { on := 1, ground := Go.Ground.phase }, { on := 2, ground := Go.Ground.phase }, { on := 3, ground := Go.Ground.phase }, { on := 4, ground := Go.Ground.phase }, { on := 5, ground := Go.Ground.phase }, { on := 6, ground := Go.Ground.phase }, { on := 7, ground := Go.Ground.phase }, { on := 8, ground := Go.Ground.phase }, { on := 9, ground := Go.Ground.phase }, { on := 10, ground := Go.Ground.phase }, { on := 11, ground := Go.Ground.phase }, { on := 12, ground := Go.Ground.phase }, { on := 13, ground := Go.Ground.phase }, { on := 14, ground := Go.Ground.phase }, { on := 15, ground := Go.Ground.phase }, { on := 16, ground := Go.Ground.phase }, { on := 17, ground := Go.Ground.phase }, { on := 18, ground := Go.Ground.phase }, { on := 19, ground := Go.Ground.phase }, { on := 20, ground := Go.Ground.phase }, { on := 21, ground := Go.Ground.phase }, { on := 22, ground := Go.Ground.phase }, { on := 23, ground := Go.Ground.phase }, { on := 24, ground := Go.Ground.phase }, { on := 25, ground := Go.Ground.phase }, { on := 26, ground := Go.Ground.phase }, { on := 27, ground := Go.Ground.phase }, { on := 28, ground := Go.Ground.phase }], guard := none }) (v := ?_) rfl (by kernel_rfl) (by kernel_rfl) (by kernel_rfl) (fun _ _ _ h => h) ⟨by rfl, fun w hSw => .inl ?_⟩ (by assumption) ?_
              rotate_left
              · ((try dsimp only at hSw); go_simp; (try with_reducible rfl))
              try simp only [Act.put, List.setIfInBounds_toArray, List.set_cons_zero, List.set_cons_succ]
              refine wpAnyH_done (by kernel_rfl) ?_ _
              go_wp2
              go_ret
              exact ⟨rfl, HRO.out.k.drew⟩
end Go.Proofs.Ytolbecinjajejaa
