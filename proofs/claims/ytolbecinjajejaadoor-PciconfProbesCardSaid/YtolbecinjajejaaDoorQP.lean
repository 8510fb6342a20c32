/- The law PciconfProbes: the walk. -/
import Derived.Test.YtolbecinjajejaaDoorQ8
import Derived.Test.YtolbecinjajejaaDoorD7
import Derived.Test.YtolbecinjajejaaDoorA0
import Derived.Deep.DeepCutAuto
import Derived.Deep.QuietTactic
import Derived.BigQuiet
set_option linter.unusedVariables false
set_option linter.unusedSimpArgs false
namespace Go.Proofs.YtolbecinjajejaaDoor
open Go.RowKit Go.My

/-- The law's state: the function's variable in block a, the device in block g. -/
structure QSt (w : World) (a g : Nat) (F : Fh) (V : Value) (bs : List Br) (d : Dv) (wr : World) : Prop where
  k : Keep Non w wr
  b : Blk wr a (fhL F V) 50
  r : RowE encB 2 (fun q => q < a) wr V bs
  hd : IsD 85 wr g d
  ht : Tab wr
  ne : w.heap.size ≤ a ∧ a < g ∧ 0 < w.heap.size
section
variable {w : World} {a g : Nat} {F : Fh} {V : Value} {bs : List Br} {d d' : Dv} {wr w1 : World}
theorem QSt.keep (h : QSt w a g F V bs d wr) (k : Keep Non wr w1) : QSt w a g F V bs d w1 :=
  ⟨h.k.tr k, h.b.keep k (fun h => h), h.r.keepN k, h.hd.keep k (fun h => h), h.ht.keep k (fun h => h), h.ne⟩
theorem QSt.write (h : QSt w a g F V bs d wr) (k : Keep (My.One g) wr w1) (hd : IsD 85 w1 g d') : QSt w a g F V bs d' w1 := by
  have hn := h.ne
  exact ⟨h.k.trans k (fun q hq e => by simp only [My.One] at e; omega), h.b.keep k (fun e => by simp only [My.One] at e; omega), h.r.keep k (fun q hq _ e => by simp only [My.One] at e; omega), hd, h.ht.keep k (fun e => by simp only [My.One] at e; omega), hn⟩
/-- A store into a block behind the device's. -/
theorem QSt.far (h : QSt w a g F V bs d wr) {q : Nat} (hq : g < q) (i : Nat) (u : Value) : QSt w a g F V bs d (wr.setCell ⟨q, i, none⟩ u) := by
  have hn := h.ne
  have k : Keep (My.One q) wr (wr.setCell ⟨q, i, none⟩ u) := (Keep.refl _ _).setOne _ _
  exact ⟨h.k.trans k (fun p hp e => by simp only [My.One] at e; omega), h.b.keep k (fun e => by simp only [My.One] at e; omega), h.r.keep k (fun p hp _ e => by simp only [My.One] at e; omega), h.hd.keep k (fun e => by simp only [My.One] at e; omega), h.ht.keep k (fun e => by simp only [My.One] at e; omega), hn⟩
end
/-- What was read: the first n registers. -/
def WasB (w : World) (q n : Nat) (d : Dv) : Prop := ∃ cs : Array Value, Blk w q cs 62 ∧ cs.size = 64 ∧ ∀ j, j < n → cs[j]? = some (.int .u64 (un (rdw d.by_ (4 * j) 4)))
section
variable {w w1 : World} {q n : Nat} {d : Dv}
theorem WasB.free (p : WasB w q n d) (i : Nat) : w.frozen? ⟨q, i, none⟩ = false := by obtain ⟨cs, hb, _⟩ := p; exact hb.free i
theorem WasB.lt (p : WasB w q n d) : q < w.heap.size := by obtain ⟨cs, hb, _⟩ := p; exact hb.lt
theorem WasB.keep {S : Nat → Prop} (p : WasB w q n d) (k : Keep S w w1) (hn : ¬ S q) : WasB w1 q n d := by
  obtain ⟨cs, hb, p⟩ := p; exact ⟨cs, hb.keep k hn, p⟩
theorem WasB.get (p : WasB w q n d) {j : Nat} (hj : j < n) : w.cell? ⟨q, j, none⟩ = some (.int .u64 (un (rdw d.by_ (4 * j) 4))) := by
  obtain ⟨cs, hb, _, p⟩ := p; rw [hb.cell]; exact p j hj
theorem WasB.has (p : WasB w q n d) {j : Nat} (hj : j < 64) : ∃ u, w.cell? ⟨q, j, none⟩ = some u := by
  obtain ⟨cs, hb, hs, p⟩ := p; rw [hb.cell]; exact ⟨cs[j], Array.getElem?_eq_getElem (by omega)⟩
theorem WasB.put (p : WasB w q n d) (hn : n < 64) : WasB (w.setCell ⟨q, n, none⟩ (.int .u64 (un (rdw d.by_ (4 * n) 4)))) q (n + 1) d := by
  obtain ⟨cs, hb, hs, p⟩ := p
  refine ⟨_, hb.set _ _, by simpa using hs, fun j hj => ?_⟩
  rw [Array.getElem?_setIfInBounds]
  by_cases e : n = j
  · subst e; rw [if_pos rfl, if_pos (by omega)]
  · rw [if_neg e]; exact p j (by omega)
end
theorem zero62 : (Tryd.prog.info? 62).map (fun i => i.zero) = some (some (.agg (Array.replicate 64 (.int .u64 0)))) := by kernel_rfl
theorem run_zero62 (w : World) : Sem.run Tryd.prog (zeroValue 62) w = .ok (.agg (Array.replicate 64 (.int .u64 0))) w := by
  have := zero62
  cases hi : Tryd.prog.info? 62 with
  | none => rw [hi] at this; cases this
  | some i => rw [hi] at this; simp at this; simp [zeroValue, typeInfo, hi, this]

set_option maxHeartbeats 16000000 in
set_option maxRecDepth 100000 in
theorem probesLaw (f : Fh) (v : Value) (bs : List Br) (lv : Value) (xs : List OpP) (w : World) (h : Bars (fun _ => True) w v bs) (hx : RowE encO 5 (fun _ => True) w lv xs) (ht : Tab w) :
    Calls Tryd.prog 8 #[.agg (fhL f v), lv] w fun e w' => e = .returned (.bool true) ∧ Keep Non w w' := by
  have HF := Lib.hid (show RowE encB 2 (fun _ => True) w v bs from h)
  have HT := Lib.hid ht
  have h0w : 0 < w.heap.size := ht.1
  have hxx := hx
  obtain ⟨A, c, rfl, hl, hm, h0⟩ := hx
  have HX : Hid (RowE encO 5 (fun _ => True) w (.slice A xs.length c) xs) := hxx
  clear h h0 hxx ht
  unfold maxLen at hm
  have HK0 : Hid (Keep Non w (w.alloc (.cells (fhL f v) 50))) := (Keep.refl _ _).alloc _
  unfold fhL at HK0 ⊢
  go_enter Tryd.func8, Tryd.ntmps8
  go_wp2_with fail
  refine (some_any f v bs _ _ (HF.out.keepN HK0.out)).mono ?_
  rintro e z ⟨F, V, bs1, he, hk0, hr⟩
  obtain ⟨A1, n1, c1, rfl⟩ : ∃ A1 n1 c1, V = .slice A1 n1 c1 := by obtain ⟨A1, c1, h, _⟩ := hr; exact ⟨A1, _, c1, h⟩
  unfold fhL at he
  subst he
  have HS : Hid (Keep Non w (z.alloc (.cells #[.int .i64 F.parent, .int .i64 F.slot, .int .i64 F.vendor, .int .i64 F.device, .bool F.bridge, .bool F.pref, .bool F.hot, .int .i64 F.spare, .int .i64 F.pin, .int .i64 F.vectors, .slice A1 n1 c1] 50)) ∧ Blk (z.alloc (.cells #[.int .i64 F.parent, .int .i64 F.slot, .int .i64 F.vendor, .int .i64 F.device, .bool F.bridge, .bool F.pref, .bool F.hot, .int .i64 F.spare, .int .i64 F.pin, .int .i64 F.vectors, .slice A1 n1 c1] 50)) z.heap.size (fhL F (.slice A1 n1 c1)) 50 ∧ RowE encB 2 (fun q => q < z.heap.size) (z.alloc (.cells #[.int .i64 F.parent, .int .i64 F.slot, .int .i64 F.vendor, .int .i64 F.device, .bool F.bridge, .bool F.pref, .bool F.hot, .int .i64 F.spare, .int .i64 F.pin, .int .i64 F.vectors, .slice A1 n1 c1] 50)) (.slice A1 n1 c1) bs1) :=
    ⟨(HK0.out.tr hk0).alloc _, Blk.new _ _ _, (hr.mono (fun _ h _ => h)).keepN ((Keep.refl _ _).alloc _)⟩
  have hza : w.heap.size ≤ z.heap.size := (HK0.out.tr hk0).size
  clear hk0 hr HF HK0
  go_wp2_with fail
  refine (awake18 _).mono ?_
  rintro e z1 ⟨rfl, hk0⟩
  replace HS := Lib.hid (And.intro (HS.out.1.tr hk0) (And.intro (HS.out.2.1.keep hk0 (fun h => h)) (HS.out.2.2.keepN hk0)))
  clear hk0
  generalize z.heap.size = a at *
  obtain ⟨e0, e1, e2, e3, e4, e5, e6, e7, e8, e9, e10⟩ := f_cells HS.out.2.1
  go_wp2_with fail
  refine (validFunction_any F _ bs1 _ _ HS.out.2.2).mono ?_
  rintro e z2 ⟨rfl, hk0⟩
  replace HS := Lib.hid (And.intro (HS.out.1.tr hk0) (And.intro (HS.out.2.1.keep hk0 (fun h => h)) (HS.out.2.2.keepN hk0)))
  clear hk0 e0 e1 e2 e3 e4 e5 e6 e7 e8 e9 e10
  cases hv : vFn F bs1
  · go_wp2_with fail
    refine (awake18 _).mono ?_
    rintro e z3 ⟨rfl, hk0⟩
    replace HS := Lib.hid (HS.out.1.tr hk0)
    clear hk0 hv
    go_wp2
    go_ret
    exact ⟨rfl, HS.out⟩
  · have HV := Lib.hid hv
    clear hv
    obtain ⟨e0, e1, e2, e3, e4, e5, e6, e7, e8, e9, e10⟩ := f_cells HS.out.2.1
    go_wp2_with fail
    refine (new_ok F _ bs1 _ _ HS.out.2.2 HV.out).mono ?_
    rintro e z3 ⟨g, v1, rfl, hgd, hk0, _, hd0⟩
    have hga : a < g := by have := HS.out.2.1.lt; omega
    have HQ : Hid (QSt w a g F (.slice A1 n1 c1) bs1 (cfgP F v1 bs1) z3) := ⟨HS.out.1.tr hk0, HS.out.2.1.keep hk0 (fun h => h), HS.out.2.2.keepN hk0, hd0, HT.out.keep (HS.out.1.tr hk0) (fun h => h), hza, hga, h0w⟩
    have HST0 := Lib.hid (Stays.refl (cfgP F v1 bs1))
    clear hk0 hd0 e0 e1 e2 e3 e4 e5 e6 e7 e8 e9 e10 hgd HS
    go_wp2_with fail
    go_loopw [8] (fun i wr => ∃ (k : Nat) (d' : Dv), i = .int .i64 k ∧ k ≤ xs.length ∧ Hid (Stays (cfgP F v1 bs1) d') ∧ Hid (QSt w a g F (.slice A1 n1 c1) bs1 d' wr)) (fun i _ => xs.length - (intOf i).toNat)
    case atStart => exact ⟨0, _, rfl, Nat.zero_le _, HST0.out, HQ.out⟩
    case round =>
      clear HQ HST0
      obtain ⟨k, d', rfl, hk, HST, HQ⟩ := hrel
      go_upto_region 8 with fail
      go_cut [45] (fun s wx => s = .bool (decide (k < xs.length) && decide (k < 20)) ∧ wx = wr)
      case first =>
        by_cases hlt : k < xs.length
        · go_wp2_with fail
          go_meet
          exact ⟨by simp [hlt]; try omega, rfl⟩
        · go_wp2_with fail
          go_meet
          exact ⟨by simp [hlt]; try omega, rfl⟩
      case rest =>
        obtain ⟨rfl, rfl⟩ := hcut
        by_cases hgo : k < xs.length ∧ k < 20
        · have hd : (decide (k < xs.length) && decide (k < 20)) = true := by simp [hgo]
          rw [hd]
          clear hd
          obtain ⟨hlt, h40⟩ := hgo
          obtain ⟨b, off, rfl, q0, q1, q2, q3, q4⟩ := ops_get HX.out hlt
          generalize at1 _ xs k = x at *
          have p0 := HQ.out.k.cell' q0 (fun h => h)
          have p1 := HQ.out.k.cell' q1 (fun h => h)
          have p2 := HQ.out.k.cell' q2 (fun h => h)
          have p3 := HQ.out.k.cell' q3 (fun h => h)
          have p4 := HQ.out.k.cell' q4 (fun h => h)
          go_wp2_with fail
          refine (access_any x _).mono ?_
          rintro e z6 ⟨at_, wd, rfl, hk0⟩
          replace HQ := Lib.hid (HQ.out.keep hk0)
          clear hk0 p0 p1 p2 p3 p4
          have p3 := HQ.out.k.cell' q3 (fun h => h)
          clear q0 q1 q2 q3 q4
          go_wp2_with fail
          refine (write_any g at_ wd x.val d' _ HQ.out.hd).mono ?_
          rintro e z7 ⟨rfl, hk0, d2, hs2, hd2⟩
          have HQ1 := Lib.hid (HQ.out.write hk0 hd2)
          have HST1 := Lib.hid (HST.out.trans hs2)
          clear hk0 hd2 hs2 p3 HQ HST
          go_wp2
          exact ⟨⟨k + 1, d2, by go_num, by omega, HST1.out, HQ1.out⟩, by simp [intOf]; omega⟩
        · have hd : (decide (k < xs.length) && decide (k < 20)) = false := by simpa using fun h1 => Nat.le_of_not_lt (fun h2 => hgo ⟨h1, h2⟩)
          rw [hd]
          clear hd hgo
          have hzr := run_zero62 wc
          go_wp2_with fail
          clear hzr
          have HQ1 : Hid (QSt w a g F (.slice A1 n1 c1) bs1 d' (wc.alloc (.cells (Array.replicate 64 (.int .u64 0)) 62))) := HQ.out.keep ((Keep.refl _ _).alloc _)
          have HW1 : Hid (WasB (wc.alloc (.cells (Array.replicate 64 (.int .u64 0)) 62)) wc.heap.size 0 d') := ⟨_, Blk.new _ _ _, by simp, fun j hj => by omega⟩
          have hgq : g < wc.heap.size := HQ.out.hd.lt
          clear HQ
          generalize wc.heap.size = q at *
          go_loopw [12] (fun i wr => ∃ k : Nat, i = .int .i64 k ∧ k ≤ 64 ∧ Hid (QSt w a g F (.slice A1 n1 c1) bs1 d' wr) ∧ Hid (WasB wr q k d')) (fun i _ => 64 - (intOf i).toNat)
          case atStart => exact ⟨0, rfl, Nat.zero_le _, HQ1.out, HW1.out⟩
          case round =>
            clear HQ1 HW1
            obtain ⟨j, rfl, hj, HQ, HW⟩ := hrel
            by_cases hlt : j < 64
            · go_wp2_with fail
              refine (read_at g _ _ (un (rdw d'.by_ (4 * j) 4)) (4 * j) 4 (by omega) rfl d' _ HQ.out.hd (by simp [wfm]; omega) rfl).mono ?_
              rintro e w' ⟨rfl, rfl⟩
              obtain ⟨u, hu⟩ := HW.out.has hlt
              have hf := HW.out.free j
              have HQ2 := Lib.hid (HQ.out.far hgq j (.int .u64 (un (rdw d'.by_ (4 * j) 4))))
              have HW2 := Lib.hid (HW.out.put hlt)
              go_wp2
              exact ⟨⟨j + 1, by go_num, by omega, HQ2.out, HW2.out⟩, by simp [intOf]; omega⟩
            · obtain rfl : j = 64 := by omega
              go_wp2_with fail
              refine (probe_any g F v1 bs1 d' _ HQ.out.hd HV.out HST.out HQ.out.ht (by have := HQ.out.ne; omega)).mono ?_
              rintro e z4 ⟨b, rfl, hk0, hd0, hb0, hp0⟩
              have hbq : q < b := by have := HW.out.lt; omega
              replace HW := Lib.hid (HW.out.keep hk0 (fun e => by simp only [My.One] at e; omega))
              replace HQ := Lib.hid (HQ.out.write hk0 hd0)
              have HP := Lib.hid hp0
              clear hk0 hd0 hb0 hp0
              obtain ⟨n, hn, hn6⟩ : ∃ n : Nat, cntB F.bridge = n ∧ (n = 2 ∨ n = 6) := by
                unfold cntB
                cases F.bridge
                · exact ⟨6, rfl, .inr rfl⟩
                · exact ⟨2, rfl, .inl rfl⟩
              rw [hn] at HP ⊢
              simp only [Int.toNat_natCast] at HP ⊢
              have HN := Lib.hid hn
              clear hn
              go_wp2_with fail
              go_loopw [14] (fun i wr => ∃ k : Nat, i = .int .i64 k ∧ k ≤ 64 ∧ Hid (QSt w a g F (.slice A1 n1 c1) bs1 d' wr) ∧ Hid (WasB wr q 64 d') ∧ Hid (PrB wr b n (prH bs1 n))) (fun i _ => 64 - (intOf i).toNat)
              case atStart => exact ⟨0, rfl, Nat.zero_le _, HQ.out, HW.out, HP.out⟩
              case round =>
                clear HQ HW HP
                obtain ⟨j, rfl, hj, HQ, HW, HP⟩ := hrel
                by_cases hlt : j < 64
                · have q0 := HW.out.get hlt
                  go_upto_region 21 with fail
                  go_cut [88] (fun s wx => s = .bool false ∧ Hid (QSt w a g F (.slice A1 n1 c1) bs1 d' wx) ∧ Hid (WasB wx q 64 d') ∧ Hid (PrB wx b n (prH bs1 n)))
                  case first =>
                    have hm4 : IntKind.i64.wrap (4 * (j : Int)) = ((4 * j : Nat) : Int) := by rw [IntWalk.i64_in _ (by omega)]; omega
                    go_quiet ((go_at_call 31; exact Calls.quiet_of_same ((read_at g _ _ (un (rdw d'.by_ (4 * j) 4)) (4 * j) 4 rfl rfl d' _ (HQ.out.hd.drewN _) (by simp [wfm]; omega) rfl).mono (fun _ _ h => ⟨h.1, h.2.symm⟩))))
                    all_goals
                      clear hm4
                      go_wp2_with fail
                      go_meet
                      exact ⟨by simp, HQ.out.keep ((Keep.refl _ _).drewN _), HW.out.keep ((Keep.refl Non _).drewN _) (fun h => h), HP.out.keep ((Keep.refl Non _).drewN _) (fun h => h)⟩
                  case rest =>
                    clear q0 HQ HW HP
                    obtain ⟨rfl, HQ, HW, HP⟩ := hcut
                    go_wp2
                    exact ⟨⟨j + 1, by go_num, by omega, HQ.out, HW.out, HP.out⟩, by simp [intOf]; omega⟩
                · obtain rfl : j = 64 := by omega
                  clear HW HT
                  obtain ⟨e0, e1, e2, e3, e4, e5, e6, e7, e8, e9, e10⟩ := f_cells HQ.out.b
                  go_wp2_with fail
                  refine (registers_any F _ _).mono ?_
                  rintro e z5 ⟨rfl, hk0⟩
                  rw [HN.out]
                  replace HQ := Lib.hid (HQ.out.keep hk0)
                  replace HP := Lib.hid (HP.out.keep hk0 (fun h => h))
                  clear hk0 e0 e1 e2 e3 e4 e5 e6 e7 e8 e9 e10
                  obtain rfl : n1 = bs1.length := bars_n HQ.out.r
                  go_wp2_with fail
                  go_loopw [15] (fun i wr => ∃ k : Nat, i = .int .i64 k ∧ k ≤ n ∧ Hid (QSt w a g F (.slice A1 bs1.length c1) bs1 d' wr) ∧ Hid (PrB wr b n (prH bs1 n))) (fun i _ => n - (intOf i).toNat)
                  case atStart => exact ⟨0, rfl, Nat.zero_le _, HQ.out, HP.out⟩
                  case round =>
                    clear HQ HP
                    obtain ⟨j, rfl, hj, HQ, HP⟩ := hrel
                    by_cases hlt : j < n
                    · have e10 := (f_cells HQ.out.b).2.2.2.2.2.2.2.2.2.2
                      obtain ⟨q0, q1⟩ := HP.out.cells hlt
                      rw [show prH bs1 n j = at1 ⟨0, 0⟩ bs1 j by unfold prH; rw [if_pos hlt]] at q0 q1
                      by_cases hb : j < bs1.length
                      · obtain ⟨b1, o1, rfl, _, r0, r1⟩ := bars_get HQ.out.r hb
                        generalize at1 (⟨0, 0⟩ : Br) bs1 j = y at *
                        have hbw := HP.out.lt
                        have KA : Keep Non wr (wr.alloc (.cells #[.int .i64 0, .int .i64 0] 67)) := (Keep.refl _ _).alloc _
                        have e10' := KA.cell' e10 (fun h => h)
                        have r0' := KA.cell' r0 (fun h => h)
                        have r1' := KA.cell' r1 (fun h => h)
                        have KB : Keep Non wr (wr.alloc (.cells #[.int .i64 y.k, .int .i64 y.s] 67)) := (Keep.refl _ _).alloc _
                        have q0' := KB.cell' q0 (fun h => h)
                        have q1' := KB.cell' q1 (fun h => h)
                        have HQ1 := Lib.hid (HQ.out.keep KB)
                        have HP1 := Lib.hid (HP.out.keep KB (fun h => h))
                        clear KA KB e10 r0 r1 q0 q1
                        go_upto_region 31 with fail
                        go_cut [116] (fun s wx => s = .bool false ∧ Hid (QSt w a g F (.slice (some ⟨b1, o1, none⟩) bs1.length c1) bs1 d' wx) ∧ Hid (PrB wx b n (prH bs1 n)))
                        case first =>
                          go_quiet (fail)
                          all_goals
                            go_wp2_with fail
                            go_meet
                            exact ⟨by simp, HQ1.out.keep ((Keep.refl _ _).drewN _), HP1.out.keep ((Keep.refl Non _).drewN _) (fun h => h)⟩
                        case rest =>
                          clear q0' q1' HQ HP HQ1 HP1
                          obtain ⟨rfl, HQ, HP⟩ := hcut
                          go_wp2
                          exact ⟨⟨j + 1, by go_num, by omega, HQ.out, HP.out⟩, by simp [intOf]; omega⟩
                      · rw [at1_far _ _ _ (by omega)] at q0 q1
                        have KA : Keep Non wr (wr.alloc (.cells #[.int .i64 0, .int .i64 0] 67)) := (Keep.refl _ _).alloc _
                        have e10' := KA.cell' e10 (fun h => h)
                        have q0' := KA.cell' q0 (fun h => h)
                        have q1' := KA.cell' q1 (fun h => h)
                        have HQ1 := Lib.hid (HQ.out.keep KA)
                        have HP1 := Lib.hid (HP.out.keep KA (fun h => h))
                        clear KA e10 q0 q1
                        go_upto_region 31 with fail
                        go_cut [116] (fun s wx => s = .bool false ∧ Hid (QSt w a g F (.slice A1 bs1.length c1) bs1 d' wx) ∧ Hid (PrB wx b n (prH bs1 n)))
                        case first =>
                          go_quiet (fail)
                          all_goals
                            go_wp2_with fail
                            go_meet
                            exact ⟨by simp, HQ1.out.keep ((Keep.refl _ _).drewN _), HP1.out.keep ((Keep.refl Non _).drewN _) (fun h => h)⟩
                        case rest =>
                          clear q0' q1' HQ HP HQ1 HP1
                          obtain ⟨rfl, HQ, HP⟩ := hcut
                          go_wp2
                          exact ⟨⟨j + 1, by go_num, by omega, HQ.out, HP.out⟩, by simp [intOf]; omega⟩

                    · obtain rfl : j = n := by omega
                      go_wp2
                      go_ret
                      exact ⟨rfl, HQ.out.k⟩
end Go.Proofs.YtolbecinjajejaaDoor
