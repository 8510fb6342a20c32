/- The law 'HotplugSlotMatchesModel': the walk. -/
import Derived.Test.YtolbecinjajejaaS5
namespace Go.Proofs.Ytolbecinjajejaa
open Go.RowKit Go.My
set_option linter.unusedVariables false
set_option linter.unusedSimpArgs false

theorem hnd_both (st d gd gd' ev now : Int) (h1 : 1 ≤ st) (h2 : st ≤ 6) (hg : st = 3 → gd = gd') :
    ∃ a err st1 g1 g2, hnd st d gd ev now = (a, err, st1, g1) ∧ hnd st d gd' ev now = (a, err, st1, g2) ∧ 1 ≤ st1 ∧ st1 ≤ 6 ∧ (st1 = 3 → g1 = g2) ∧ a.length ≤ 2 := by
  unfold hnd
  repeat' split
  all_goals exact ⟨_, _, _, _, _, rfl, rfl, by omega, by omega, by omega, by simp⟩

theorem adv_both (st gd gd' now : Int) (h1 : 1 ≤ st) (h2 : st ≤ 6) (hg : st = 3 → gd = gd') :
    ∃ a st1, adv st gd now = (a, st1) ∧ adv st gd' now = (a, st1) ∧ 1 ≤ st1 ∧ st1 ≤ 6 ∧ (st1 = 3 → gd = gd') ∧ a.length ≤ 2 := by
  unfold adv
  by_cases h : st = 3
  · have := hg h
    subst this
    by_cases hn : gd ≤ now
    · exact ⟨[3], 4, by simp [h, hn], by simp [h, hn], by omega, by omega, fun _ => rfl, by simp⟩
    · exact ⟨[], 3, by simp [h, hn], by simp [h, hn], by omega, by omega, fun _ => rfl, by simp⟩
  · exact ⟨[], st, by simp [h], by simp [h], h1, h2, fun e => absurd e h, by simp⟩

/-- The relation of the law's loop. -/
structure Rel (w : World) (n : Nat) (d : Int) (g1 g2 : Nat) (k : Nat) (nw st gd gd' : Int) (wr : World) : Prop where
  hk : k ≤ n
  hk90 : k ≤ 90
  n0 : 0 ≤ nw
  n1 : nw ≤ 5 * k
  s1 : 1 ≤ st
  s6 : st ≤ 6
  hg : st = 3 → gd = gd'
  b1 : Blk wr g1 #[.int .i64 st, .int .u64 d, .int .u64 gd] 71
  b2 : Blk wr g2 #[.int .i64 st, .int .u64 d, .int .u64 gd'] 39
  keep : Keep Non w wr
  lo1 : w.heap.size ≤ g1
  lo2 : w.heap.size ≤ g2

theorem Rel.ne {w : World} {n : Nat} {d : Int} {g1 g2 k : Nat} {nw st gd gd' : Int} {wr : World} (h : Rel w n d g1 g2 k nw st gd gd' wr) : g1 ≠ g2 := h.b1.ne h.b2 (by decide)

/-- Behind Handle of both. -/
theorem Rel.step {w : World} {n : Nat} {d : Int} {g1 g2 k : Nat} {nw st gd gd' nw' st' e e' : Int} {wr w1 w2 w3 : World} (h : Rel w n d g1 g2 k nw st gd gd' wr) (hk : k < n) (hk' : k < 90) (hn : 0 ≤ nw') (hn' : nw' ≤ 5 * (k + 1 : Nat))
    (h1 : 1 ≤ st') (h6 : st' ≤ 6) (hg : st' = 3 → e = e')
    (b1 : Blk w1 g1 #[.int .i64 st', .int .u64 d, .int .u64 e] 71) (k1 : Keep (My.One g1) wr w1)
    (b2 : Blk w2 g2 #[.int .i64 st', .int .u64 d, .int .u64 e'] 39) (k2 : Keep (My.One g2) w1 w2) (k3 : Keep Non w2 w3) : Rel w n d g1 g2 (k + 1) nw' st' e e' w3 :=
  ⟨by omega, by omega, hn, hn', h1, h6, hg, (b1.keep k2 (fun e => h.ne e)).keep k3 (fun h => h), b2.keep k3 (fun h => h),
    (((h.keep.trans k1 (fun k hk e => by have := h.lo1; simp only [My.One] at e; omega)).trans k2 (fun k hk e => by have := h.lo2; simp only [My.One] at e; omega)).tr k3), h.lo1, h.lo2⟩

theorem Rel.drewN {w : World} {n : Nat} {d : Int} {g1 g2 k : Nat} {nw st gd gd' : Int} {wr : World} (h : Rel w n d g1 g2 k nw st gd gd' wr) (m : Nat) : Rel w n d g1 g2 k nw st gd gd' (wr.drewN m) :=
  ⟨h.hk, h.hk90, h.n0, h.n1, h.s1, h.s6, h.hg, h.b1, h.b2, h.keep.drewN m, h.lo1, h.lo2⟩
theorem u64_mod5 (x : Int) (h : 0 ≤ x) : x.tmod 5 = x % 5 := Int.tmod_eq_emod_of_nonneg h

set_option maxHeartbeats 8000000 in
set_option maxRecDepth 100000 in
theorem slotLaw {O O' : Nat → Prop} (p : Bool) (d : Int) (ve vp : Value) (es ps : List Int) (w : World) (hd0 : 0 ≤ d) (hd1 : d < 18446744073709551616)
    (he : Ints O .i64 w ve es) (hp : Ints O' .u64 w vp ps) (hel : es.length ≤ 9223372036854775807) (hpl : ps.length ≤ 9223372036854775807)
    (hpr : ∀ k, 0 ≤ rd ps k) :
    Calls Try.prog 3 #[.bool p, .int .u64 d, ve, vp] w fun e w' => e = .returned (.bool true) ∧ Keep Non w w' := by
  obtain ⟨A, c, rfl, hl, he⟩ := he
  obtain ⟨A', c', rfl, hl', hp⟩ := hp
  have HE := Lib.hid he
  have HP := Lib.hid hp
  have HR := Lib.hid hpr
  clear he hp hpr
  by_cases hd : 4294967296 < d
  have q0 : 0 ≤ d % 6 := by omega
  have q1 : ¬ 4294967296 < d % 6 := by omega
  go_enter Try.func3, Try.ntmps3
  go_wp2_with fail
  refine (newSlot_bad p d _ hd).mono ?_
  rintro e w' ⟨rfl, rfl⟩
  go_wp2_with fail
  generalize d % 6 = d' at *
  rotate_left 1
  obtain ⟨d', hd', q0, q1⟩ : ∃ d', d' = d ∧ 0 ≤ d' ∧ ¬ 4294967296 < d' := ⟨d, rfl, hd0, by omega⟩
  go_enter Try.func3, Try.ntmps3
  go_wp2_with fail
  rw [← hd']
  clear hd'
  all_goals
    refine (newSlot_ok p d' _ (by omega)).mono ?_
    rintro e w1 ⟨g1, hg1, rfl, hb1, hk1⟩
    have HB1 := Lib.hid hb1
    have HK1 := Lib.hid hk1
    clear hb1 hk1
    go_wp2_with fail
    refine (refNewSlot p d' _).mono ?_
    rintro e w2 ⟨g2, hg2, rfl, hb2, hk2⟩
    have HB2 := Lib.hid hb2
    have HK2 := Lib.hid hk2
    clear hb2 hk2
    go_wp2_with fail
    refine (awake23 _).mono ?_
    rintro e w3 ⟨rfl, hk3⟩
    have HK3 := Lib.hid hk3
    clear hk3
    go_wp2_with fail
    go_loopw [14, 15] (fun nw i wr => ∃ (k : Nat) (n st gd gd' : Int), nw = .int .u64 n ∧ i = .int .i64 k ∧ Hid (Rel w es.length d' g1 g2 k n st gd gd' wr)) (fun _ i _ => es.length - (intOf i).toNat)
    case atStart =>
      refine ⟨0, 0, if p then 2 else 1, 0, 0, rfl, rfl, ⟨Nat.zero_le _, by omega, by omega, by omega, by split <;> omega, by split <;> omega, fun _ => rfl, ?_, ?_, ?_, hg1, ?_⟩⟩
      · exact (HB1.out.keep HK2.out (fun h => h)).keep HK3.out (fun h => h)
      · exact HB2.out.keep HK3.out (fun h => h)
      · exact (HK1.out.tr HK2.out).tr HK3.out
      · have := HK1.out.size; omega
    case round =>
      obtain ⟨k, n, st, gd, gd', rfl, rfl, HREL⟩ := hrel
      have n0 := HREL.out.n0
      have n1 := HREL.out.n1
      have k90 := HREL.out.hk90
      by_cases hlt : k < es.length
      · by_cases h90 : k < 90
        · obtain ⟨b, off, rfl, hc0⟩ := ints_at HE.out hlt
          have hc := HREL.out.keep.cell' hc0 (fun h => h)
          clear hc0
          by_cases hpk : k < ps.length
          · obtain ⟨b', off', rfl, hc1⟩ := ints_at HP.out hpk
            have hcp := HREL.out.keep.cell' hc1 (fun h => h)
            have HRP := HR.out k
            clear hc1
            go_wp2_with (go_at_call 11; refine (mod_any _ _ _ (by omega) (by omega)).mono ?_; rintro e w' ⟨rfl, rfl⟩)
            all_goals
              have hb0 : 0 ≤ n + rd ps k % 5 := by omega
              have hb1 : n + rd ps k % 5 ≤ 5 * (k + 1 : Nat) := by omega
              generalize n + rd ps k % 5 = nw at *
              clear HRP
              have HNW : Hid (0 ≤ nw ∧ nw ≤ 5 * (k + 1 : Nat)) := ⟨hb0, hb1⟩
              have HNE := HREL.out.ne
              first
                | (with_reducible refine (implAdvance g1 st d' gd nw wr HREL.out.b1).mono ?_)
                  obtain ⟨a, st1, e1, e2, s1', s6', hg', ha⟩ := adv_both st gd gd' nw HREL.out.s1 HREL.out.s6 HREL.out.hg
                  rw [e1]
                  rintro e u1 ⟨v1, rfl, hv1, hb1', hk1'⟩
                  have HV1 := Lib.hid hv1
                  have HBU := Lib.hid hb1'
                  have HKU := Lib.hid hk1'
                  have HG := Lib.hid hg'
                  have E2 := Lib.hid e2
                  clear hv1 hb1' hk1' hg' e1 e2
                  go_wp2_with fail
                  refine (refAdvance g2 st d' gd' nw u1 (HREL.out.b2.keep HKU.out (fun e => HNE e.symm))).mono ?_
                  rw [E2.out]
                  rintro e u2 ⟨v2, rfl, hv2, hb2', hk2'⟩
                  have HV2 := Lib.hid hv2
                  have HBU2 := Lib.hid hb2'
                  have HKU2 := Lib.hid hk2'
                  clear hv2 hb2' hk2'
                  go_wp2_with fail
                  have l2 := HREL.out.b2.lt
                  refine (equal_any v1 v2 a a _ (HV1.out.keep HKU2.out (fun q h _ e => by simp only [My.One] at e; omega)) HV2.out (by omega)).mono ?_
                  rintro e u3 ⟨rfl, hk3'⟩
                  have HKU3 := Lib.hid hk3'
                  have HSTEP := Lib.hid (HREL.out.step hlt h90 HNW.out.1 HNW.out.2 s1' s6' HG.out HBU.out HKU.out HBU2.out HKU2.out HKU3.out)
                  clear hk3'
                  go_wp2_with fail
                  have c39 := HSTEP.out.b2.cell 0
                  simp at c39
                  go_quiet ((go_at_call 17; exact Calls.quiet_of_same (slotState g1 st1 d' _ _ (by repeat (first | exact HSTEP.out.b1 | apply Blk.drewN | apply Blk.drew)))))
                  go_wp2
                  exact ⟨⟨k + 1, nw, st1, _, _, rfl, by go_num, HSTEP.out.drewN _⟩, by simp [intOf]; omega⟩
                | (with_reducible refine (implHandle g1 st d' gd (rd es k) nw wr HREL.out.b1 HREL.out.s1 HREL.out.s6 HNW.out.1 q0 (by omega)).mono ?_)
                  obtain ⟨a, er, st1, ga, gb, e1, e2, s1', s6', hg', ha⟩ := hnd_both st d' gd gd' (rd es k) nw HREL.out.s1 HREL.out.s6 HREL.out.hg
                  rw [e1]
                  rintro e u1 ⟨v1, rfl, hv1, hb1', hk1'⟩
                  have HV1 := Lib.hid hv1
                  have HBU := Lib.hid hb1'
                  have HKU := Lib.hid hk1'
                  have HG := Lib.hid hg'
                  have E2 := Lib.hid e2
                  clear hv1 hb1' hk1' hg' e1 e2
                  go_wp2_with fail
                  refine (refHandle g2 st d' gd' (rd es k) nw u1 (HREL.out.b2.keep HKU.out (fun e => HNE e.symm)) HREL.out.s1 HREL.out.s6 HNW.out.1 q0 (by omega)).mono ?_
                  rw [E2.out]
                  rintro e u2 ⟨v2, rfl, hv2, hb2', hk2'⟩
                  have HV2 := Lib.hid hv2
                  have HBU2 := Lib.hid hb2'
                  have HKU2 := Lib.hid hk2'
                  clear hv2 hb2' hk2'
                  go_wp2_with fail
                  have l2 := HREL.out.b2.lt
                  refine (equal_any v1 v2 a a _ (HV1.out.keep HKU2.out (fun q h _ e => by simp only [My.One] at e; omega)) HV2.out (by omega)).mono ?_
                  rintro e u3 ⟨rfl, hk3'⟩
                  have HKU3 := Lib.hid hk3'
                  have HSTEP := Lib.hid (HREL.out.step hlt h90 HNW.out.1 HNW.out.2 s1' s6' HG.out HBU.out HKU.out HBU2.out HKU2.out HKU3.out)
                  clear hk3'
                  go_wp2_with fail
                  have c39 := HSTEP.out.b2.cell 0
                  simp at c39
                  go_quiet ((go_at_call 17; exact Calls.quiet_of_same (slotState g1 st1 d' _ _ (by repeat (first | exact HSTEP.out.b1 | apply Blk.drewN | apply Blk.drew)))))
                  go_wp2
                  exact ⟨⟨k + 1, nw, st1, _, _, rfl, by go_num, HSTEP.out.drewN _⟩, by simp [intOf]; omega⟩
                | (with_reducible refine (implHandle g1 st d' gd (md (rd es k) 9) nw wr HREL.out.b1 HREL.out.s1 HREL.out.s6 HNW.out.1 q0 (by omega)).mono ?_)
                  obtain ⟨a, er, st1, ga, gb, e1, e2, s1', s6', hg', ha⟩ := hnd_both st d' gd gd' (md (rd es k) 9) nw HREL.out.s1 HREL.out.s6 HREL.out.hg
                  rw [e1]
                  rintro e u1 ⟨v1, rfl, hv1, hb1', hk1'⟩
                  have HV1 := Lib.hid hv1
                  have HBU := Lib.hid hb1'
                  have HKU := Lib.hid hk1'
                  have HG := Lib.hid hg'
                  have E2 := Lib.hid e2
                  clear hv1 hb1' hk1' hg' e1 e2
                  go_wp2_with fail
                  refine (refHandle g2 st d' gd' (md (rd es k) 9) nw u1 (HREL.out.b2.keep HKU.out (fun e => HNE e.symm)) HREL.out.s1 HREL.out.s6 HNW.out.1 q0 (by omega)).mono ?_
                  rw [E2.out]
                  rintro e u2 ⟨v2, rfl, hv2, hb2', hk2'⟩
                  have HV2 := Lib.hid hv2
                  have HBU2 := Lib.hid hb2'
                  have HKU2 := Lib.hid hk2'
                  clear hv2 hb2' hk2'
                  go_wp2_with fail
                  have l2 := HREL.out.b2.lt
                  refine (equal_any v1 v2 a a _ (HV1.out.keep HKU2.out (fun q h _ e => by simp only [My.One] at e; omega)) HV2.out (by omega)).mono ?_
                  rintro e u3 ⟨rfl, hk3'⟩
                  have HKU3 := Lib.hid hk3'
                  have HSTEP := Lib.hid (HREL.out.step hlt h90 HNW.out.1 HNW.out.2 s1' s6' HG.out HBU.out HKU.out HBU2.out HKU2.out HKU3.out)
                  clear hk3'
                  go_wp2_with fail
                  have c39 := HSTEP.out.b2.cell 0
                  simp at c39
                  go_quiet ((go_at_call 17; exact Calls.quiet_of_same (slotState g1 st1 d' _ _ (by repeat (first | exact HSTEP.out.b1 | apply Blk.drewN | apply Blk.drew)))))
                  go_wp2
                  exact ⟨⟨k + 1, nw, st1, _, _, rfl, by go_num, HSTEP.out.drewN _⟩, by simp [intOf]; omega⟩
          · go_wp2_with (go_at_call 11; refine (mod_any _ _ _ (by omega) (by omega)).mono ?_; rintro e w' ⟨rfl, rfl⟩)
            all_goals
              have hb0 : 0 ≤ n := by omega
              have hb1 : n ≤ 5 * (k + 1 : Nat) := by omega
              obtain ⟨nw, hnw⟩ : ∃ nw, nw = n := ⟨n, rfl⟩
              rw [← hnw] at hb0 hb1
              rw [← hnw]
              clear hnw
              have HNW : Hid (0 ≤ nw ∧ nw ≤ 5 * (k + 1 : Nat)) := ⟨hb0, hb1⟩
              have HNE := HREL.out.ne
              first
                | (with_reducible refine (implAdvance g1 st d' gd nw wr HREL.out.b1).mono ?_)
                  obtain ⟨a, st1, e1, e2, s1', s6', hg', ha⟩ := adv_both st gd gd' nw HREL.out.s1 HREL.out.s6 HREL.out.hg
                  rw [e1]
                  rintro e u1 ⟨v1, rfl, hv1, hb1', hk1'⟩
                  have HV1 := Lib.hid hv1
                  have HBU := Lib.hid hb1'
                  have HKU := Lib.hid hk1'
                  have HG := Lib.hid hg'
                  have E2 := Lib.hid e2
                  clear hv1 hb1' hk1' hg' e1 e2
                  go_wp2_with fail
                  refine (refAdvance g2 st d' gd' nw u1 (HREL.out.b2.keep HKU.out (fun e => HNE e.symm))).mono ?_
                  rw [E2.out]
                  rintro e u2 ⟨v2, rfl, hv2, hb2', hk2'⟩
                  have HV2 := Lib.hid hv2
                  have HBU2 := Lib.hid hb2'
                  have HKU2 := Lib.hid hk2'
                  clear hv2 hb2' hk2'
                  go_wp2_with fail
                  have l2 := HREL.out.b2.lt
                  refine (equal_any v1 v2 a a _ (HV1.out.keep HKU2.out (fun q h _ e => by simp only [My.One] at e; omega)) HV2.out (by omega)).mono ?_
                  rintro e u3 ⟨rfl, hk3'⟩
                  have HKU3 := Lib.hid hk3'
                  have HSTEP := Lib.hid (HREL.out.step hlt h90 HNW.out.1 HNW.out.2 s1' s6' HG.out HBU.out HKU.out HBU2.out HKU2.out HKU3.out)
                  clear hk3'
                  go_wp2_with fail
                  have c39 := HSTEP.out.b2.cell 0
                  simp at c39
                  go_quiet ((go_at_call 17; exact Calls.quiet_of_same (slotState g1 st1 d' _ _ (by repeat (first | exact HSTEP.out.b1 | apply Blk.drewN | apply Blk.drew)))))
                  go_wp2
                  exact ⟨⟨k + 1, nw, st1, _, _, rfl, by go_num, HSTEP.out.drewN _⟩, by simp [intOf]; omega⟩
                | (with_reducible refine (implHandle g1 st d' gd (rd es k) nw wr HREL.out.b1 HREL.out.s1 HREL.out.s6 HNW.out.1 q0 (by omega)).mono ?_)
                  obtain ⟨a, er, st1, ga, gb, e1, e2, s1', s6', hg', ha⟩ := hnd_both st d' gd gd' (rd es k) nw HREL.out.s1 HREL.out.s6 HREL.out.hg
                  rw [e1]
                  rintro e u1 ⟨v1, rfl, hv1, hb1', hk1'⟩
                  have HV1 := Lib.hid hv1
                  have HBU := Lib.hid hb1'
                  have HKU := Lib.hid hk1'
                  have HG := Lib.hid hg'
                  have E2 := Lib.hid e2
                  clear hv1 hb1' hk1' hg' e1 e2
                  go_wp2_with fail
                  refine (refHandle g2 st d' gd' (rd es k) nw u1 (HREL.out.b2.keep HKU.out (fun e => HNE e.symm)) HREL.out.s1 HREL.out.s6 HNW.out.1 q0 (by omega)).mono ?_
                  rw [E2.out]
                  rintro e u2 ⟨v2, rfl, hv2, hb2', hk2'⟩
                  have HV2 := Lib.hid hv2
                  have HBU2 := Lib.hid hb2'
                  have HKU2 := Lib.hid hk2'
                  clear hv2 hb2' hk2'
                  go_wp2_with fail
                  have l2 := HREL.out.b2.lt
                  refine (equal_any v1 v2 a a _ (HV1.out.keep HKU2.out (fun q h _ e => by simp only [My.One] at e; omega)) HV2.out (by omega)).mono ?_
                  rintro e u3 ⟨rfl, hk3'⟩
                  have HKU3 := Lib.hid hk3'
                  have HSTEP := Lib.hid (HREL.out.step hlt h90 HNW.out.1 HNW.out.2 s1' s6' HG.out HBU.out HKU.out HBU2.out HKU2.out HKU3.out)
                  clear hk3'
                  go_wp2_with fail
                  have c39 := HSTEP.out.b2.cell 0
                  simp at c39
                  go_quiet ((go_at_call 17; exact Calls.quiet_of_same (slotState g1 st1 d' _ _ (by repeat (first | exact HSTEP.out.b1 | apply Blk.drewN | apply Blk.drew)))))
                  go_wp2
                  exact ⟨⟨k + 1, nw, st1, _, _, rfl, by go_num, HSTEP.out.drewN _⟩, by simp [intOf]; omega⟩
                | (with_reducible refine (implHandle g1 st d' gd (md (rd es k) 9) nw wr HREL.out.b1 HREL.out.s1 HREL.out.s6 HNW.out.1 q0 (by omega)).mono ?_)
                  obtain ⟨a, er, st1, ga, gb, e1, e2, s1', s6', hg', ha⟩ := hnd_both st d' gd gd' (md (rd es k) 9) nw HREL.out.s1 HREL.out.s6 HREL.out.hg
                  rw [e1]
                  rintro e u1 ⟨v1, rfl, hv1, hb1', hk1'⟩
                  have HV1 := Lib.hid hv1
                  have HBU := Lib.hid hb1'
                  have HKU := Lib.hid hk1'
                  have HG := Lib.hid hg'
                  have E2 := Lib.hid e2
                  clear hv1 hb1' hk1' hg' e1 e2
                  go_wp2_with fail
                  refine (refHandle g2 st d' gd' (md (rd es k) 9) nw u1 (HREL.out.b2.keep HKU.out (fun e => HNE e.symm)) HREL.out.s1 HREL.out.s6 HNW.out.1 q0 (by omega)).mono ?_
                  rw [E2.out]
                  rintro e u2 ⟨v2, rfl, hv2, hb2', hk2'⟩
                  have HV2 := Lib.hid hv2
                  have HBU2 := Lib.hid hb2'
                  have HKU2 := Lib.hid hk2'
                  clear hv2 hb2' hk2'
                  go_wp2_with fail
                  have l2 := HREL.out.b2.lt
                  refine (equal_any v1 v2 a a _ (HV1.out.keep HKU2.out (fun q h _ e => by simp only [My.One] at e; omega)) HV2.out (by omega)).mono ?_
                  rintro e u3 ⟨rfl, hk3'⟩
                  have HKU3 := Lib.hid hk3'
                  have HSTEP := Lib.hid (HREL.out.step hlt h90 HNW.out.1 HNW.out.2 s1' s6' HG.out HBU.out HKU.out HBU2.out HKU2.out HKU3.out)
                  clear hk3'
                  go_wp2_with fail
                  have c39 := HSTEP.out.b2.cell 0
                  simp at c39
                  go_quiet ((go_at_call 17; exact Calls.quiet_of_same (slotState g1 st1 d' _ _ (by repeat (first | exact HSTEP.out.b1 | apply Blk.drewN | apply Blk.drew)))))
                  go_wp2
                  exact ⟨⟨k + 1, nw, st1, _, _, rfl, by go_num, HSTEP.out.drewN _⟩, by simp [intOf]; omega⟩
        · go_wp2
          go_ret
          exact ⟨rfl, HREL.out.keep⟩
      · go_wp2
        go_ret
        exact ⟨rfl, HREL.out.keep⟩
end Go.Proofs.Ytolbecinjajejaa
