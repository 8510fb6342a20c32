/- The law 'HotplugPowerBalance': the walk. -/
import Derived.Test.YtolbecinjajejaaS5
namespace Go.Proofs.Ytolbecinjajejaa
open Go.RowKit Go.My
set_option linter.unusedVariables false
set_option linter.unusedSimpArgs false

/-- What the law does at an action: power on, functions known. -/
def stepA (x : Int) (on kn : Bool) : Option (Bool × Bool) :=
  if x = 1 then (if on then none else some (true, kn))
  else if x = 2 then (if !on || kn then none else some (false, kn))
  else if x = 3 then (if !on || kn then none else some (on, true))
  else if x = 5 then (if !kn then none else some (on, false))
  else if x = 4 then (if !kn then none else some (on, kn))
  else none
def runA : List Int → Bool → Bool → Option (Bool × Bool)
  | [], on, kn => some (on, kn)
  | x :: r, on, kn => (stepA x on kn).bind fun s => runA r s.1 s.2
def onOf (st : Int) : Bool := st == 3 || st == 4 || st == 5
def knOf (st : Int) : Bool := st == 4 || st == 5

set_option maxHeartbeats 2000000 in
theorem hnd_runs (st d gd ev now : Int) (h1 : 1 ≤ st) (h2 : st ≤ 6) :
    ∃ a err st1 g1, hnd st d gd ev now = (a, err, st1, g1) ∧ runA a (onOf st) (knOf st) = some (onOf st1, knOf st1) ∧ 1 ≤ st1 ∧ st1 ≤ 6 ∧ a.length ≤ 2 := by
  rcases (by omega : st = 1 ∨ st = 2 ∨ st = 3 ∨ st = 4 ∨ st = 5 ∨ st = 6) with rfl | rfl | rfl | rfl | rfl | rfl
  all_goals
    unfold hnd
    repeat' split
    all_goals first | omega | exact ⟨_, _, _, _, rfl, by decide, by omega, by omega, by simp⟩

theorem adv_runs (st gd now : Int) (h1 : 1 ≤ st) (h2 : st ≤ 6) :
    ∃ a st1, adv st gd now = (a, st1) ∧ runA a (onOf st) (knOf st) = some (onOf st1, knOf st1) ∧ 1 ≤ st1 ∧ st1 ≤ 6 ∧ a.length ≤ 2 := by
  by_cases h : st = 3 ∧ gd ≤ now
  · obtain ⟨rfl, h⟩ := h
    exact ⟨[3], 4, by simp [adv, h], by decide, by omega, by omega, by simp⟩
  · exact ⟨[], st, by simp only [adv]; rw [if_neg h], rfl, h1, h2, by simp⟩

theorem stepA_cases {x : Int} {on kn on' kn' : Bool} (h : stepA x on kn = some (on', kn')) :
    (x = 1 ∧ on = false ∧ on' = true ∧ kn' = kn) ∨ (x = 2 ∧ on = true ∧ kn = false ∧ on' = false ∧ kn' = false) ∨ (x = 3 ∧ on = true ∧ kn = false ∧ on' = true ∧ kn' = true) ∨
    (x = 5 ∧ kn = true ∧ on' = on ∧ kn' = false) ∨ (x = 4 ∧ kn = true ∧ on' = on ∧ kn' = true) := by
  unfold stepA at h
  repeat' split at h
  all_goals simp_all

theorem runA_step {a : List Int} {k : Nat} {on kn on1 kn1 : Bool} (h : runA (a.drop k) on kn = some (on1, kn1)) (hk : k < a.length) :
    ∃ on' kn', stepA (rd a k) on kn = some (on', kn') ∧ runA (a.drop (k + 1)) on' kn' = some (on1, kn1) := by
  rw [List.drop_eq_getElem_cons hk, rd_eq] at h
  simp only [runA] at h
  cases hs : stepA (rd a k) on kn with
  | none => rw [hs] at h; simp at h
  | some s => rw [hs] at h; exact ⟨s.1, s.2, rfl, by simpa using h⟩
theorem runA_end {a : List Int} {k : Nat} {on kn on1 kn1 : Bool} (h : runA (a.drop k) on kn = some (on1, kn1)) (hk : ¬ k < a.length) : on = on1 ∧ kn = kn1 := by
  rw [List.drop_of_length_le (by omega)] at h
  simpa [runA] using h

structure RelB (w : World) (n : Nat) (d : Int) (g : Nat) (k : Nat) (nw st gd : Int) (wr : World) : Prop where
  hk : k ≤ n
  hk90 : k ≤ 90
  n0 : 0 ≤ nw
  n1 : nw ≤ 5 * k
  s1 : 1 ≤ st
  s6 : st ≤ 6
  b1 : Blk wr g #[.int .i64 st, .int .u64 d, .int .u64 gd] 71
  keep : Keep Non w wr
  lo : w.heap.size ≤ g

theorem RelB.step {w : World} {n : Nat} {d : Int} {g k : Nat} {nw st gd nw' st' e : Int} {wr w1 : World} (h : RelB w n d g k nw st gd wr) (hk : k < n) (hk' : k < 90) (hn : 0 ≤ nw') (hn' : nw' ≤ 5 * (k + 1 : Nat))
    (h1 : 1 ≤ st') (h6 : st' ≤ 6) (b1 : Blk w1 g #[.int .i64 st', .int .u64 d, .int .u64 e] 71) (k1 : Keep (My.One g) wr w1) : RelB w n d g (k + 1) nw' st' e w1 :=
  ⟨by omega, by omega, hn, hn', h1, h6, b1, h.keep.trans k1 (fun k hk e => by have := h.lo; simp only [My.One] at e; omega), h.lo⟩

theorem slotState' (g : Nat) (st d gd : Int) (w : World) (hb : Blk w g #[.int .i64 st, .int .u64 d, .int .u64 gd] 71) :
    Calls Try.prog 17 #[.pointer (some ⟨g, 0, none⟩)] w fun e w' => e = .returned (.int .i64 st) ∧ w = w' := (slotState g st d gd w hb).mono fun e w' h => ⟨h.1, h.2.symm⟩

theorem onOf_eq (st : Int) : (if (knOf st) = true then true else st == 3) = onOf st := by
  unfold onOf knOf; cases h3 : (st == 3) <;> cases h4 : (st == 4) <;> cases h5 : (st == 5) <;> simp

set_option maxHeartbeats 8000000 in
set_option maxRecDepth 100000 in
theorem powerLaw {O O' : Nat → Prop} (d : Int) (ve vp : Value) (es ps : List Int) (w : World) (hd0 : 0 ≤ d) (hd1 : d < 18446744073709551616)
    (he : Ints O .i64 w ve es) (hp : Ints O' .u64 w vp ps) (hel : es.length ≤ 9223372036854775807) (hpl : ps.length ≤ 9223372036854775807)
    (hpr : ∀ k, 0 ≤ rd ps k) :
    Calls Try.prog 4 #[.int .u64 d, ve, vp] w fun e w' => e = .returned (.bool true) ∧ Keep Non w w' := by
  obtain ⟨A, c, rfl, hl, he⟩ := he
  obtain ⟨A', c', rfl, hl', hp⟩ := hp
  have HE := Lib.hid he
  have HP := Lib.hid hp
  have HR := Lib.hid hpr
  clear he hp hpr
  have q0 : 0 ≤ d % 6 := by omega
  have q1 : d % 6 < 6 := by omega
  go_enter Try.func4, Try.ntmps4
  go_wp2_with fail
  generalize d % 6 = d' at *
  refine (newSlot_ok false d' _ (by omega)).mono ?_
  rintro e w1 ⟨g, hg, rfl, hb1, hk1⟩
  have HB1 := Lib.hid hb1
  have HK1 := Lib.hid hk1
  clear hb1 hk1
  go_wp2_with fail
  refine (awake23 _).mono ?_
  rintro e w3 ⟨rfl, hk3⟩
  have HK3 := Lib.hid hk3
  clear hk3
  go_wp2_with fail
  go_loopw [9, 10, 11, 12] (fun on kn nw i wr => ∃ (k : Nat) (n st gd : Int), on = .bool (onOf st) ∧ kn = .bool (knOf st) ∧ nw = .int .u64 n ∧ i = .int .i64 k ∧ Hid (RelB w es.length d' g k n st gd wr)) (fun _ _ _ i _ => es.length - (intOf i).toNat)
  case atStart =>
    refine ⟨0, 0, 1, 0, rfl, rfl, rfl, rfl, ⟨Nat.zero_le _, by omega, by omega, by omega, by omega, by omega, ?_, ?_, hg⟩⟩
    · exact (HB1.out.keep HK3.out (fun h => h))
    · exact HK1.out.tr HK3.out
  case round =>
    obtain ⟨k, n, st, gd, rfl, rfl, rfl, rfl, HREL⟩ := hrel
    have n0 := HREL.out.n0
    have n1 := HREL.out.n1
    have k90 := HREL.out.hk90
    by_cases hlt : k < es.length
    · by_cases h90 : k < 90
      · obtain ⟨b, off, rfl, hc0⟩ := ints_at HE.out hlt
        have hc := HREL.out.keep.cell' hc0 (fun h => h)
        clear hc0
        by_cases hpk : k < ps.length
        · obtain ⟨b', off', rfl, hc1⟩ := ints_at HP.out hpk
          have hcp := HREL.out.keep.cell' hc1 (fun h => h)
          have HRP := HR.out k
          clear hc1
          go_wp2_with (go_at_call 11; refine (mod_any _ _ _ (by omega) (by omega)).mono ?_; rintro e w' ⟨rfl, rfl⟩)
          all_goals
            have hb0 : 0 ≤ n + rd ps k % 5 := by omega
            have hb1 : n + rd ps k % 5 ≤ 5 * (k + 1 : Nat) := by omega
            generalize n + rd ps k % 5 = nw at *
            clear HRP
            have HNW : Hid (0 ≤ nw ∧ nw ≤ 5 * (k + 1 : Nat)) := ⟨hb0, hb1⟩
            first
              | (with_reducible refine (implAdvance g st d' gd nw wr HREL.out.b1).mono ?_)
                obtain ⟨a, st1, e1, hrun, s1', s6', ha⟩ := adv_runs st gd nw HREL.out.s1 HREL.out.s6
                rw [e1]
                rintro e u1 ⟨v1, rfl, ⟨A1, c1, rfl, hl1, hv1⟩, hb1', hk1'⟩
                have HV1 := Lib.hid hv1
                have HBU := Lib.hid hb1'
                have HKU := Lib.hid hk1'
                have HRUN := Lib.hid hrun
                clear hv1 hb1' hk1' e1 hrun
                go_wp2_with fail
                go_loop [9, 10, 15] (fun on kn i => ∃ (j : Nat) (o q : Bool), on = .bool o ∧ kn = .bool q ∧ i = .int .i64 j ∧ j ≤ a.length ∧ Hid (runA (a.drop j) o q = some (onOf st1, knOf st1))) (fun _ _ i => a.length - (intOf i).toNat)
                case atStart => exact ⟨0, _, _, rfl, rfl, rfl, Nat.zero_le _, HRUN.out⟩
                case round =>
                  obtain ⟨j, o, q, rfl, rfl, rfl, hj, HJ⟩ := hrel
                  by_cases hja : j < a.length
                  · obtain ⟨o', q', hs, hr⟩ := runA_step HJ.out hja
                    have HR' := Lib.hid hr
                    clear hr
                    obtain ⟨b2, off2, rfl, hc2⟩ := ints_at HV1.out hja
                    rcases stepA_cases hs with ⟨hx, rfl, rfl, rfl⟩ | ⟨hx, rfl, rfl, rfl, rfl⟩ | ⟨hx, rfl, rfl, rfl, rfl⟩ | ⟨hx, rfl, rfl, rfl⟩ | ⟨hx, rfl, rfl, rfl⟩
                    all_goals
                      rw [hx] at hc2
                      clear hx hs
                      go_wp2
                      exact ⟨⟨j + 1, _, _, rfl, rfl, by go_num, by omega, HR'.out⟩, by simp [intOf]; omega⟩
                  · obtain ⟨rfl, rfl⟩ := runA_end HJ.out hja
                    rcases (by omega : st1 = 1 ∨ st1 = 2 ∨ st1 = 3 ∨ st1 = 4 ∨ st1 = 5 ∨ st1 = 6) with rfl | rfl | rfl | rfl | rfl | rfl
                    · have o1 : onOf 1 = false := rfl
                      have o2 : knOf 1 = false := rfl
                      go_wp2_with (go_at_call 17; refine (slotState' g 1 d' _ _ HBU.out).mono ?_; rintro e w' ⟨rfl, rfl⟩)
                      exact ⟨⟨k + 1, nw, 1, _, rfl, rfl, rfl, by go_num, HREL.out.step hlt h90 HNW.out.1 HNW.out.2 s1' s6' HBU.out HKU.out⟩, by simp [intOf]; omega⟩
                    · have o1 : onOf 2 = false := rfl
                      have o2 : knOf 2 = false := rfl
                      go_wp2_with (go_at_call 17; refine (slotState' g 2 d' _ _ HBU.out).mono ?_; rintro e w' ⟨rfl, rfl⟩)
                      exact ⟨⟨k + 1, nw, 2, _, rfl, rfl, rfl, by go_num, HREL.out.step hlt h90 HNW.out.1 HNW.out.2 s1' s6' HBU.out HKU.out⟩, by simp [intOf]; omega⟩
                    · have o1 : onOf 3 = true := rfl
                      have o2 : knOf 3 = false := rfl
                      go_wp2_with (go_at_call 17; refine (slotState' g 3 d' _ _ HBU.out).mono ?_; rintro e w' ⟨rfl, rfl⟩)
                      exact ⟨⟨k + 1, nw, 3, _, rfl, rfl, rfl, by go_num, HREL.out.step hlt h90 HNW.out.1 HNW.out.2 s1' s6' HBU.out HKU.out⟩, by simp [intOf]; omega⟩
                    · have o1 : onOf 4 = true := rfl
                      have o2 : knOf 4 = true := rfl
                      go_wp2_with (go_at_call 17; refine (slotState' g 4 d' _ _ HBU.out).mono ?_; rintro e w' ⟨rfl, rfl⟩)
                      exact ⟨⟨k + 1, nw, 4, _, rfl, rfl, rfl, by go_num, HREL.out.step hlt h90 HNW.out.1 HNW.out.2 s1' s6' HBU.out HKU.out⟩, by simp [intOf]; omega⟩
                    · have o1 : onOf 5 = true := rfl
                      have o2 : knOf 5 = true := rfl
                      go_wp2_with (go_at_call 17; refine (slotState' g 5 d' _ _ HBU.out).mono ?_; rintro e w' ⟨rfl, rfl⟩)
                      exact ⟨⟨k + 1, nw, 5, _, rfl, rfl, rfl, by go_num, HREL.out.step hlt h90 HNW.out.1 HNW.out.2 s1' s6' HBU.out HKU.out⟩, by simp [intOf]; omega⟩
                    · have o1 : onOf 6 = false := rfl
                      have o2 : knOf 6 = false := rfl
                      go_wp2_with (go_at_call 17; refine (slotState' g 6 d' _ _ HBU.out).mono ?_; rintro e w' ⟨rfl, rfl⟩)
                      exact ⟨⟨k + 1, nw, 6, _, rfl, rfl, rfl, by go_num, HREL.out.step hlt h90 HNW.out.1 HNW.out.2 s1' s6' HBU.out HKU.out⟩, by simp [intOf]; omega⟩
              | (with_reducible refine (implHandle g st d' gd (md (rd es k) 8) nw wr HREL.out.b1 HREL.out.s1 HREL.out.s6 HNW.out.1 q0 (by omega)).mono ?_)
                obtain ⟨a, er, st1, ga, e1, hrun, s1', s6', ha⟩ := hnd_runs st d' gd (md (rd es k) 8) nw HREL.out.s1 HREL.out.s6
                rw [e1]
                rintro e u1 ⟨v1, rfl, ⟨A1, c1, rfl, hl1, hv1⟩, hb1', hk1'⟩
                have HV1 := Lib.hid hv1
                have HBU := Lib.hid hb1'
                have HKU := Lib.hid hk1'
                have HRUN := Lib.hid hrun
                clear hv1 hb1' hk1' e1 hrun
                go_wp2_with fail
                go_loop [9, 10, 15] (fun on kn i => ∃ (j : Nat) (o q : Bool), on = .bool o ∧ kn = .bool q ∧ i = .int .i64 j ∧ j ≤ a.length ∧ Hid (runA (a.drop j) o q = some (onOf st1, knOf st1))) (fun _ _ i => a.length - (intOf i).toNat)
                case atStart => exact ⟨0, _, _, rfl, rfl, rfl, Nat.zero_le _, HRUN.out⟩
                case round =>
                  obtain ⟨j, o, q, rfl, rfl, rfl, hj, HJ⟩ := hrel
                  by_cases hja : j < a.length
                  · obtain ⟨o', q', hs, hr⟩ := runA_step HJ.out hja
                    have HR' := Lib.hid hr
                    clear hr
                    obtain ⟨b2, off2, rfl, hc2⟩ := ints_at HV1.out hja
                    rcases stepA_cases hs with ⟨hx, rfl, rfl, rfl⟩ | ⟨hx, rfl, rfl, rfl, rfl⟩ | ⟨hx, rfl, rfl, rfl, rfl⟩ | ⟨hx, rfl, rfl, rfl⟩ | ⟨hx, rfl, rfl, rfl⟩
                    all_goals
                      rw [hx] at hc2
                      clear hx hs
                      go_wp2
                      exact ⟨⟨j + 1, _, _, rfl, rfl, by go_num, by omega, HR'.out⟩, by simp [intOf]; omega⟩
                  · obtain ⟨rfl, rfl⟩ := runA_end HJ.out hja
                    rcases (by omega : st1 = 1 ∨ st1 = 2 ∨ st1 = 3 ∨ st1 = 4 ∨ st1 = 5 ∨ st1 = 6) with rfl | rfl | rfl | rfl | rfl | rfl
                    · have o1 : onOf 1 = false := rfl
                      have o2 : knOf 1 = false := rfl
                      go_wp2_with (go_at_call 17; refine (slotState' g 1 d' _ _ HBU.out).mono ?_; rintro e w' ⟨rfl, rfl⟩)
                      exact ⟨⟨k + 1, nw, 1, _, rfl, rfl, rfl, by go_num, HREL.out.step hlt h90 HNW.out.1 HNW.out.2 s1' s6' HBU.out HKU.out⟩, by simp [intOf]; omega⟩
                    · have o1 : onOf 2 = false := rfl
                      have o2 : knOf 2 = false := rfl
                      go_wp2_with (go_at_call 17; refine (slotState' g 2 d' _ _ HBU.out).mono ?_; rintro e w' ⟨rfl, rfl⟩)
                      exact ⟨⟨k + 1, nw, 2, _, rfl, rfl, rfl, by go_num, HREL.out.step hlt h90 HNW.out.1 HNW.out.2 s1' s6' HBU.out HKU.out⟩, by simp [intOf]; omega⟩
                    · have o1 : onOf 3 = true := rfl
                      have o2 : knOf 3 = false := rfl
                      go_wp2_with (go_at_call 17; refine (slotState' g 3 d' _ _ HBU.out).mono ?_; rintro e w' ⟨rfl, rfl⟩)
                      exact ⟨⟨k + 1, nw, 3, _, rfl, rfl, rfl, by go_num, HREL.out.step hlt h90 HNW.out.1 HNW.out.2 s1' s6' HBU.out HKU.out⟩, by simp [intOf]; omega⟩
                    · have o1 : onOf 4 = true := rfl
                      have o2 : knOf 4 = true := rfl
                      go_wp2_with (go_at_call 17; refine (slotState' g 4 d' _ _ HBU.out).mono ?_; rintro e w' ⟨rfl, rfl⟩)
                      exact ⟨⟨k + 1, nw, 4, _, rfl, rfl, rfl, by go_num, HREL.out.step hlt h90 HNW.out.1 HNW.out.2 s1' s6' HBU.out HKU.out⟩, by simp [intOf]; omega⟩
                    · have o1 : onOf 5 = true := rfl
                      have o2 : knOf 5 = true := rfl
                      go_wp2_with (go_at_call 17; refine (slotState' g 5 d' _ _ HBU.out).mono ?_; rintro e w' ⟨rfl, rfl⟩)
                      exact ⟨⟨k + 1, nw, 5, _, rfl, rfl, rfl, by go_num, HREL.out.step hlt h90 HNW.out.1 HNW.out.2 s1' s6' HBU.out HKU.out⟩, by simp [intOf]; omega⟩
                    · have o1 : onOf 6 = false := rfl
                      have o2 : knOf 6 = false := rfl
                      go_wp2_with (go_at_call 17; refine (slotState' g 6 d' _ _ HBU.out).mono ?_; rintro e w' ⟨rfl, rfl⟩)
                      exact ⟨⟨k + 1, nw, 6, _, rfl, rfl, rfl, by go_num, HREL.out.step hlt h90 HNW.out.1 HNW.out.2 s1' s6' HBU.out HKU.out⟩, by simp [intOf]; omega⟩
        · go_wp2_with (go_at_call 11; refine (mod_any _ _ _ (by omega) (by omega)).mono ?_; rintro e w' ⟨rfl, rfl⟩)
          all_goals
            have hb0 : 0 ≤ n := by omega
            have hb1 : n ≤ 5 * (k + 1 : Nat) := by omega
            obtain ⟨nw, hnw⟩ : ∃ nw, nw = n := ⟨n, rfl⟩
            rw [← hnw] at hb0 hb1
            rw [← hnw]
            clear hnw
            have HNW : Hid (0 ≤ nw ∧ nw ≤ 5 * (k + 1 : Nat)) := ⟨hb0, hb1⟩
            first
              | (with_reducible refine (implAdvance g st d' gd nw wr HREL.out.b1).mono ?_)
                obtain ⟨a, st1, e1, hrun, s1', s6', ha⟩ := adv_runs st gd nw HREL.out.s1 HREL.out.s6
                rw [e1]
                rintro e u1 ⟨v1, rfl, ⟨A1, c1, rfl, hl1, hv1⟩, hb1', hk1'⟩
                have HV1 := Lib.hid hv1
                have HBU := Lib.hid hb1'
                have HKU := Lib.hid hk1'
                have HRUN := Lib.hid hrun
                clear hv1 hb1' hk1' e1 hrun
                go_wp2_with fail
                go_loop [9, 10, 15] (fun on kn i => ∃ (j : Nat) (o q : Bool), on = .bool o ∧ kn = .bool q ∧ i = .int .i64 j ∧ j ≤ a.length ∧ Hid (runA (a.drop j) o q = some (onOf st1, knOf st1))) (fun _ _ i => a.length - (intOf i).toNat)
                case atStart => exact ⟨0, _, _, rfl, rfl, rfl, Nat.zero_le _, HRUN.out⟩
                case round =>
                  obtain ⟨j, o, q, rfl, rfl, rfl, hj, HJ⟩ := hrel
                  by_cases hja : j < a.length
                  · obtain ⟨o', q', hs, hr⟩ := runA_step HJ.out hja
                    have HR' := Lib.hid hr
                    clear hr
                    obtain ⟨b2, off2, rfl, hc2⟩ := ints_at HV1.out hja
                    rcases stepA_cases hs with ⟨hx, rfl, rfl, rfl⟩ | ⟨hx, rfl, rfl, rfl, rfl⟩ | ⟨hx, rfl, rfl, rfl, rfl⟩ | ⟨hx, rfl, rfl, rfl⟩ | ⟨hx, rfl, rfl, rfl⟩
                    all_goals
                      rw [hx] at hc2
                      clear hx hs
                      go_wp2
                      exact ⟨⟨j + 1, _, _, rfl, rfl, by go_num, by omega, HR'.out⟩, by simp [intOf]; omega⟩
                  · obtain ⟨rfl, rfl⟩ := runA_end HJ.out hja
                    rcases (by omega : st1 = 1 ∨ st1 = 2 ∨ st1 = 3 ∨ st1 = 4 ∨ st1 = 5 ∨ st1 = 6) with rfl | rfl | rfl | rfl | rfl | rfl
                    · have o1 : onOf 1 = false := rfl
                      have o2 : knOf 1 = false := rfl
                      go_wp2_with (go_at_call 17; refine (slotState' g 1 d' _ _ HBU.out).mono ?_; rintro e w' ⟨rfl, rfl⟩)
                      exact ⟨⟨k + 1, nw, 1, _, rfl, rfl, rfl, by go_num, HREL.out.step hlt h90 HNW.out.1 HNW.out.2 s1' s6' HBU.out HKU.out⟩, by simp [intOf]; omega⟩
                    · have o1 : onOf 2 = false := rfl
                      have o2 : knOf 2 = false := rfl
                      go_wp2_with (go_at_call 17; refine (slotState' g 2 d' _ _ HBU.out).mono ?_; rintro e w' ⟨rfl, rfl⟩)
                      exact ⟨⟨k + 1, nw, 2, _, rfl, rfl, rfl, by go_num, HREL.out.step hlt h90 HNW.out.1 HNW.out.2 s1' s6' HBU.out HKU.out⟩, by simp [intOf]; omega⟩
                    · have o1 : onOf 3 = true := rfl
                      have o2 : knOf 3 = false := rfl
                      go_wp2_with (go_at_call 17; refine (slotState' g 3 d' _ _ HBU.out).mono ?_; rintro e w' ⟨rfl, rfl⟩)
                      exact ⟨⟨k + 1, nw, 3, _, rfl, rfl, rfl, by go_num, HREL.out.step hlt h90 HNW.out.1 HNW.out.2 s1' s6' HBU.out HKU.out⟩, by simp [intOf]; omega⟩
                    · have o1 : onOf 4 = true := rfl
                      have o2 : knOf 4 = true := rfl
                      go_wp2_with (go_at_call 17; refine (slotState' g 4 d' _ _ HBU.out).mono ?_; rintro e w' ⟨rfl, rfl⟩)
                      exact ⟨⟨k + 1, nw, 4, _, rfl, rfl, rfl, by go_num, HREL.out.step hlt h90 HNW.out.1 HNW.out.2 s1' s6' HBU.out HKU.out⟩, by simp [intOf]; omega⟩
                    · have o1 : onOf 5 = true := rfl
                      have o2 : knOf 5 = true := rfl
                      go_wp2_with (go_at_call 17; refine (slotState' g 5 d' _ _ HBU.out).mono ?_; rintro e w' ⟨rfl, rfl⟩)
                      exact ⟨⟨k + 1, nw, 5, _, rfl, rfl, rfl, by go_num, HREL.out.step hlt h90 HNW.out.1 HNW.out.2 s1' s6' HBU.out HKU.out⟩, by simp [intOf]; omega⟩
                    · have o1 : onOf 6 = false := rfl
                      have o2 : knOf 6 = false := rfl
                      go_wp2_with (go_at_call 17; refine (slotState' g 6 d' _ _ HBU.out).mono ?_; rintro e w' ⟨rfl, rfl⟩)
                      exact ⟨⟨k + 1, nw, 6, _, rfl, rfl, rfl, by go_num, HREL.out.step hlt h90 HNW.out.1 HNW.out.2 s1' s6' HBU.out HKU.out⟩, by simp [intOf]; omega⟩
              | (with_reducible refine (implHandle g st d' gd (md (rd es k) 8) nw wr HREL.out.b1 HREL.out.s1 HREL.out.s6 HNW.out.1 q0 (by omega)).mono ?_)
                obtain ⟨a, er, st1, ga, e1, hrun, s1', s6', ha⟩ := hnd_runs st d' gd (md (rd es k) 8) nw HREL.out.s1 HREL.out.s6
                rw [e1]
                rintro e u1 ⟨v1, rfl, ⟨A1, c1, rfl, hl1, hv1⟩, hb1', hk1'⟩
                have HV1 := Lib.hid hv1
                have HBU := Lib.hid hb1'
                have HKU := Lib.hid hk1'
                have HRUN := Lib.hid hrun
                clear hv1 hb1' hk1' e1 hrun
                go_wp2_with fail
                go_loop [9, 10, 15] (fun on kn i => ∃ (j : Nat) (o q : Bool), on = .bool o ∧ kn = .bool q ∧ i = .int .i64 j ∧ j ≤ a.length ∧ Hid (runA (a.drop j) o q = some (onOf st1, knOf st1))) (fun _ _ i => a.length - (intOf i).toNat)
                case atStart => exact ⟨0, _, _, rfl, rfl, rfl, Nat.zero_le _, HRUN.out⟩
                case round =>
                  obtain ⟨j, o, q, rfl, rfl, rfl, hj, HJ⟩ := hrel
                  by_cases hja : j < a.length
                  · obtain ⟨o', q', hs, hr⟩ := runA_step HJ.out hja
                    have HR' := Lib.hid hr
                    clear hr
                    obtain ⟨b2, off2, rfl, hc2⟩ := ints_at HV1.out hja
                    rcases stepA_cases hs with ⟨hx, rfl, rfl, rfl⟩ | ⟨hx, rfl, rfl, rfl, rfl⟩ | ⟨hx, rfl, rfl, rfl, rfl⟩ | ⟨hx, rfl, rfl, rfl⟩ | ⟨hx, rfl, rfl, rfl⟩
                    all_goals
                      rw [hx] at hc2
                      clear hx hs
                      go_wp2
                      exact ⟨⟨j + 1, _, _, rfl, rfl, by go_num, by omega, HR'.out⟩, by simp [intOf]; omega⟩
                  · obtain ⟨rfl, rfl⟩ := runA_end HJ.out hja
                    rcases (by omega : st1 = 1 ∨ st1 = 2 ∨ st1 = 3 ∨ st1 = 4 ∨ st1 = 5 ∨ st1 = 6) with rfl | rfl | rfl | rfl | rfl | rfl
                    · have o1 : onOf 1 = false := rfl
                      have o2 : knOf 1 = false := rfl
                      go_wp2_with (go_at_call 17; refine (slotState' g 1 d' _ _ HBU.out).mono ?_; rintro e w' ⟨rfl, rfl⟩)
                      exact ⟨⟨k + 1, nw, 1, _, rfl, rfl, rfl, by go_num, HREL.out.step hlt h90 HNW.out.1 HNW.out.2 s1' s6' HBU.out HKU.out⟩, by simp [intOf]; omega⟩
                    · have o1 : onOf 2 = false := rfl
                      have o2 : knOf 2 = false := rfl
                      go_wp2_with (go_at_call 17; refine (slotState' g 2 d' _ _ HBU.out).mono ?_; rintro e w' ⟨rfl, rfl⟩)
                      exact ⟨⟨k + 1, nw, 2, _, rfl, rfl, rfl, by go_num, HREL.out.step hlt h90 HNW.out.1 HNW.out.2 s1' s6' HBU.out HKU.out⟩, by simp [intOf]; omega⟩
                    · have o1 : onOf 3 = true := rfl
                      have o2 : knOf 3 = false := rfl
                      go_wp2_with (go_at_call 17; refine (slotState' g 3 d' _ _ HBU.out).mono ?_; rintro e w' ⟨rfl, rfl⟩)
                      exact ⟨⟨k + 1, nw, 3, _, rfl, rfl, rfl, by go_num, HREL.out.step hlt h90 HNW.out.1 HNW.out.2 s1' s6' HBU.out HKU.out⟩, by simp [intOf]; omega⟩
                    · have o1 : onOf 4 = true := rfl
                      have o2 : knOf 4 = true := rfl
                      go_wp2_with (go_at_call 17; refine (slotState' g 4 d' _ _ HBU.out).mono ?_; rintro e w' ⟨rfl, rfl⟩)
                      exact ⟨⟨k + 1, nw, 4, _, rfl, rfl, rfl, by go_num, HREL.out.step hlt h90 HNW.out.1 HNW.out.2 s1' s6' HBU.out HKU.out⟩, by simp [intOf]; omega⟩
                    · have o1 : onOf 5 = true := rfl
                      have o2 : knOf 5 = true := rfl
                      go_wp2_with (go_at_call 17; refine (slotState' g 5 d' _ _ HBU.out).mono ?_; rintro e w' ⟨rfl, rfl⟩)
                      exact ⟨⟨k + 1, nw, 5, _, rfl, rfl, rfl, by go_num, HREL.out.step hlt h90 HNW.out.1 HNW.out.2 s1' s6' HBU.out HKU.out⟩, by simp [intOf]; omega⟩
                    · have o1 : onOf 6 = false := rfl
                      have o2 : knOf 6 = false := rfl
                      go_wp2_with (go_at_call 17; refine (slotState' g 6 d' _ _ HBU.out).mono ?_; rintro e w' ⟨rfl, rfl⟩)
                      exact ⟨⟨k + 1, nw, 6, _, rfl, rfl, rfl, by go_num, HREL.out.step hlt h90 HNW.out.1 HNW.out.2 s1' s6' HBU.out HKU.out⟩, by simp [intOf]; omega⟩
      · go_wp2
        go_ret
        exact ⟨rfl, HREL.out.keep⟩
    · go_wp2
      go_ret
      exact ⟨rfl, HREL.out.keep⟩
end Go.Proofs.Ytolbecinjajejaa
