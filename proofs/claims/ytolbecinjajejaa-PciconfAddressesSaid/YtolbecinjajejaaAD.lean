/- The law PciconfAddresses: the walk. -/
import Derived.Test.YtolbecinjajejaaD14
import Derived.Test.YtolbecinjajejaaRO
set_option linter.unusedVariables false
set_option linter.unusedSimpArgs false
namespace Go.Proofs.Ytolbecinjajejaa
open Go.RowKit Go.My

theorem and8_on (c : BitVec 8) (m : Nat) (hm : m = 1 ∨ m = 2) : (bits .and .u8 (bn c) (m : Int) != 0) = !((c.setWidth 64 &&& BitVec.ofNat 64 m) == 0#64) := by
  have h : ∀ c : BitVec 8, (bits .and .u8 (bn c) 1 != 0) = !((c.setWidth 64 &&& 1#64) == 0#64) ∧ (bits .and .u8 (bn c) 2 != 0) = !((c.setWidth 64 &&& 2#64) == 0#64) := by
    intro c
    have e : ∀ n : Nat, n < 256 → (bits .and .u8 (n : Int) 1 != 0) = !(((BitVec.ofNat 8 n).setWidth 64 &&& 1#64) == 0#64) ∧ (bits .and .u8 (n : Int) 2 != 0) = !(((BitVec.ofNat 8 n).setWidth 64 &&& 2#64) == 0#64) := by decide +kernel
    have h1 := e c.toNat c.isLt
    have h2 : BitVec.ofNat 8 c.toNat = c := by simp
    rw [h2] at h1
    exact h1
  rcases hm with rfl | rfl
  · exact (h c).1
  · exact (h c).2
theorem and_low (x : BitVec 64) : bits .and .u64 (un x) 4294967295 = un (x &&& 0xFFFFFFFF#64) := by
  rw [show (4294967295 : Int) = un 0xFFFFFFFF#64 from rfl, bits_and]

theorem wins_get {O : Nat → Prop} {w : World} {A : Option Addr} {n c : Nat} {xs : List Wn} (h : RowE encW 5 O w (.slice A n c) xs) {i : Nat} (hi : i < xs.length) :
    ∃ b off, A = some ⟨b, off, none⟩ ∧ w.cell? ⟨b, off + i * 5, none⟩ = some (.int .i64 (xs[i]).idx) ∧ w.cell? ⟨b, off + i * 5 + 1, none⟩ = some (.int .i64 (xs[i]).cls) ∧ w.cell? ⟨b, off + i * 5 + 2, none⟩ = some (.int .u64 (xs[i]).base) ∧ w.cell? ⟨b, off + i * 5 + 3, none⟩ = some (.int .u64 (xs[i]).len) ∧ w.cell? ⟨b, off + i * 5 + 4, none⟩ = some (.bool (xs[i]).en) := by
  obtain ⟨A', c', hv, hl, hm, h⟩ := h
  injection hv with e1 e2 e3
  subst e1
  rcases h with rfl | ⟨b, off, h1, h2, _, h3⟩
  · simp at hi
  · obtain ⟨cs, q1, q2, q3⟩ := h3 i hi
    subst q2
    exact ⟨b, off, h1, q3 0 (by omega), q3 1 (by omega), q3 2 (by omega), q3 3 (by omega), q3 4 (by omega)⟩
theorem progD_sv (d : Dv) (q : Nat) (k : Int) (B c : BitVec 64) : (progD d q k B c).sv = d.sv := by unfold progD; split <;> rfl
theorem cfgP_sv (f : Fh) (v : Value) (bs : List Br) : (cfgP f v bs).sv = v := by
  have e : ∀ k, ((cfg0 f v).bars bs k).sv = v := by
    intro k
    induction k with
    | zero => rfl
    | succ k ih =>
      show (Dv.bar _ _ _ _).sv = _
      unfold Dv.bar Dv.def_
      repeat' split
      all_goals simp only [ih]
  unfold cfgP
  cases f.bridge
  · exact e _
  · simp only [if_true]
    unfold Dv.bridge
    cases f.pref <;> simp only [Dv.def_, e, if_true, Bool.false_eq_true, if_false]
/-- What the law looks for. -/
theorem win_prog (f : Fh) (v : Value) (bs : List Br) (hv : vFn f bs = true) (q : Nat) (hq : q < bs.length) (k : Int) (s : Nat) (hx : at1 ⟨0, 0⟩ bs q = ⟨k, s⟩) (hk : k ≠ 0) (b : BitVec 64) (cmd : BitVec 8) (ws : List Wn)
    (hg : Good (progD (cfgP f v bs) q k (baseB k s b) (cmd.setWidth 64)) bs bs.length ws) :
    (∀ x ∈ ws, x.idx = q → x.base = un (baseB k s b) ∧ x.len = IntKind.u64.wrap (2 ^ s) ∧ x.en = (bits .and .u8 (bn cmd) (if k = 1 then 1 else 2) != 0)) ∧ ∃ x ∈ ws, x.idx = (q : Int) := by
  have hw : winA (progD (cfgP f v bs) q k (baseB k s b) (cmd.setWidth 64)) bs q = ⟨q, clsB k, un (baseB k s b), IntKind.u64.wrap (2 ^ s), onB (progD (cfgP f v bs) q k (baseB k s b) (cmd.setWidth 64)) (clsB k)⟩ := by
    unfold winA winB
    rw [hx]
    simp only [Int.toNat_natCast]
    rw [adr_prog f v bs hv q hq k s hx hk b]
  have hon : onB (progD (cfgP f v bs) q k (baseB k s b) (cmd.setWidth 64)) (clsB k) = (bits .and .u8 (bn cmd) (if k = 1 then 1 else 2) != 0) := by
    unfold onB
    by_cases h1 : k = 1
    · subst h1
      rw [on_prog f v bs hv q 1 _ _ _ (by simp [clsB])]
      have := and8_on cmd 1 (.inl rfl)
      simpa [clsB] using this.symm
    · have hc : clsB k ≠ 0 := by unfold clsB; rw [if_neg h1]; split <;> omega
      rw [on_prog f v bs hv q k _ _ _ (by rw [if_neg hc]; exact .inr rfl), if_neg hc, if_neg h1]
      exact (and8_on cmd 2 (.inr rfl)).symm
  refine ⟨fun x hx' hi => ?_, _, hg.2 q hq (by rw [hx]; exact hk), by rw [hw]⟩
  obtain ⟨j, h1, h2, h3⟩ := hg.1 x hx' (by omega)
  have hj : j = q := by
    have : x.idx = j := by rw [h3]; rfl
    omega
  subst hj
  rw [h3, hw]
  exact ⟨rfl, rfl, hon⟩

set_option maxHeartbeats 16000000 in
set_option maxRecDepth 100000 in
theorem addressesLaw (f : Fh) (v : Value) (bs : List Br) (i : Int) (b : BitVec 64) (cmd : BitVec 8) (w : World) (h : Bars (fun _ => True) w v bs) :
    Calls Try.prog 7 #[.agg (fhL f v), .int .i64 i, .int .u64 (un b), .int .u8 (bn cmd)] w fun e w' => e = .returned (.bool true) ∧ Keep Non w w' := by
  have HF := Lib.hid (show RowE encB 2 (fun _ => True) w v bs from h)
  clear h
  have HK0 : Hid (Keep Non w (w.alloc (.cells (fhL f v) 44))) := (Keep.refl _ _).alloc _
  unfold fhL at HK0 ⊢
  go_enter Try.func7, Try.ntmps7
  go_wp2_with fail
  refine (some_any f v bs _ _ (HF.out.keepN HK0.out)).mono ?_
  rintro e z ⟨F, V, bs1, he, hk0, hr⟩
  obtain ⟨A1, n1, c1, rfl⟩ : ∃ A1 n1 c1, V = .slice A1 n1 c1 := by obtain ⟨A1, c1, h, _⟩ := hr; exact ⟨A1, _, c1, h⟩
  unfold fhL at he
  subst he
  have HS : Hid (FSt w z.heap.size F (.slice A1 n1 c1) bs1 (z.alloc (.cells #[.int .i64 F.parent, .int .i64 F.slot, .int .i64 F.vendor, .int .i64 F.device, .bool F.bridge, .bool F.pref, .bool F.hot, .int .i64 F.spare, .int .i64 F.pin, .int .i64 F.vectors, .slice A1 n1 c1] 44))) :=
    ⟨(HK0.out.tr hk0).alloc _, Blk.new _ _ _, (hr.mono (fun _ _ _ => trivial)).keepN ((Keep.refl _ _).alloc _)⟩
  have hza : w.heap.size ≤ z.heap.size := (HK0.out.tr hk0).size
  clear hk0 hr HF HK0
  obtain rfl : n1 = bs1.length := bars_n HS.out.r
  go_wp2_with fail
  refine (validFunction_any F _ bs1 _ _ HS.out.r).mono ?_
  rintro e z1 ⟨rfl, hk0⟩
  replace HS := Lib.hid (HS.out.keep hk0)
  clear hk0
  generalize z.heap.size = a at *
  have main : Hid (∀ wx, FSt w a F (.slice A1 bs1.length c1) bs1 wx → Keep Non w wx) := fun wx h => h.k
  clear main
  cases hv : vFn F bs1
  · go_wp2_with fail
    refine (awake18 _).mono ?_
    rintro e z2 ⟨rfl, hk0⟩
    replace HS := Lib.hid (HS.out.keep hk0)
    clear hk0 hv
    go_wp2
    go_ret
    exact ⟨rfl, HS.out.k⟩
  have HV := Lib.hid hv
  have h6 := bars_len hv
  clear hv
  obtain ⟨e0, e1, e2, e3, e4, e5, e6, e7, e8, e9, e10⟩ := f_cells HS.out.b
  by_cases hl0 : bs1.length = 0
  · have hl0' : ((bs1.length : Int) == 0) = true := by simp [hl0]
    have HL0 := Lib.hid hl0
    clear hl0
    go_wp2_with fail
    refine (awake18 _).mono ?_
    rintro e z2 ⟨rfl, hk0⟩
    replace HS := Lib.hid (HS.out.keep hk0)
    clear hk0
    go_wp2
    go_ret
    exact ⟨rfl, HS.out.k⟩
  have hl1 : 1 ≤ bs1.length := by omega
  have hl2 : ((bs1.length : Int) == 0) = false := by simpa using hl0
  have HL0 := Lib.hid hl0
  clear hl0
  go_wp2_with fail
  refine (mod_any _ _ _ (by omega) (by omega)).mono ?_
  rintro e w' ⟨rfl, rfl⟩
  have hmr := md_range i bs1.length (by omega)
  obtain ⟨q, hq⟩ : ∃ q : Nat, md i bs1.length = q := ⟨(md i bs1.length).toNat, by omega⟩
  rw [hq] at hmr
  have hqn : q < bs1.length := by omega
  rw [hq]
  clear hq hmr hl2
  obtain ⟨bb, off, rfl, hO, q0, q1⟩ := bars_get HS.out.r hqn
  have hvr := vBar_range (vBar_at HV.out q)
  generalize hx : at1 (⟨0, 0⟩ : Br) bs1 q = x at *
  obtain ⟨k, s0⟩ := x
  simp only at q0 q1 hvr
  obtain ⟨hs0, hs40, hkk⟩ := hvr
  obtain ⟨s, rfl⟩ : ∃ s : Nat, s0 = s := ⟨s0.toNat, by omega⟩
  have HX := Lib.hid hx
  have HKK := Lib.hid hkk
  clear hx hkk
  by_cases hk0 : k = 0
  · subst hk0
    go_wp2_with fail
    refine (awake18 _).mono ?_
    rintro e z2 ⟨rfl, hk0⟩
    replace HS := Lib.hid ((HS.out.keep ((Keep.refl Non _).alloc (.cells #[.int .i64 0, .int .i64 s] 61))).keep hk0)
    clear hk0
    go_wp2
    go_ret
    exact ⟨rfl, HS.out.k⟩
  have HNZ := Lib.hid hk0
  have HZ1 := Lib.hid HS.out.k.size
  have hk0' : (k == 0) = false := by simpa using hk0
  clear hk0
  clear e0 e1 e2 e3 e4 e5 e6 e7 e8 e9
  obtain ⟨e0, e1, e2, e3, e4, e5, e6, e7, e8, e9, x10⟩ := f_cells (HS.out.keep ((Keep.refl Non _).alloc (.cells #[.int .i64 k, .int .i64 s] 61))).b
  go_wp2_with fail
  refine (new_ok F _ bs1 _ _ (HS.out.keep ((Keep.refl Non _).alloc (.cells #[.int .i64 k, .int .i64 s] 61))).r HV.out).mono ?_
  rintro e z2 ⟨g, v1, rfl, hg, hk0, hr1, hd0⟩
  have HBb := Lib.hid ((Blk.new z1 #[.int .i64 k, .int .i64 s] 61).keep hk0 (fun h => h))
  replace HS := Lib.hid ((HS.out.keep ((Keep.refl Non _).alloc (.cells #[.int .i64 k, .int .i64 s] 61))).keep hk0)
  have HD := Lib.hid hd0
  have HR1 := Lib.hid hr1
  have hg2 : z1.heap.size < g := by simp only [World.size_alloc] at hg; omega
  have hpg : z1.heap.size ≠ g := by omega
  have hwg : w.heap.size ≤ g := by have h1 := HZ1.out; omega
  generalize z1.heap.size = p at *
  clear x10 hk0 hd0 hr1 hg e0 e1 e2 e3 e4 e5 e6 e7 e8 e9 e10 q0 q1
  go_wp2_with fail
  refine (awake18 _).mono ?_
  rintro e z3 ⟨rfl, hk0⟩
  replace HS := Lib.hid (HS.out.keep hk0)
  replace HD := Lib.hid (HD.out.keep hk0 (fun h => h))
  replace HBb := Lib.hid (HBb.out.keep hk0 (fun h => h))
  replace HR1 := Lib.hid (HR1.out.keepN hk0)
  clear hk0
  have b0 : z3.cell? ⟨p, 0, none⟩ = some (.int .i64 k) := blk_c HBb.out 0 _ rfl
  have b1 : z3.cell? ⟨p, 1, none⟩ = some (.int .i64 s) := blk_c HBb.out 1 _ rfl
  go_upto_region 11 with fail
  have hb0 := un_nonneg b
  go_upto_region 12 with fail
  have hE : IntKind.u64.wrap (un b / 2 ^ s * 2 ^ s) = un ((b >>> s) <<< s) := by rw [shr_un, shl_un]
  rw [hE]
  clear hE hb0
  have hc0 := bn_nonneg cmd
  have hc1 := bn_lt cmd
  have HHV : Hid (∀ j, j < bs1.length → vBar (at1 ⟨0, 0⟩ bs1 j).k (at1 ⟨0, 0⟩ bs1 j).s = true) := fun j _ => vBar_at HV.out j
  have hk14 : k = 1 ∨ k = 2 ∨ k = 3 ∨ k = 4 := by have h1 := HKK.out; have h2 := HNZ.out; omega
  have HBY := Lib.hid (un_byte cmd)
  rcases hk14 with rfl | rfl | rfl | rfl
  · have HW := fun ws => Lib.hid (win_prog F v1 bs1 HV.out q hqn 1 s HX.out HNZ.out b cmd ws)
    have HWW := Lib.hid HW
    clear HW
    go_upto_region 14 with fail
    have hE2 : bits .and .u64 (un ((b >>> s) <<< s)) 4294967295 = un (baseB 1 s b) := by rw [and_low]; rfl
    rw [hE2]
    clear hE2
    obtain ⟨B, hB⟩ : ∃ B, B = (baseB 1 s b) := ⟨_, rfl⟩
    rw [← hB]
    have HB := Lib.hid hB
    clear hB
    have hB0 := un_nonneg B
    go_wp2_with fail
    refine (write_at g _ _ _ (16 + 4 * q) 4 (B &&& 0xFFFFFFFF#64) (by omega) (by omega) (and_low B) _ _ HD.out (by simp [wfm]; omega)).mono ?_
    rintro e z4 ⟨rfl, hk0, hd4⟩
    replace HD := Lib.hid hd4
    have HKK4 := Lib.hid (HS.out.k.trans hk0 (fun q hq e => by simp only [My.One] at e; omega))
    replace HBb := Lib.hid (HBb.out.keep hk0 (fun e => hpg e))
    replace HR1 := Lib.hid (HR1.out.keep hk0 (fun q hq _ e => hq.2 e))
    clear hk0 hd4 b0 b1
    have b0 : z4.cell? ⟨p, 0, none⟩ = some (.int .i64 1) := blk_c HBb.out 0 _ rfl
    have b1 : z4.cell? ⟨p, 1, none⟩ = some (.int .i64 s) := blk_c HBb.out 1 _ rfl
    go_wp2_with fail
    refine (write_at g _ _ _ 4 2 (cmd.setWidth 64) rfl rfl HBY.out _ _ HD.out rfl).mono ?_
    rintro e z6 ⟨rfl, hk0, hd4⟩
    replace HD : Hid (IsD 76 z6 g (progD (cfgP F v1 bs1) q 1 B (cmd.setWidth 64))) := hd4
    replace HKK4 := Lib.hid (HKK4.out.trans hk0 (fun q hq e => by simp only [My.One] at e; omega))
    replace HBb := Lib.hid (HBb.out.keep hk0 (fun e => hpg e))
    replace HR1 := Lib.hid (HR1.out.keep hk0 (fun q hq _ e => hq.2 e))
    clear hk0 hd4 b0 b1
    have b0 : z6.cell? ⟨p, 0, none⟩ = some (.int .i64 1) := blk_c HBb.out 0 _ rfl
    have b1 : z6.cell? ⟨p, 1, none⟩ = some (.int .i64 s) := blk_c HBb.out 1 _ rfl
    go_wp2_with fail
    refine (windows_any g (progD (cfgP F v1 bs1) q 1 B (cmd.setWidth 64)) bs1 _ HD.out (by rw [progD_sv, cfgP_sv]; exact HR1.out.mono (fun _ _ _ => trivial)) h6 HHV.out).mono ?_
    rintro e z7 ⟨lv, ws, rfl, hk0, hrw, hw9, hgd⟩
    have hgd' := HWW.out ws
    rw [← HB.out] at hgd'
    obtain ⟨hw1, hw2⟩ := hgd'.out hgd
    replace HKK4 := Lib.hid (HKK4.out.tr hk0)
    replace HBb := Lib.hid (HBb.out.keep hk0 (fun h => h))
    obtain ⟨A9, n9, c9, rfl⟩ : ∃ A9 n9 c9, lv = .slice A9 n9 c9 := by obtain ⟨A9, c9, h, _⟩ := hrw; exact ⟨A9, _, c9, h⟩
    have hn9 : n9 = ws.length := (RowE.reads encW_len (by omega) hrw).1
    subst hn9
    have HRW := Lib.hid hrw
    have HW1 := Lib.hid hw1
    have HW2 := Lib.hid hw2
    clear hk0 hrw hgd hgd' hw1 hw2 b0 b1
    have b1 : z7.cell? ⟨p, 1, none⟩ = some (.int .i64 s) := blk_c HBb.out 1 _ rfl
    go_wp2_with fail
    go_loop [15] (fun i => ∃ m : Nat, i = .int .i64 m ∧ m ≤ ws.length ∧ Hid (∀ j (h : j < ws.length), j < m → (ws[j]).idx ≠ (q : Int))) (fun i => ws.length - (intOf i).toNat)
    case atStart => exact ⟨0, rfl, Nat.zero_le _, fun j h hj => by omega⟩
    case round =>
      obtain ⟨m, rfl, hm, HM⟩ := hrel
      by_cases hlt : m < ws.length
      · obtain ⟨b9, o9, rfl, w0, w1, w2, w3, w4⟩ := wins_get HRW.out hlt
        have HX9 : Hid ((ws[m]).idx = (q : Int) → (ws[m]).base = un B ∧ (ws[m]).len = IntKind.u64.wrap (2 ^ s) ∧ (ws[m]).en = (bits .and .u8 (bn cmd) 1 != 0)) := fun h => by have h1 := HW1.out _ (List.getElem_mem hlt) h; simpa using h1
        have HM9 : Hid ((ws[m]).idx ≠ (q : Int) → ∀ j (h : j < ws.length), j < m + 1 → (ws[j]).idx ≠ (q : Int)) := fun h0 j h hj => by
          by_cases e : j = m
          · subst e; exact h0
          · exact HM.out j h (by omega)
        generalize ws[m] = x9 at *
        obtain ⟨ix, cl, ba, le, en⟩ := x9
        simp only at w0 w1 w2 w3 w4 HX9 HM9
        by_cases hi : ix = (q : Int)
        · subst hi
          obtain ⟨rfl, rfl, rfl⟩ := HX9.out rfl
          go_wp2_with fail
          go_quiet (fail)
          go_wp2
          go_ret
          exact ⟨by first | rfl | simp, HKK4.out.drewN _⟩
        · have hi' : (ix == (q : Int)) = false := by simpa using hi
          have HM10 := Lib.hid (HM9.out hi)
          clear hi
          go_wp2
          exact ⟨⟨m + 1, by go_num, by omega, HM10.out⟩, by simp [intOf]; omega⟩
      · exfalso
        obtain ⟨x, hx1, hx2⟩ := HW2.out
        obtain ⟨j, hj, rfl⟩ := List.getElem_of_mem hx1
        exact HM.out j hj (by omega) hx2
  · have HW := fun ws => Lib.hid (win_prog F v1 bs1 HV.out q hqn 2 s HX.out HNZ.out b cmd ws)
    have HWW := Lib.hid HW
    clear HW
    go_upto_region 14 with fail
    have hE2 : bits .and .u64 (un ((b >>> s) <<< s)) 4294967295 = un (baseB 2 s b) := by rw [and_low]; rfl
    rw [hE2]
    clear hE2
    obtain ⟨B, hB⟩ : ∃ B, B = (baseB 2 s b) := ⟨_, rfl⟩
    rw [← hB]
    have HB := Lib.hid hB
    clear hB
    have hB0 := un_nonneg B
    go_wp2_with fail
    refine (write_at g _ _ _ (16 + 4 * q) 4 (B &&& 0xFFFFFFFF#64) (by omega) (by omega) (and_low B) _ _ HD.out (by simp [wfm]; omega)).mono ?_
    rintro e z4 ⟨rfl, hk0, hd4⟩
    replace HD := Lib.hid hd4
    have HKK4 := Lib.hid (HS.out.k.trans hk0 (fun q hq e => by simp only [My.One] at e; omega))
    replace HBb := Lib.hid (HBb.out.keep hk0 (fun e => hpg e))
    replace HR1 := Lib.hid (HR1.out.keep hk0 (fun q hq _ e => hq.2 e))
    clear hk0 hd4 b0 b1
    have b0 : z4.cell? ⟨p, 0, none⟩ = some (.int .i64 2) := blk_c HBb.out 0 _ rfl
    have b1 : z4.cell? ⟨p, 1, none⟩ = some (.int .i64 s) := blk_c HBb.out 1 _ rfl
    go_wp2_with fail
    refine (write_at g _ _ _ 4 2 (cmd.setWidth 64) rfl rfl HBY.out _ _ HD.out rfl).mono ?_
    rintro e z6 ⟨rfl, hk0, hd4⟩
    replace HD : Hid (IsD 76 z6 g (progD (cfgP F v1 bs1) q 2 B (cmd.setWidth 64))) := hd4
    replace HKK4 := Lib.hid (HKK4.out.trans hk0 (fun q hq e => by simp only [My.One] at e; omega))
    replace HBb := Lib.hid (HBb.out.keep hk0 (fun e => hpg e))
    replace HR1 := Lib.hid (HR1.out.keep hk0 (fun q hq _ e => hq.2 e))
    clear hk0 hd4 b0 b1
    have b0 : z6.cell? ⟨p, 0, none⟩ = some (.int .i64 2) := blk_c HBb.out 0 _ rfl
    have b1 : z6.cell? ⟨p, 1, none⟩ = some (.int .i64 s) := blk_c HBb.out 1 _ rfl
    go_wp2_with fail
    refine (windows_any g (progD (cfgP F v1 bs1) q 2 B (cmd.setWidth 64)) bs1 _ HD.out (by rw [progD_sv, cfgP_sv]; exact HR1.out.mono (fun _ _ _ => trivial)) h6 HHV.out).mono ?_
    rintro e z7 ⟨lv, ws, rfl, hk0, hrw, hw9, hgd⟩
    have hgd' := HWW.out ws
    rw [← HB.out] at hgd'
    obtain ⟨hw1, hw2⟩ := hgd'.out hgd
    replace HKK4 := Lib.hid (HKK4.out.tr hk0)
    replace HBb := Lib.hid (HBb.out.keep hk0 (fun h => h))
    obtain ⟨A9, n9, c9, rfl⟩ : ∃ A9 n9 c9, lv = .slice A9 n9 c9 := by obtain ⟨A9, c9, h, _⟩ := hrw; exact ⟨A9, _, c9, h⟩
    have hn9 : n9 = ws.length := (RowE.reads encW_len (by omega) hrw).1
    subst hn9
    have HRW := Lib.hid hrw
    have HW1 := Lib.hid hw1
    have HW2 := Lib.hid hw2
    clear hk0 hrw hgd hgd' hw1 hw2 b0 b1
    have b1 : z7.cell? ⟨p, 1, none⟩ = some (.int .i64 s) := blk_c HBb.out 1 _ rfl
    go_wp2_with fail
    go_loop [15] (fun i => ∃ m : Nat, i = .int .i64 m ∧ m ≤ ws.length ∧ Hid (∀ j (h : j < ws.length), j < m → (ws[j]).idx ≠ (q : Int))) (fun i => ws.length - (intOf i).toNat)
    case atStart => exact ⟨0, rfl, Nat.zero_le _, fun j h hj => by omega⟩
    case round =>
      obtain ⟨m, rfl, hm, HM⟩ := hrel
      by_cases hlt : m < ws.length
      · obtain ⟨b9, o9, rfl, w0, w1, w2, w3, w4⟩ := wins_get HRW.out hlt
        have HX9 : Hid ((ws[m]).idx = (q : Int) → (ws[m]).base = un B ∧ (ws[m]).len = IntKind.u64.wrap (2 ^ s) ∧ (ws[m]).en = (bits .and .u8 (bn cmd) 2 != 0)) := fun h => by have h1 := HW1.out _ (List.getElem_mem hlt) h; simpa using h1
        have HM9 : Hid ((ws[m]).idx ≠ (q : Int) → ∀ j (h : j < ws.length), j < m + 1 → (ws[j]).idx ≠ (q : Int)) := fun h0 j h hj => by
          by_cases e : j = m
          · subst e; exact h0
          · exact HM.out j h (by omega)
        generalize ws[m] = x9 at *
        obtain ⟨ix, cl, ba, le, en⟩ := x9
        simp only at w0 w1 w2 w3 w4 HX9 HM9
        by_cases hi : ix = (q : Int)
        · subst hi
          obtain ⟨rfl, rfl, rfl⟩ := HX9.out rfl
          go_wp2_with fail
          go_quiet (fail)
          go_wp2
          go_ret
          exact ⟨by first | rfl | simp, HKK4.out.drewN _⟩
        · have hi' : (ix == (q : Int)) = false := by simpa using hi
          have HM10 := Lib.hid (HM9.out hi)
          clear hi
          go_wp2
          exact ⟨⟨m + 1, by go_num, by omega, HM10.out⟩, by simp [intOf]; omega⟩
      · exfalso
        obtain ⟨x, hx1, hx2⟩ := HW2.out
        obtain ⟨j, hj, rfl⟩ := List.getElem_of_mem hx1
        exact HM.out j hj (by omega) hx2
  · have HW := fun ws => Lib.hid (win_prog F v1 bs1 HV.out q hqn 3 s HX.out HNZ.out b cmd ws)
    have HWW := Lib.hid HW
    clear HW
    go_upto_region 14 with fail
    have hE2 : un ((b >>> s) <<< s) = un (baseB 3 s b) := rfl
    rw [hE2]
    clear hE2
    obtain ⟨B, hB⟩ : ∃ B, B = (baseB 3 s b) := ⟨_, rfl⟩
    rw [← hB]
    have HB := Lib.hid hB
    clear hB
    have hB0 := un_nonneg B
    go_wp2_with fail
    refine (write_at g _ _ _ (16 + 4 * q) 4 (B &&& 0xFFFFFFFF#64) (by omega) (by omega) (and_low B) _ _ HD.out (by simp [wfm]; omega)).mono ?_
    rintro e z4 ⟨rfl, hk0, hd4⟩
    replace HD := Lib.hid hd4
    have HKK4 := Lib.hid (HS.out.k.trans hk0 (fun q hq e => by simp only [My.One] at e; omega))
    replace HBb := Lib.hid (HBb.out.keep hk0 (fun e => hpg e))
    replace HR1 := Lib.hid (HR1.out.keep hk0 (fun q hq _ e => hq.2 e))
    clear hk0 hd4 b0 b1
    have b0 : z4.cell? ⟨p, 0, none⟩ = some (.int .i64 3) := blk_c HBb.out 0 _ rfl
    have b1 : z4.cell? ⟨p, 1, none⟩ = some (.int .i64 s) := blk_c HBb.out 1 _ rfl
    have hE3 : un B / 4294967296 = un (B >>> 32) := by have h := shr_un B 32; rw [show (2 : Int) ^ 32 = 4294967296 from rfl] at h; exact h
    have HE3 := Lib.hid hE3
    clear hE3
    go_wp2_with fail
    refine (write_at g _ _ _ (20 + 4 * q) 4 (B >>> 32) (by omega) (by omega) (by first | exact HE3.out | (have h := shr_un B 32; exact h)) _ _ HD.out (by simp [wfm]; omega)).mono ?_
    rintro e z5 ⟨rfl, hk0, hd4⟩
    replace HD := Lib.hid hd4
    replace HKK4 := Lib.hid (HKK4.out.trans hk0 (fun q hq e => by simp only [My.One] at e; omega))
    replace HBb := Lib.hid (HBb.out.keep hk0 (fun e => hpg e))
    replace HR1 := Lib.hid (HR1.out.keep hk0 (fun q hq _ e => hq.2 e))
    clear hk0 hd4 b0 b1
    have b0 : z5.cell? ⟨p, 0, none⟩ = some (.int .i64 3) := blk_c HBb.out 0 _ rfl
    have b1 : z5.cell? ⟨p, 1, none⟩ = some (.int .i64 s) := blk_c HBb.out 1 _ rfl
    go_wp2_with fail
    refine (write_at g _ _ _ 4 2 (cmd.setWidth 64) rfl rfl HBY.out _ _ HD.out rfl).mono ?_
    rintro e z6 ⟨rfl, hk0, hd4⟩
    replace HD : Hid (IsD 76 z6 g (progD (cfgP F v1 bs1) q 3 B (cmd.setWidth 64))) := hd4
    replace HKK4 := Lib.hid (HKK4.out.trans hk0 (fun q hq e => by simp only [My.One] at e; omega))
    replace HBb := Lib.hid (HBb.out.keep hk0 (fun e => hpg e))
    replace HR1 := Lib.hid (HR1.out.keep hk0 (fun q hq _ e => hq.2 e))
    clear hk0 hd4 b0 b1
    have b0 : z6.cell? ⟨p, 0, none⟩ = some (.int .i64 3) := blk_c HBb.out 0 _ rfl
    have b1 : z6.cell? ⟨p, 1, none⟩ = some (.int .i64 s) := blk_c HBb.out 1 _ rfl
    go_wp2_with fail
    refine (windows_any g (progD (cfgP F v1 bs1) q 3 B (cmd.setWidth 64)) bs1 _ HD.out (by rw [progD_sv, cfgP_sv]; exact HR1.out.mono (fun _ _ _ => trivial)) h6 HHV.out).mono ?_
    rintro e z7 ⟨lv, ws, rfl, hk0, hrw, hw9, hgd⟩
    have hgd' := HWW.out ws
    rw [← HB.out] at hgd'
    obtain ⟨hw1, hw2⟩ := hgd'.out hgd
    replace HKK4 := Lib.hid (HKK4.out.tr hk0)
    replace HBb := Lib.hid (HBb.out.keep hk0 (fun h => h))
    obtain ⟨A9, n9, c9, rfl⟩ : ∃ A9 n9 c9, lv = .slice A9 n9 c9 := by obtain ⟨A9, c9, h, _⟩ := hrw; exact ⟨A9, _, c9, h⟩
    have hn9 : n9 = ws.length := (RowE.reads encW_len (by omega) hrw).1
    subst hn9
    have HRW := Lib.hid hrw
    have HW1 := Lib.hid hw1
    have HW2 := Lib.hid hw2
    clear hk0 hrw hgd hgd' hw1 hw2 b0 b1
    have b1 : z7.cell? ⟨p, 1, none⟩ = some (.int .i64 s) := blk_c HBb.out 1 _ rfl
    go_wp2_with fail
    go_loop [15] (fun i => ∃ m : Nat, i = .int .i64 m ∧ m ≤ ws.length ∧ Hid (∀ j (h : j < ws.length), j < m → (ws[j]).idx ≠ (q : Int))) (fun i => ws.length - (intOf i).toNat)
    case atStart => exact ⟨0, rfl, Nat.zero_le _, fun j h hj => by omega⟩
    case round =>
      obtain ⟨m, rfl, hm, HM⟩ := hrel
      by_cases hlt : m < ws.length
      · obtain ⟨b9, o9, rfl, w0, w1, w2, w3, w4⟩ := wins_get HRW.out hlt
        have HX9 : Hid ((ws[m]).idx = (q : Int) → (ws[m]).base = un B ∧ (ws[m]).len = IntKind.u64.wrap (2 ^ s) ∧ (ws[m]).en = (bits .and .u8 (bn cmd) 2 != 0)) := fun h => by have h1 := HW1.out _ (List.getElem_mem hlt) h; simpa using h1
        have HM9 : Hid ((ws[m]).idx ≠ (q : Int) → ∀ j (h : j < ws.length), j < m + 1 → (ws[j]).idx ≠ (q : Int)) := fun h0 j h hj => by
          by_cases e : j = m
          · subst e; exact h0
          · exact HM.out j h (by omega)
        generalize ws[m] = x9 at *
        obtain ⟨ix, cl, ba, le, en⟩ := x9
        simp only at w0 w1 w2 w3 w4 HX9 HM9
        by_cases hi : ix = (q : Int)
        · subst hi
          obtain ⟨rfl, rfl, rfl⟩ := HX9.out rfl
          go_wp2_with fail
          go_quiet (fail)
          go_wp2
          go_ret
          exact ⟨by first | rfl | simp, HKK4.out.drewN _⟩
        · have hi' : (ix == (q : Int)) = false := by simpa using hi
          have HM10 := Lib.hid (HM9.out hi)
          clear hi
          go_wp2
          exact ⟨⟨m + 1, by go_num, by omega, HM10.out⟩, by simp [intOf]; omega⟩
      · exfalso
        obtain ⟨x, hx1, hx2⟩ := HW2.out
        obtain ⟨j, hj, rfl⟩ := List.getElem_of_mem hx1
        exact HM.out j hj (by omega) hx2
  · have HW := fun ws => Lib.hid (win_prog F v1 bs1 HV.out q hqn 4 s HX.out HNZ.out b cmd ws)
    have HWW := Lib.hid HW
    clear HW
    go_upto_region 14 with fail
    have hE2 : un ((b >>> s) <<< s) = un (baseB 4 s b) := rfl
    rw [hE2]
    clear hE2
    obtain ⟨B, hB⟩ : ∃ B, B = (baseB 4 s b) := ⟨_, rfl⟩
    rw [← hB]
    have HB := Lib.hid hB
    clear hB
    have hB0 := un_nonneg B
    go_wp2_with fail
    refine (write_at g _ _ _ (16 + 4 * q) 4 (B &&& 0xFFFFFFFF#64) (by omega) (by omega) (and_low B) _ _ HD.out (by simp [wfm]; omega)).mono ?_
    rintro e z4 ⟨rfl, hk0, hd4⟩
    replace HD := Lib.hid hd4
    have HKK4 := Lib.hid (HS.out.k.trans hk0 (fun q hq e => by simp only [My.One] at e; omega))
    replace HBb := Lib.hid (HBb.out.keep hk0 (fun e => hpg e))
    replace HR1 := Lib.hid (HR1.out.keep hk0 (fun q hq _ e => hq.2 e))
    clear hk0 hd4 b0 b1
    have b0 : z4.cell? ⟨p, 0, none⟩ = some (.int .i64 4) := blk_c HBb.out 0 _ rfl
    have b1 : z4.cell? ⟨p, 1, none⟩ = some (.int .i64 s) := blk_c HBb.out 1 _ rfl
    have hE3 : un B / 4294967296 = un (B >>> 32) := by have h := shr_un B 32; rw [show (2 : Int) ^ 32 = 4294967296 from rfl] at h; exact h
    have HE3 := Lib.hid hE3
    clear hE3
    go_wp2_with fail
    refine (write_at g _ _ _ (20 + 4 * q) 4 (B >>> 32) (by omega) (by omega) (by first | exact HE3.out | (have h := shr_un B 32; exact h)) _ _ HD.out (by simp [wfm]; omega)).mono ?_
    rintro e z5 ⟨rfl, hk0, hd4⟩
    replace HD := Lib.hid hd4
    replace HKK4 := Lib.hid (HKK4.out.trans hk0 (fun q hq e => by simp only [My.One] at e; omega))
    replace HBb := Lib.hid (HBb.out.keep hk0 (fun e => hpg e))
    replace HR1 := Lib.hid (HR1.out.keep hk0 (fun q hq _ e => hq.2 e))
    clear hk0 hd4 b0 b1
    have b0 : z5.cell? ⟨p, 0, none⟩ = some (.int .i64 4) := blk_c HBb.out 0 _ rfl
    have b1 : z5.cell? ⟨p, 1, none⟩ = some (.int .i64 s) := blk_c HBb.out 1 _ rfl
    go_wp2_with fail
    refine (write_at g _ _ _ 4 2 (cmd.setWidth 64) rfl rfl HBY.out _ _ HD.out rfl).mono ?_
    rintro e z6 ⟨rfl, hk0, hd4⟩
    replace HD : Hid (IsD 76 z6 g (progD (cfgP F v1 bs1) q 4 B (cmd.setWidth 64))) := hd4
    replace HKK4 := Lib.hid (HKK4.out.trans hk0 (fun q hq e => by simp only [My.One] at e; omega))
    replace HBb := Lib.hid (HBb.out.keep hk0 (fun e => hpg e))
    replace HR1 := Lib.hid (HR1.out.keep hk0 (fun q hq _ e => hq.2 e))
    clear hk0 hd4 b0 b1
    have b0 : z6.cell? ⟨p, 0, none⟩ = some (.int .i64 4) := blk_c HBb.out 0 _ rfl
    have b1 : z6.cell? ⟨p, 1, none⟩ = some (.int .i64 s) := blk_c HBb.out 1 _ rfl
    go_wp2_with fail
    refine (windows_any g (progD (cfgP F v1 bs1) q 4 B (cmd.setWidth 64)) bs1 _ HD.out (by rw [progD_sv, cfgP_sv]; exact HR1.out.mono (fun _ _ _ => trivial)) h6 HHV.out).mono ?_
    rintro e z7 ⟨lv, ws, rfl, hk0, hrw, hw9, hgd⟩
    have hgd' := HWW.out ws
    rw [← HB.out] at hgd'
    obtain ⟨hw1, hw2⟩ := hgd'.out hgd
    replace HKK4 := Lib.hid (HKK4.out.tr hk0)
    replace HBb := Lib.hid (HBb.out.keep hk0 (fun h => h))
    obtain ⟨A9, n9, c9, rfl⟩ : ∃ A9 n9 c9, lv = .slice A9 n9 c9 := by obtain ⟨A9, c9, h, _⟩ := hrw; exact ⟨A9, _, c9, h⟩
    have hn9 : n9 = ws.length := (RowE.reads encW_len (by omega) hrw).1
    subst hn9
    have HRW := Lib.hid hrw
    have HW1 := Lib.hid hw1
    have HW2 := Lib.hid hw2
    clear hk0 hrw hgd hgd' hw1 hw2 b0 b1
    have b1 : z7.cell? ⟨p, 1, none⟩ = some (.int .i64 s) := blk_c HBb.out 1 _ rfl
    go_wp2_with fail
    go_loop [15] (fun i => ∃ m : Nat, i = .int .i64 m ∧ m ≤ ws.length ∧ Hid (∀ j (h : j < ws.length), j < m → (ws[j]).idx ≠ (q : Int))) (fun i => ws.length - (intOf i).toNat)
    case atStart => exact ⟨0, rfl, Nat.zero_le _, fun j h hj => by omega⟩
    case round =>
      obtain ⟨m, rfl, hm, HM⟩ := hrel
      by_cases hlt : m < ws.length
      · obtain ⟨b9, o9, rfl, w0, w1, w2, w3, w4⟩ := wins_get HRW.out hlt
        have HX9 : Hid ((ws[m]).idx = (q : Int) → (ws[m]).base = un B ∧ (ws[m]).len = IntKind.u64.wrap (2 ^ s) ∧ (ws[m]).en = (bits .and .u8 (bn cmd) 2 != 0)) := fun h => by have h1 := HW1.out _ (List.getElem_mem hlt) h; simpa using h1
        have HM9 : Hid ((ws[m]).idx ≠ (q : Int) → ∀ j (h : j < ws.length), j < m + 1 → (ws[j]).idx ≠ (q : Int)) := fun h0 j h hj => by
          by_cases e : j = m
          · subst e; exact h0
          · exact HM.out j h (by omega)
        generalize ws[m] = x9 at *
        obtain ⟨ix, cl, ba, le, en⟩ := x9
        simp only at w0 w1 w2 w3 w4 HX9 HM9
        by_cases hi : ix = (q : Int)
        · subst hi
          obtain ⟨rfl, rfl, rfl⟩ := HX9.out rfl
          go_wp2_with fail
          go_quiet (fail)
          go_wp2
          go_ret
          exact ⟨by first | rfl | simp, HKK4.out.drewN _⟩
        · have hi' : (ix == (q : Int)) = false := by simpa using hi
          have HM10 := Lib.hid (HM9.out hi)
          clear hi
          go_wp2
          exact ⟨⟨m + 1, by go_num, by omega, HM10.out⟩, by simp [intOf]; omega⟩
      · exfalso
        obtain ⟨x, hx1, hx2⟩ := HW2.out
        obtain ⟨j, hj, rfl⟩ := List.getElem_of_mem hx1
        exact HM.out j hj (by omega) hx2
end Go.Proofs.Ytolbecinjajejaa
