/- Probe: what it finds is the registers of the function. -/
import Derived.Test.YtolbecinjajejaaDoorQ7
import Derived.Test.YtolbecinjajejaaDoorG2
import Derived.IntWalk
import Derived.Laws.MakeOwn
import Derived.Deep.DeepCutAuto
import Derived.Deep.CutBlock
set_option linter.unusedVariables false
set_option linter.unusedSimpArgs false
namespace Go.Proofs.YtolbecinjajejaaDoor
open Go.RowKit Go.My

/-- The registers that are made: element j reads as h j. -/
def PrB (w : World) (b n : Nat) (h : Nat → Br) : Prop :=
  ∃ cs : Array Value, Blk w b cs 67 ∧ cs.size = n * 2 ∧ ∀ j, j < n → cs[j * 2]? = some (.int .i64 (h j).k) ∧ cs[j * 2 + 1]? = some (.int .i64 (h j).s)
section
variable {w w1 : World} {b n : Nat} {h : Nat → Br}
theorem PrB.lt (p : PrB w b n h) : b < w.heap.size := by obtain ⟨cs, hb, _⟩ := p; exact hb.lt
theorem PrB.free (p : PrB w b n h) (i : Nat) : w.frozen? ⟨b, i, none⟩ = false := by obtain ⟨cs, hb, _⟩ := p; exact hb.free i
theorem PrB.keep {S : Nat → Prop} (p : PrB w b n h) (k : Keep S w w1) (hn : ¬ S b) : PrB w1 b n h := by
  obtain ⟨cs, hb, p⟩ := p; exact ⟨cs, hb.keep k hn, p⟩
theorem PrB.cells (p : PrB w b n h) {i : Nat} (hi : i < n) : w.cell? ⟨b, i * 2, none⟩ = some (.int .i64 (h i).k) ∧ w.cell? ⟨b, i * 2 + 1, none⟩ = some (.int .i64 (h i).s) := by
  obtain ⟨cs, hb, hs, p⟩ := p; rw [hb.cell, hb.cell]; exact p i hi
theorem PrB.ext {h' : Nat → Br} (p : PrB w b n h) (e : ∀ j, j < n → h' j = h j) : PrB w b n h' := by
  obtain ⟨cs, hb, hs, p⟩ := p; exact ⟨cs, hb, hs, fun j hj => by rw [e j hj]; exact p j hj⟩
theorem PrB.put (p : PrB w b n h) {i : Nat} (hi : i < n) (x : Br) :
    PrB ((w.setCell ⟨b, i * 2, none⟩ (.int .i64 x.k)).setCell ⟨b, i * 2 + 1, none⟩ (.int .i64 x.s)) b n (fun j => if j = i then x else h j) := by
  obtain ⟨cs, hb, hs, p⟩ := p
  refine ⟨_, (hb.set _ _).set _ _, by simpa using hs, fun j hj => ?_⟩
  have := p j hj
  simp only [Array.getElem?_setIfInBounds, Array.size_setIfInBounds]
  by_cases e : j = i
  · subst e
    simp only [if_pos rfl, show ¬ j * 2 + 1 = j * 2 by omega, if_false, show j * 2 < cs.size by omega, show j * 2 + 1 < cs.size by omega, if_true, and_self]
  · simp only [show ¬ i * 2 + 1 = j * 2 by omega, show ¬ i * 2 = j * 2 by omega, show ¬ i * 2 + 1 = j * 2 + 1 by omega, show ¬ i * 2 = j * 2 + 1 by omega, if_false, e]
    exact this
theorem PrB.row {O : Nat → Prop} (p : PrB w b n h) (hO : O b) (hm : n ≤ maxLen) : RowE encB 2 O w (.slice (some ⟨b, 0, none⟩) n n) ((List.range n).map h) := by
  obtain ⟨cs, hb, hs, p⟩ := p
  refine ⟨some ⟨b, 0, none⟩, n, by simp, by simp, by simpa using hm, .inr ⟨b, 0, rfl, hO, hb.lt, fun i hi => ?_⟩⟩
  have hi' : i < n := by simpa using hi
  refine ⟨encB (h i), rfl, by simp, fun j hj => ?_⟩
  have := p i hi'
  rw [hb.cell, Nat.zero_add]
  rcases (by omega : j = 0 ∨ j = 1) with rfl | rfl
  · exact this.1
  · exact this.2
end
/-- What Probe has found when it stands at register i. -/
def prH (bs : List Br) (i j : Nat) : Br := if j < i then at1 ⟨0, 0⟩ bs j else ⟨0, 0⟩
theorem prH_next (bs : List Br) (i j : Nat) : (if j = i then at1 ⟨0, 0⟩ bs i else prH bs i j) = prH bs (i + 1) j := by
  unfold prH
  by_cases e : j = i
  · subst e; simp
  · by_cases h : j < i
    · simp [e, h, show j < i + 1 by omega]
    · simp [e, h, show ¬ j < i + 1 by omega]
theorem prH_none (bs : List Br) (i : Nat) (h : at1 (⟨0, 0⟩ : Br) bs i = ⟨0, 0⟩) (j : Nat) : prH bs i j = prH bs (i + 1) j := by
  rw [← prH_next]
  by_cases e : j = i
  · subst e; rw [if_pos rfl, h]; simp [prH]
  · rw [if_neg e]
theorem wide_word (x y : BitVec 64) : bits .or .u64 (bits .andNot .u64 (un x) 15) (IntKind.u64.wrap (un y * 4294967296)) = un ((x &&& ~~~15#64) ||| (y <<< 32)) := by
  have h : IntKind.u64.wrap (un y * 4294967296) = un (y <<< 32) := by
    rw [IntKind.wrap_u64]
    unfold un
    rw [BitVec.toNat_shiftLeft, Nat.shiftLeft_eq]
    simp
  rw [show (15 : Int) = un 15#64 from rfl, bits_andNot, h, bits_or]
theorem tz_at (X : Int) (x : BitVec 64) (k : Nat) (w : World) (hX : X = Go.Proofs.YtolbecinjajejaaDoor.un x) (hl : LowB x k) (ht : Tab w) :
    Calls Tryd.prog 38 #[.int .u64 X] w fun e w' => e = .returned (.int .i64 k) ∧ w = w' := by
  subst hX
  exact tz_any x k w hl ht
theorem sized_at (g : Nat) (I V : Int) (i : Nat) (hI : I = i) (d : Dv) (w : World) (h : IsD 85 w g d) (hi : i < 8) (hV : Go.Proofs.YtolbecinjajejaaDoor.un (sizV d (16 + 4 * i)) = V) :
    Calls Tryd.prog 51 #[.pointer (some ⟨g, 0, none⟩), .int .i64 I] w fun e w' => e = .returned (.int .u64 V) ∧ Keep (My.One g) w w' ∧ IsD 85 w' g d := by
  subst hI hV
  exact sized_any g i d w h hi

theorem cfgP_f (f : Fh) (v : Value) (bs : List Br) : (cfgP f v bs).f = f := by
  unfold cfgP
  cases f.bridge
  · simp only [Bool.false_eq_true, if_false]; exact Dv.bars_f _ _ _
  · simp only [if_true]
    unfold Dv.bridge
    cases f.pref <;> exact Dv.bars_f _ _ _
theorem made_prB (w : World) (bs : List Br) (n : Nat) : PrB (w.alloc (.cells (madeCells #[.int .i64 0, .int .i64 0] (n * 2)) 67)) w.heap.size n (prH bs 0) := by
  refine ⟨_, Blk.new _ _ _, size_madeCells _ _, fun j hj => ?_⟩
  have e0 : (j * 2) % 2 = 0 := by omega
  have e1 : (j * 2 + 1) % 2 = 1 := by omega
  constructor
  · rw [Array.getElem?_eq_getElem (by rw [size_madeCells]; omega)]
    simp [madeCells, prH]
  · rw [Array.getElem?_eq_getElem (by rw [size_madeCells]; omega)]
    simp [madeCells, prH, e1]
theorem make_run (w : World) (n : Nat) (hn : n ≤ 6) : (Instr.makeSlice 48 (.int .i64 n) (.int .i64 n)).run Tryd.prog w = .ok (.slice (some ⟨w.heap.size, 0, none⟩) n n) (w.alloc (.cells (madeCells #[.int .i64 0, .int .i64 0] (n * 2)) 67)) := by
  obtain ⟨i0, hi0, hz0, hz1, hz2⟩ := info_parts info61
  have h := run_make (P := Tryd.prog) w 48 67 i0 _ Tryd.underlying48 hi0 hz0 .i64 .i64 n n (by omega) (by omega) (by rw [hz2]; omega) (by omega)
  rw [hz1] at h
  simpa [Value.cells] using h
/-- What the walk of Probe carries. -/
structure PrS (w : World) (g b n : Nat) (d : Dv) (bs : List Br) (i : Nat) (wr : World) : Prop where
  k : Keep (My.One g) w wr
  hd : IsD 85 wr g d
  hp : PrB wr b n (prH bs i)
  ht : Tab wr
  ne : b ≠ g ∧ w.heap.size ≤ b ∧ g ≠ 0 ∧ 0 < w.heap.size

section
variable {w wr w1 : World} {g b n : Nat} {d : Dv} {bs : List Br} {i : Nat}
theorem PrS.sized (h : PrS w g b n d bs i wr) (k : Keep (My.One g) wr w1) (hd : IsD 85 w1 g d) : PrS w g b n d bs i w1 :=
  ⟨h.k.tr k, hd, h.hp.keep k (fun e => h.ne.1 e), h.ht.keep k (fun e => h.ne.2.2.1 e.symm), h.ne⟩
theorem PrS.put (h : PrS w g b n d bs i wr) (hi : i < n) (x : Br) (hx : at1 ⟨0, 0⟩ bs i = x) :
    PrS w g b n d bs (i + 1) ((wr.setCell ⟨b, i * 2, none⟩ (.int .i64 x.k)).setCell ⟨b, i * 2 + 1, none⟩ (.int .i64 x.s)) := by
  subst hx
  have k : Keep (My.One b) wr ((wr.setCell ⟨b, i * 2, none⟩ (.int .i64 (at1 (⟨0, 0⟩ : Br) bs i).k)).setCell ⟨b, i * 2 + 1, none⟩ (.int .i64 (at1 (⟨0, 0⟩ : Br) bs i).s)) := ((Keep.refl _ _).setOne _ _).setOne _ _
  have hn := h.ne
  exact ⟨h.k.trans k (fun q hq e => by simp only [My.One] at e; omega), h.hd.keep k (fun e => hn.1 e.symm), (h.hp.put hi _).ext (fun j _ => (prH_next bs i j).symm), h.ht.keep k (fun e => by simp only [My.One] at e; omega), hn⟩
theorem PrS.skip (h : PrS w g b n d bs i wr) (hx : at1 (⟨0, 0⟩ : Br) bs i = ⟨0, 0⟩) : PrS w g b n d bs (i + 1) wr :=
  ⟨h.k, h.hd, h.hp.ext (fun j _ => (prH_none bs i hx j).symm), h.ht, h.ne⟩
end
theorem Half.bit {x : BitVec 64} {k : Int} {s : Nat} (h : Half x k s) (hs : s < 32) : x.getLsbD s = true := by rw [h s (by omega)]; simp [hs]
theorem at1_far {α : Type} (d : α) (xs : List α) (k : Nat) (h : xs.length ≤ k) : at1 d xs k = d := by simp [at1, h]

set_option maxHeartbeats 8000000 in
set_option maxRecDepth 100000 in
theorem probe_any (g : Nat) (f : Fh) (v : Value) (bs : List Br) (d : Dv) (w : World) (h : IsD 85 w g d) (hv : vFn f bs = true) (hs : Stays (cfgP f v bs) d) (ht : Tab w) (hg : g ≠ 0) :
    Calls Tryd.prog 32 #[.pointer (some ⟨g, 0, none⟩)] w fun e w' => ∃ b : Nat, e = .returned (.slice (some ⟨b, 0, none⟩) (cntB f.bridge).toNat (cntB f.bridge).toNat) ∧ Keep (My.One g) w w' ∧ IsD 85 w' g d ∧ w.heap.size ≤ b ∧ PrB w' b (cntB f.bridge).toNat (prH bs (cntB f.bridge).toNat) := by
  have HD := Lib.hid h
  have HT := Lib.hid ht
  clear h ht
  have c0 := HD.out.cf (i := 0) (by omega)
  have c1 := HD.out.cf (i := 1) (by omega)
  have c2 := HD.out.cf (i := 2) (by omega)
  have c3 := HD.out.cf (i := 3) (by omega)
  have c4 := HD.out.cf (i := 4) (by omega)
  have c5 := HD.out.cf (i := 5) (by omega)
  have c6 := HD.out.cf (i := 6) (by omega)
  have c7 := HD.out.cf (i := 7) (by omega)
  have c8 := HD.out.cf (i := 8) (by omega)
  have c9 := HD.out.cf (i := 9) (by omega)
  have c10 := HD.out.cf (i := 10) (by omega)
  simp only [fhL, List.getElem?_toArray, List.getElem?_cons_zero, List.getElem?_cons_succ] at c0 c1 c2 c3 c4 c5 c6 c7 c8 c9 c10
  go_enter Tryd.func32, Tryd.ntmps32
  go_wp2_with fail
  refine (barCount_any d.f d.sv _).mono ?_
  rintro e w1 ⟨rfl, hk⟩
  have hcn : (if d.f.bridge then (2 : Int) else 6) = cntB f.bridge := by rw [hs.1, cfgP_f]; rfl
  rw [hcn]
  obtain ⟨n, hn, hn6⟩ : ∃ n : Nat, cntB f.bridge = n ∧ (n = 2 ∨ n = 6) := by
    cases f.bridge
    · exact ⟨6, rfl, .inr rfl⟩
    · exact ⟨2, rfl, .inl rfl⟩
  rw [hn]
  have HN := Lib.hid hn
  clear hcn hn
  have hw0 : w.heap.size ≤ w1.heap.size := hk.size
  have h0w : 0 < w.heap.size := HT.out.1
  have HK1 := Lib.hid hk
  replace HD := Lib.hid (HD.out.keep hk (fun h => h))
  replace HT := Lib.hid (HT.out.keep hk (fun h => h))
  clear hk c0 c1 c2 c3 c4 c5 c6 c7 c8 c9 c10
  have hrun := make_run w1 n (by omega)
  have HS0 : Hid (PrS w g w1.heap.size n d bs 0 (w1.alloc (.cells (madeCells #[.int .i64 0, .int .i64 0] (n * 2)) 67))) :=
    ⟨(HK1.out.any).alloc _, HD.out.keep ((Keep.refl Non _).alloc _) (fun h => h), made_prB _ _ _, HT.out.keep ((Keep.refl Non _).alloc _) (fun h => h), by have := HD.out.lt; exact ⟨by omega, hw0, hg, h0w⟩⟩
  clear HD HT HK1
  go_wp2_with fail
  clear hrun
  generalize w1.heap.size = b at *
  go_loopw [4] (fun i wr => ∃ k : Nat, i = .int .i64 k ∧ k ≤ n ∧ Hid (∀ p, p + 1 = k → dbl (at1 ⟨0, 0⟩ bs p).k = false) ∧ Hid (PrS w g b n d bs k wr)) (fun i _ => n - (intOf i).toNat)
  case atStart => exact ⟨0, rfl, Nat.zero_le _, Lib.hid (fun p h => by omega), HS0.out⟩
  case round =>
    clear HS0
    obtain ⟨k, rfl, hk, HP, HS⟩ := hrel
    by_cases hlt : k < n
    · have hsz : sizV d (16 + 4 * k) = sizV (cfgP f v bs) (16 + 4 * k) := siz_stays hs _
      have hvb := vBar_at hv k
      by_cases hq : k < bs.length
      · obtain ⟨kk, s, hx⟩ : ∃ kk s, at1 (⟨0, 0⟩ : Br) bs k = ⟨kk, s⟩ := ⟨_, _, rfl⟩
        rw [hx] at hvb
        obtain ⟨hs0, hs1, hkk⟩ := vBar_range hvb
        obtain ⟨s', rfl⟩ := Int.eq_ofNat_of_zero_le hs0
        rcases hkk with rfl | rfl | rfl | rfl | rfl
        · have hs' : s' = 0 := by simp [vBar] at hvb; omega
          subst hs'
          clear hvb hs0 hs1
          have hz : un (sizV d (16 + 4 * k)) = 0 := by rw [hsz, siz_none f v bs k (by rw [HN.out]; omega) (by rw [hx]) HP.out]; rfl
          have HA := Lib.hid hx
          have HZ := Lib.hid hz
          clear hz hsz hx
          go_wp2_with fail
          refine (sized_at g _ 0 k rfl d _ HS.out.hd (by omega) HZ.out).mono ?_
          rintro e z ⟨rfl, hk1, hd1⟩
          replace HS := Lib.hid ((HS.out.sized hk1 hd1).skip HA.out)
          clear hk1 hd1
          go_wp2
          exact ⟨⟨k + 1, by go_num, by omega, Lib.hid (fun p hp => by obtain rfl : p = k := (by omega); rw [HA.out]; rfl), HS.out⟩, by simp [intOf]; omega⟩
        · have hh : Half (sizV d (16 + 4 * k)) 1 s' := by rw [hsz]; exact siz_own f v bs hv k hq 1 s' hx (by omega)
          have hr : 2 ≤ s' ∧ s' ≤ 8 := by simp [vBar] at hvb; omega
          have hl := low_io hh hr.1 hr.2
          have t1 : (bits .and .u64 (un (sizV d (16 + 4 * k))) 1 != 0) = true := by rw [test_one]; simp [half_one hh hr.1]
          have t0 : (un (sizV d (16 + 4 * k)) == 0) = false := by
            rw [un_eq0]
            have := bit_ne0 (hh.bit (by omega))
            simpa using this
          generalize hXX : sizV d (16 + 4 * k) = x at *
          have HL := Lib.hid hl
          have HX := Lib.hid hXX
          have HA := Lib.hid hx
          clear hh hl hXX hsz hx hvb hs0 hs1
          go_wp2_with fail
          refine (sized_at g _ (un x) k rfl d _ HS.out.hd (by omega) (by rw [HX.out])).mono ?_
          rintro e z ⟨rfl, hk1, hd1⟩
          replace HS := Lib.hid (HS.out.sized hk1 hd1)
          clear hk1 hd1
          go_wp2_with fail
          refine (tz_at _ _ s' _ (bits_andNot x 1#64) HL.out HS.out.ht).mono ?_
          rintro e z1 ⟨rfl, rfl⟩
          have HS1 := Lib.hid (HS.out.put hlt ⟨1, s'⟩ HA.out)
          obtain ⟨q0, q1⟩ := HS.out.hp.cells hlt
          have HF0 := HS.out.hp.free (k * 2)
          have HF1 := HS.out.hp.free (k * 2 + 1)
          go_wp2
          exact ⟨⟨k + 1, by go_num, by omega, Lib.hid (fun p hp => by obtain rfl : p = k := (by omega); rw [HA.out]; rfl), HS1.out⟩, by simp [intOf]; omega⟩
        · have hh : Half (sizV d (16 + 4 * k)) 2 s' := by rw [hsz]; exact siz_own f v bs hv k hq 2 s' hx (by omega)
          have hr : 4 ≤ s' ∧ s' ≤ 31 := by simp [vBar] at hvb; omega
          have hl := low_mem hh hr.1 hr.2
          have t1 : (bits .and .u64 (un (sizV d (16 + 4 * k))) 1 != 0) = false := by rw [test_one]; simp [half_one hh (by omega)]
          have t4 : (bits .and .u64 (un (sizV d (16 + 4 * k))) 4 == 0) = true := by rw [test_four]; simp [half_four hh (by omega)]
          have t0 : (un (sizV d (16 + 4 * k)) == 0) = false := by
            rw [un_eq0]
            have := bit_ne0 (hh.bit (by omega))
            simpa using this
          generalize hXX : sizV d (16 + 4 * k) = x at *
          have HL := Lib.hid hl
          have HX := Lib.hid hXX
          have HA := Lib.hid hx
          clear hh hl hXX hsz hx hvb hs0 hs1
          go_wp2_with fail
          refine (sized_at g _ (un x) k rfl d _ HS.out.hd (by omega) (by rw [HX.out])).mono ?_
          rintro e z ⟨rfl, hk1, hd1⟩
          replace HS := Lib.hid (HS.out.sized hk1 hd1)
          clear hk1 hd1
          go_wp2_with fail
          refine (tz_at _ _ s' _ rfl HL.out HS.out.ht).mono ?_
          rintro e z1 ⟨rfl, rfl⟩
          have HS1 := Lib.hid (HS.out.put hlt ⟨2, s'⟩ HA.out)
          obtain ⟨q0, q1⟩ := HS.out.hp.cells hlt
          have HF0 := HS.out.hp.free (k * 2)
          have HF1 := HS.out.hp.free (k * 2 + 1)
          go_wp2
          exact ⟨⟨k + 1, by go_num, by omega, Lib.hid (fun p hp => by obtain rfl : p = k := (by omega); rw [HA.out]; rfl), HS1.out⟩, by simp [intOf]; omega⟩
        · have hh : Half (sizV d (16 + 4 * k)) 3 s' := by rw [hsz]; exact siz_own f v bs hv k hq 3 s' hx (by omega)
          have hr : 4 ≤ s' ∧ s' ≤ 40 := by simp [vBar] at hvb; omega
          have h4 : ¬ (sizV d (16 + 4 * k) &&& 4#64 = 0#64) := by rw [half_four hh (by omega)]; omega
          have t1 : (bits .and .u64 (un (sizV d (16 + 4 * k))) 1 != 0) = false := by rw [test_one]; simp [half_one hh (by omega)]
          have t4 : (bits .and .u64 (un (sizV d (16 + 4 * k))) 4 == 0) = false := by rw [test_four]; simpa using h4
          have t12 : (bits .and .u64 (un (sizV d (16 + 4 * k))) 12 == 12) = false := by rw [test_twelve]; simp [half_twelve hh (by omega) (by omega)]
          have t0 : (un (sizV d (16 + 4 * k)) == 0) = false := by
            rw [un_eq0]
            have : sizV d (16 + 4 * k) ≠ 0#64 := by intro e; rw [e] at h4; exact h4 (by rfl)
            simpa using this
          have hw := wide_at hv k (by rw [hx]; rfl)
          have hcl := cnt_le hv
          rw [HN.out] at hcl
          have hx1 : at1 (⟨0, 0⟩ : Br) bs (k + 1) = ⟨0, 0⟩ := by
            have h1 := vBar_at hv (k + 1)
            obtain ⟨k1, s1, e1⟩ : ∃ k1 s1, at1 (⟨0, 0⟩ : Br) bs (k + 1) = ⟨k1, s1⟩ := ⟨_, _, rfl⟩
            have h2 := hw.2
            rw [e1] at h1 h2 ⊢
            simp only at h2
            subst h2
            simp [vBar] at h1
            rw [h1]
          have hy : ∀ i, i < 64 → (sizV d (16 + 4 * (k + 1))).getLsbD i = (decide (i < 32) && decide (s' ≤ 32 + i)) := by
            rw [siz_stays hs (16 + 4 * (k + 1))]
            exact siz_high f v bs hv k hq 3 s' hx (by rfl)
          have hl := low_wide hh (by omega) hy hr.1 hr.2
          generalize hXX : sizV d (16 + 4 * k) = x at *
          generalize hYY : sizV d (16 + 4 * (k + 1)) = y at *
          have HL := Lib.hid hl
          have HX := Lib.hid hXX
          have HY := Lib.hid hYY
          have HA := Lib.hid hx
          have HB := Lib.hid hx1
          have hk1n : k + 1 < n := by omega
          clear hh hl hXX hYY hsz hx hx1 hvb hs0 hs1 hy h4 hw hcl
          go_wp2_with fail
          refine (sized_at g _ (un x) k rfl d _ HS.out.hd (by omega) (by rw [HX.out])).mono ?_
          rintro e z ⟨rfl, hk1, hd1⟩
          replace HS := Lib.hid (HS.out.sized hk1 hd1)
          clear hk1 hd1
          go_wp2_with fail
          refine (sized_at g _ (un y) (k + 1) (by omega) d _ HS.out.hd (by omega) (by rw [HY.out])).mono ?_
          rintro e z1 ⟨rfl, hk1, hd1⟩
          replace HS := Lib.hid (HS.out.sized hk1 hd1)
          clear hk1 hd1
          go_wp2_with fail
          refine (tz_at _ _ s' _ (wide_word x y) HL.out HS.out.ht).mono ?_
          rintro e z2 ⟨rfl, rfl⟩
          have HS1 := Lib.hid ((HS.out.put hlt ⟨3, s'⟩ HA.out).skip HB.out)
          obtain ⟨q0, q1⟩ := HS.out.hp.cells hlt
          have HF0 := HS.out.hp.free (k * 2)
          have HF1 := HS.out.hp.free (k * 2 + 1)
          go_wp2
          exact ⟨⟨k + 2, by go_num, by omega, Lib.hid (fun p hp => by obtain rfl : p = k + 1 := (by omega); rw [HB.out]; rfl), HS1.out⟩, by simp [intOf]; omega⟩
        · have hh : Half (sizV d (16 + 4 * k)) 4 s' := by rw [hsz]; exact siz_own f v bs hv k hq 4 s' hx (by omega)
          have hr : 4 ≤ s' ∧ s' ≤ 40 := by simp [vBar] at hvb; omega
          have h4 : ¬ (sizV d (16 + 4 * k) &&& 4#64 = 0#64) := by rw [half_four hh (by omega)]; omega
          have t1 : (bits .and .u64 (un (sizV d (16 + 4 * k))) 1 != 0) = false := by rw [test_one]; simp [half_one hh (by omega)]
          have t4 : (bits .and .u64 (un (sizV d (16 + 4 * k))) 4 == 0) = false := by rw [test_four]; simpa using h4
          have t12 : (bits .and .u64 (un (sizV d (16 + 4 * k))) 12 == 12) = true := by rw [test_twelve]; simp [half_twelve hh (by omega) (by omega)]
          have t0 : (un (sizV d (16 + 4 * k)) == 0) = false := by
            rw [un_eq0]
            have : sizV d (16 + 4 * k) ≠ 0#64 := by intro e; rw [e] at h4; exact h4 (by rfl)
            simpa using this
          have hw := wide_at hv k (by rw [hx]; rfl)
          have hcl := cnt_le hv
          rw [HN.out] at hcl
          have hx1 : at1 (⟨0, 0⟩ : Br) bs (k + 1) = ⟨0, 0⟩ := by
            have h1 := vBar_at hv (k + 1)
            obtain ⟨k1, s1, e1⟩ : ∃ k1 s1, at1 (⟨0, 0⟩ : Br) bs (k + 1) = ⟨k1, s1⟩ := ⟨_, _, rfl⟩
            have h2 := hw.2
            rw [e1] at h1 h2 ⊢
            simp only at h2
            subst h2
            simp [vBar] at h1
            rw [h1]
          have hy : ∀ i, i < 64 → (sizV d (16 + 4 * (k + 1))).getLsbD i = (decide (i < 32) && decide (s' ≤ 32 + i)) := by
            rw [siz_stays hs (16 + 4 * (k + 1))]
            exact siz_high f v bs hv k hq 4 s' hx (by rfl)
          have hl := low_wide hh (by omega) hy hr.1 hr.2
          generalize hXX : sizV d (16 + 4 * k) = x at *
          generalize hYY : sizV d (16 + 4 * (k + 1)) = y at *
          have HL := Lib.hid hl
          have HX := Lib.hid hXX
          have HY := Lib.hid hYY
          have HA := Lib.hid hx
          have HB := Lib.hid hx1
          have hk1n : k + 1 < n := by omega
          clear hh hl hXX hYY hsz hx hx1 hvb hs0 hs1 hy h4 hw hcl
          go_wp2_with fail
          refine (sized_at g _ (un x) k rfl d _ HS.out.hd (by omega) (by rw [HX.out])).mono ?_
          rintro e z ⟨rfl, hk1, hd1⟩
          replace HS := Lib.hid (HS.out.sized hk1 hd1)
          clear hk1 hd1
          go_wp2_with fail
          refine (sized_at g _ (un y) (k + 1) (by omega) d _ HS.out.hd (by omega) (by rw [HY.out])).mono ?_
          rintro e z1 ⟨rfl, hk1, hd1⟩
          replace HS := Lib.hid (HS.out.sized hk1 hd1)
          clear hk1 hd1
          go_wp2_with fail
          refine (tz_at _ _ s' _ (wide_word x y) HL.out HS.out.ht).mono ?_
          rintro e z2 ⟨rfl, rfl⟩
          have HS1 := Lib.hid ((HS.out.put hlt ⟨4, s'⟩ HA.out).skip HB.out)
          obtain ⟨q0, q1⟩ := HS.out.hp.cells hlt
          have HF0 := HS.out.hp.free (k * 2)
          have HF1 := HS.out.hp.free (k * 2 + 1)
          go_wp2
          exact ⟨⟨k + 2, by go_num, by omega, Lib.hid (fun p hp => by obtain rfl : p = k + 1 := (by omega); rw [HB.out]; rfl), HS1.out⟩, by simp [intOf]; omega⟩
      · have hx : at1 (⟨0, 0⟩ : Br) bs k = ⟨0, 0⟩ := at1_far _ _ _ (by omega)
        clear hvb
        have hz : un (sizV d (16 + 4 * k)) = 0 := by rw [hsz, siz_none f v bs k (by rw [HN.out]; omega) (by rw [hx]) HP.out]; rfl
        have HA := Lib.hid hx
        have HZ := Lib.hid hz
        clear hz hsz hx
        go_wp2_with fail
        refine (sized_at g _ 0 k rfl d _ HS.out.hd (by omega) HZ.out).mono ?_
        rintro e z ⟨rfl, hk1, hd1⟩
        replace HS := Lib.hid ((HS.out.sized hk1 hd1).skip HA.out)
        clear hk1 hd1
        go_wp2
        exact ⟨⟨k + 1, by go_num, by omega, Lib.hid (fun p hp => by obtain rfl : p = k := (by omega); rw [HA.out]; rfl), HS.out⟩, by simp [intOf]; omega⟩
    · obtain rfl : k = n := by omega
      go_wp2
      go_ret
      rw [HN.out]
      exact ⟨b, rfl, HS.out.k, HS.out.hd, HS.out.ne.2.1, HS.out.hp⟩
end Go.Proofs.YtolbecinjajejaaDoor
