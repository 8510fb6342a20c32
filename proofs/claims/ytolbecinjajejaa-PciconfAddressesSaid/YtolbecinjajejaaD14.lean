/- What a programmed register decodes: the plain law, by bits. -/
import Derived.Test.YtolbecinjajejaaD13
import Derived.Test.YtolbecinjajejaaD11
set_option linter.unusedVariables false
set_option linter.unusedSimpArgs false
namespace Go.Proofs.Ytolbecinjajejaa
open Go.RowKit Go.My

theorem byteOf_get (x : BitVec 64) (j b : Nat) (hb : b < 8) : (byteOf x j).getLsbD b = x.getLsbD (8 * j + b) := by
  unfold byteOf
  rw [BitVec.getLsbD_setWidth, BitVec.getLsbD_ushiftRight]
  simp [hb]
theorem rdw_get (h : Nat → BitVec 8) (o : Nat) : ∀ n, n ≤ 8 → ∀ i, i < 64 → (rdw h o n).getLsbD i = (decide (i < 8 * n) && (h (o + i / 8)).getLsbD (i % 8)) := by
  intro n
  induction n with
  | zero => intro _ i hi; simp [rdw]
  | succ n ih =>
    intro hn i hi
    show (rdw h o n ||| _).getLsbD i = _
    rw [BitVec.getLsbD_or, ih (by omega) i hi, sw_get _ _ _ hi]
    by_cases h1 : i < 8 * n
    · simp [h1, show i < 8 * (n + 1) by omega, show ¬ 8 * n ≤ i by omega]
    · by_cases h2 : i < 8 * (n + 1)
      · simp [h1, h2, show 8 * n ≤ i by omega, show i / 8 = n by omega, show i % 8 = i - 8 * n by omega]
      · simp [h1, h2, show 8 * n ≤ i by omega, BitVec.getLsbD_of_ge _ _ (show 8 ≤ i - 8 * n by omega)]
theorem ones_get (s i : Nat) (hi : i < 64) : (ones s).getLsbD i = decide (s ≤ i) := by
  unfold ones
  rw [BitVec.getLsbD_shiftLeft, BitVec.getLsbD_allOnes]
  by_cases h : s ≤ i
  · simp [h, hi, show ¬ i < s by omega, show i - s < 64 by omega]
  · simp [h, show i < s by omega]
theorem al_get (x : BitVec 64) (s i : Nat) (hi : i < 64) : ((x >>> s) <<< s).getLsbD i = (decide (s ≤ i) && x.getLsbD i) := by
  rw [BitVec.getLsbD_shiftLeft, BitVec.getLsbD_ushiftRight]
  by_cases h : s ≤ i
  · simp [h, hi, show ¬ i < s by omega, show s + (i - s) = i by omega]
  · simp [h, show i < s by omega]

/-! The masks of register q stay what its own definition laid. -/
/-- How many bytes a register takes. -/
def widB (k : Int) : Nat := if dbl k then 8 else 4
theorem Dv.bar_far (d : Dv) (i : Nat) (k s : Int) (j : Nat) (h : j < 16 + 4 * i ∨ 16 + 4 * i + widB k ≤ j ∨ k = 0) : (d.bar i k s).mk_ j = d.mk_ j := by
  unfold Dv.bar
  split
  · rename_i h1; subst h1; simp only [Dv.def_, putw, widB, dbl] at *; simp at h; rw [if_neg (by omega)]
  split
  · rename_i h1; subst h1; simp only [Dv.def_, putw, widB, dbl] at *; simp at h; rw [if_neg (by omega)]
  split
  · rename_i h1; subst h1; simp only [Dv.def_, putw, widB, dbl] at *; simp at h; rw [if_neg (by omega)]
  split
  · rename_i h1; subst h1; simp only [Dv.def_, putw, widB, dbl] at *; simp at h; rw [if_neg (by omega)]
  · rfl
theorem Dv.bar_at (d : Dv) (i : Nat) (k s : Int) (j : Nat) (hk : k = 1 ∨ k = 2 ∨ k = 3 ∨ k = 4) (h1 : 16 + 4 * i ≤ j) (h2 : j < 16 + 4 * i + widB k) : (d.bar i k s).mk_ j = byteOf (ones s.toNat) (j - (16 + 4 * i)) := by
  rcases hk with rfl | rfl | rfl | rfl
  · rw [show d.bar i 1 s = d.def_ (16 + 4 * i) 4 1#64 (ones s.toNat) by simp [Dv.bar]]
    show (if 16 + 4 * i ≤ j ∧ j < 16 + 4 * i + 4 then _ else _) = _
    rw [if_pos ⟨h1, h2⟩]
  · rw [show d.bar i 2 s = d.def_ (16 + 4 * i) 4 0#64 (ones s.toNat) by simp [Dv.bar]]
    show (if 16 + 4 * i ≤ j ∧ j < 16 + 4 * i + 4 then _ else _) = _
    rw [if_pos ⟨h1, h2⟩]
  · rw [show d.bar i 3 s = d.def_ (16 + 4 * i) 8 4#64 (ones s.toNat) by simp [Dv.bar]]
    show (if 16 + 4 * i ≤ j ∧ j < 16 + 4 * i + 8 then _ else _) = _
    rw [if_pos ⟨h1, h2⟩]
  · rw [show d.bar i 4 s = d.def_ (16 + 4 * i) 8 12#64 (ones s.toNat) by simp [Dv.bar]]
    show (if 16 + 4 * i ≤ j ∧ j < 16 + 4 * i + 8 then _ else _) = _
    rw [if_pos ⟨h1, h2⟩]
theorem mask_bars (f : Fh) (bs : List Br) (hv : vFn f bs = true) (d : Dv) (q : Nat) (hq : q < bs.length) (hk : (at1 ⟨0, 0⟩ bs q).k ≠ 0) (j : Nat) (h1 : 16 + 4 * q ≤ j) (h2 : j < 16 + 4 * q + widB (at1 ⟨0, 0⟩ bs q).k) :
    ∀ n, q < n → (d.bars bs n).mk_ j = byteOf (ones (at1 ⟨0, 0⟩ bs q).s.toNat) (j - (16 + 4 * q)) := by
  intro n
  induction n with
  | zero => intro h; omega
  | succ n ih =>
    intro hn
    show ((d.bars bs n).bar n (at1 ⟨0, 0⟩ bs n).k (at1 ⟨0, 0⟩ bs n).s).mk_ j = _
    by_cases e : n = q
    · subst e
      have := (vBar_range (vBar_at hv n)).2.2
      exact Dv.bar_at _ _ _ _ _ (by omega) h1 h2
    · rw [Dv.bar_far, ih (by omega)]
      by_cases hw : dbl (at1 ⟨0, 0⟩ bs q).k = true
      · have h3 := wide_at hv q hw
        by_cases e1 : n = q + 1
        · subst e1; exact .inr (.inr h3.2)
        · left
          have : widB (at1 (⟨0, 0⟩ : Br) bs q).k = 8 := by simp [widB, hw]
          omega
      · left
        have : widB (at1 (⟨0, 0⟩ : Br) bs q).k = 4 := by simp [widB, hw]
        omega
theorem bridge_m (d : Dv) (p : Bool) (j : Nat) (h : j < 24) : (d.bridge p).mk_ j = d.mk_ j := by
  unfold Dv.bridge
  cases p
  · simp only [Bool.false_eq_true, if_false, Dv.def_, putw]
    rw [if_neg (by omega), if_neg (by omega), if_neg (by omega)]
  · simp only [if_true, Dv.def_, putw]
    rw [if_neg (by omega), if_neg (by omega), if_neg (by omega), if_neg (by omega), if_neg (by omega)]
/-- The masks of register q in a valid function. -/
theorem mask_cfg (f : Fh) (v : Value) (bs : List Br) (hv : vFn f bs = true) (q : Nat) (hq : q < bs.length) (hk : (at1 ⟨0, 0⟩ bs q).k ≠ 0) (j : Nat) (h1 : 16 + 4 * q ≤ j) (h2 : j < 16 + 4 * q + widB (at1 ⟨0, 0⟩ bs q).k) :
    (cfgP f v bs).mk_ j = byteOf (ones (at1 ⟨0, 0⟩ bs q).s.toNat) (j - (16 + 4 * q)) := by
  have hm := mask_bars f bs hv (cfg0 f v) q hq hk j h1 h2 bs.length hq
  have hl := cnt_le hv
  unfold cfgP
  cases hb : f.bridge
  · exact hm
  · rw [hb] at hl
    have hl2 : bs.length ≤ 2 := by simp [cntB] at hl; omega
    have hj : j < 24 := by
      by_cases hw : dbl (at1 ⟨0, 0⟩ bs q).k = true
      · have h3 := (wide_at hv q hw).1
        have : widB (at1 (⟨0, 0⟩ : Br) bs q).k = 8 := by simp [widB, hw]
        omega
      · have : widB (at1 (⟨0, 0⟩ : Br) bs q).k = 4 := by simp [widB, hw]
        omega
    simp only [if_true]
    rw [bridge_m _ _ _ hj]
    show (if 14 ≤ j ∧ j < 14 + 1 then _ else _) = _
    rw [if_neg (by omega)]
    exact hm
/-- A bit of a written byte. -/
theorem wrw_get (h mk : Nat → BitVec 8) (o n : Nat) (v : BitVec 64) (j b : Nat) (hj : o ≤ j ∧ j < o + n) (hb : b < 8) :
    (wrw h mk o n v j).getLsbD b = (((h j).getLsbD b && !(mk j).getLsbD b) || (v.getLsbD (8 * (j - o) + b) && (mk j).getLsbD b)) := by
  unfold wrw
  rw [if_pos hj, BitVec.getLsbD_or, BitVec.getLsbD_and, BitVec.getLsbD_and, BitVec.getLsbD_not, byteOf_get _ _ _ hb]
  simp [hb]
theorem wrw_far (h mk : Nat → BitVec 8) (o n : Nat) (v : BitVec 64) (j : Nat) (hj : j < o ∨ o + n ≤ j) : wrw h mk o n v j = h j := by
  unfold wrw; rw [if_neg (by omega)]
/-- The four bytes of a register that was programmed with v: from bit s (of those that it has here) on they are v's. -/
theorem read_bits (h mk : Nat → BitVec 8) (o e s : Nat) (v : BitVec 64) (hm : ∀ j, o ≤ j → j < o + 4 → mk j = byteOf (ones s) (j - o + e)) (he : e ≤ 4) (i : Nat) (hi : i < 32) (hs : s ≤ i + 8 * e) :
    (rdw (wrw h mk o 4 v) o 4).getLsbD i = v.getLsbD i := by
  rw [rdw_get _ _ 4 (by omega) i (by omega), wrw_get _ _ _ _ _ _ _ (by omega) (by omega), hm _ (by omega) (by omega), byteOf_get _ _ _ (by omega), ones_get _ _ (by omega)]
  have e1 : 8 * (o + i / 8 - o) + i % 8 = i := by omega
  have e2 : s ≤ 8 * (i / 8 + e) + i % 8 := by omega
  rw [e1]
  simp [show i < 8 * 4 by omega, e2]
theorem rdw_congr (h h' : Nat → BitVec 8) (o : Nat) : ∀ n, (∀ j, o ≤ j → j < o + n → h j = h' j) → rdw h o n = rdw h' o n := by
  intro n
  induction n with
  | zero => intro _; rfl
  | succ n ih =>
    intro hh
    show rdw h o n ||| _ = rdw h' o n ||| _
    rw [ih (fun j h1 h2 => hh j h1 (by omega)), hh (o + n) (by omega) (by omega)]
/-- An aligned address, cut to 32 bits for the narrow kinds. -/
def baseB (k : Int) (s : Nat) (b : BitVec 64) : BitVec 64 := if k < 3 then ((b >>> s) <<< s) &&& 0xFFFFFFFF#64 else (b >>> s) <<< s
/-- The device programmed so. -/
def progD (d : Dv) (q : Nat) (k : Int) (B c : BitVec 64) : Dv :=
  (if k < 3 then d.wr (16 + 4 * q) 4 (B &&& 0xFFFFFFFF#64) else (d.wr (16 + 4 * q) 4 (B &&& 0xFFFFFFFF#64)).wr (20 + 4 * q) 4 (B >>> 32)).wr 4 2 c
theorem low32 (i : Nat) (hi : i < 64) : (0xFFFFFFFF#64).getLsbD i = decide (i < 32) := by
  have h : ∀ i, i < 64 → (0xFFFFFFFF#64).getLsbD i = decide (i < 32) := by decide +kernel
  exact h i hi
theorem baseB_low (k : Int) (s : Nat) (b : BitVec 64) (i : Nat) (hi : i < 64) (h : i < s) : (baseB k s b).getLsbD i = false := by
  unfold baseB
  split
  · rw [BitVec.getLsbD_and, al_get _ _ _ hi]; simp [show ¬ s ≤ i by omega]
  · rw [al_get _ _ _ hi]; simp [show ¬ s ≤ i by omega]
theorem adr_prog (f : Fh) (v : Value) (bs : List Br) (hv : vFn f bs = true) (q : Nat) (hq : q < bs.length) (k : Int) (s : Nat) (hx : at1 ⟨0, 0⟩ bs q = ⟨k, s⟩) (hk : k ≠ 0) (b c : BitVec 64) :
    adrB (progD (cfgP f v bs) q k (baseB k s b) c) q k s = baseB k s b := by
  have hm := mask_cfg f v bs hv q hq (by rw [hx]; exact hk)
  rw [hx] at hm
  simp only [Int.toNat_natCast] at hm
  have hr := vBar_range (vBar_at hv q)
  rw [hx] at hr
  simp only at hr
  have hd : dbl k = decide (3 ≤ k) := by
    rcases hr.2.2 with rfl | rfl | rfl | rfl | rfl <;> rfl
  generalize hB : baseB k s b = B
  have hlow : ∀ i, i < 64 → i < s → B.getLsbD i = false := fun i h1 h2 => hB ▸ baseB_low k s b i h1 h2
  apply BitVec.eq_of_getLsbD_eq
  intro i hi
  unfold adrB
  rw [al_get _ _ _ hi]
  by_cases hs : s ≤ i
  · simp only [hs, decide_true, Bool.true_and]
    by_cases h3 : k < 3
    · have hd0 : dbl k = false := by rw [hd]; simp; omega
      simp only [hd0, Bool.false_eq_true, if_false]
      have hw : widB k = 4 := by simp [widB, hd0]
      have e : rdw (progD (cfgP f v bs) q k B c).by_ (16 + 4 * q) 4 = rdw (wrw (cfgP f v bs).by_ (cfgP f v bs).mk_ (16 + 4 * q) 4 (B &&& 0xFFFFFFFF#64)) (16 + 4 * q) 4 := by
        apply rdw_congr
        intro j h1 h2
        simp only [progD, h3, if_true]
        show wrw _ _ 4 2 c j = _
        rw [wrw_far _ _ _ _ _ _ (by omega)]
        rfl
      rw [e]
      by_cases h32 : i < 32
      · rw [read_bits _ _ _ 0 s _ (fun j h1 h2 => by rw [hm j h1 (by omega)]; rfl) (by omega) i h32 (by omega), BitVec.getLsbD_and, low32 i hi]
        simp [h32]
      · rw [rdw_get _ _ 4 (by omega) i hi]
        have : B.getLsbD i = false := by
          rw [← hB]
          unfold baseB
          rw [if_pos h3, BitVec.getLsbD_and, low32 i hi]
          simp [h32]
        rw [this]
        simp [show ¬ i < 8 * 4 by omega]
    · have hd1 : dbl k = true := by rw [hd]; simp; omega
      simp only [hd1, if_true]
      have hw : widB k = 8 := by simp [widB, hd1]
      have e1 : rdw (progD (cfgP f v bs) q k B c).by_ (16 + 4 * q) 4 = rdw (wrw (cfgP f v bs).by_ (cfgP f v bs).mk_ (16 + 4 * q) 4 (B &&& 0xFFFFFFFF#64)) (16 + 4 * q) 4 := by
        apply rdw_congr
        intro j h1 h2
        simp only [progD, h3, if_false]
        show wrw _ _ 4 2 c j = _
        rw [wrw_far _ _ _ _ _ _ (by omega)]
        show wrw _ _ (20 + 4 * q) 4 _ j = _
        rw [wrw_far _ _ _ _ _ _ (by omega)]
        rfl
      have e2 : rdw (progD (cfgP f v bs) q k B c).by_ (20 + 4 * q) 4 = rdw (wrw (wrw (cfgP f v bs).by_ (cfgP f v bs).mk_ (16 + 4 * q) 4 (B &&& 0xFFFFFFFF#64)) (cfgP f v bs).mk_ (20 + 4 * q) 4 (B >>> 32)) (20 + 4 * q) 4 := by
        apply rdw_congr
        intro j h1 h2
        simp only [progD, h3, if_false]
        show wrw _ _ 4 2 c j = _
        rw [wrw_far _ _ _ _ _ _ (by omega)]
        rfl
      rw [e1, e2, BitVec.getLsbD_or, BitVec.getLsbD_shiftLeft]
      by_cases h32 : i < 32
      · rw [read_bits _ _ _ 0 s _ (fun j h1 h2 => by rw [hm j h1 (by omega)]; rfl) (by omega) i h32 (by omega), BitVec.getLsbD_and, low32 i hi]
        simp [h32]
      · rw [rdw_get _ _ 4 (by omega) i hi, read_bits _ _ _ 4 s _ (fun j h1 h2 => by rw [hm j (by omega) (by omega)]; congr 1; omega) (by omega) (i - 32) (by omega) (by omega), BitVec.getLsbD_ushiftRight]
        simp [show ¬ i < 8 * 4 by omega, h32, hi, show 32 + (i - 32) = i by omega]
  · rw [hlow i hi (by omega)]
    simp [hs]
theorem mask_cmd (f : Fh) (v : Value) (bs : List Br) (h6 : bs.length ≤ 6) : (cfgP f v bs).mk_ 4 = 7#8 := (cfgP_out f v bs h6 4 (by omega)).2.trans rfl
theorem progD_far (d : Dv) (q : Nat) (k : Int) (B c : BitVec 64) (j : Nat) (hj : 4 ≤ j ∧ j < 6) : (progD d q k B c).by_ j = wrw d.by_ d.mk_ 4 2 c j := by
  unfold progD
  have e : (if k < 3 then d.wr (16 + 4 * q) 4 (B &&& 0xFFFFFFFF#64) else (d.wr (16 + 4 * q) 4 (B &&& 0xFFFFFFFF#64)).wr (20 + 4 * q) 4 (B >>> 32)).by_ j = d.by_ j ∧ (if k < 3 then d.wr (16 + 4 * q) 4 (B &&& 0xFFFFFFFF#64) else (d.wr (16 + 4 * q) 4 (B &&& 0xFFFFFFFF#64)).wr (20 + 4 * q) 4 (B >>> 32)).mk_ = d.mk_ := by
    split
    · exact ⟨wrw_far _ _ _ _ _ _ (by omega), rfl⟩
    · refine ⟨?_, rfl⟩
      show wrw _ _ (20 + 4 * q) 4 _ j = _
      rw [wrw_far _ _ _ _ _ _ (by omega)]
      exact wrw_far _ _ _ _ _ _ (by omega)
  show wrw _ _ 4 2 c j = _
  unfold wrw
  rw [e.1, e.2]
theorem on_prog (f : Fh) (v : Value) (bs : List Br) (hv : vFn f bs = true) (q : Nat) (k : Int) (B c : BitVec 64) (m : BitVec 64) (hm : m = 1#64 ∨ m = 2#64) :
    rdw (progD (cfgP f v bs) q k B c).by_ 4 2 &&& m = c &&& m := by
  have h6 := bars_len hv
  apply BitVec.eq_of_getLsbD_eq
  intro i hi
  rw [BitVec.getLsbD_and, BitVec.getLsbD_and]
  by_cases h2 : i < 2
  · rw [rdw_get _ _ 2 (by omega) i hi, progD_far _ _ _ _ _ _ (by omega), wrw_get _ _ _ _ _ _ _ (by omega) (by omega)]
    have e : i / 8 = 0 := by omega
    rw [e, Nat.add_zero, mask_cmd f v bs h6]
    rcases (by omega : i = 0 ∨ i = 1) with rfl | rfl <;> simp
  · have : m.getLsbD i = false := by
      have h : ∀ i, i < 64 → ¬ i < 2 → (1#64).getLsbD i = false ∧ (2#64).getLsbD i = false := by decide +kernel
      rcases hm with rfl | rfl
      · exact (h i hi h2).1
      · exact (h i hi h2).2
    rw [this]
    simp
end Go.Proofs.Ytolbecinjajejaa
