/- sized: what a register reads after ones have been written to it; it is restored. -/
import Derived.Test.YtolbecinjajejaaDoorD6
set_option linter.unusedVariables false
set_option linter.unusedSimpArgs false
namespace Go.Proofs.YtolbecinjajejaaDoor
open Go.RowKit Go.My

/-- What a register reads after ones have been written to it. -/
def sizV (d : Dv) (o : Nat) : BitVec 64 := rdw (d.wr o 4 0xFFFFFFFF#64).by_ o 4
theorem sw_get (a : BitVec 8) (k i : Nat) (hi : i < 64) : (a.setWidth 64 <<< k).getLsbD i = (decide (k ≤ i) && a.getLsbD (i - k)) := by
  rw [BitVec.getLsbD_shiftLeft, BitVec.getLsbD_setWidth]
  by_cases h : k ≤ i
  · have h1 : ¬ i < k := by omega
    have h2 : i - k < 64 := by omega
    simp [h, h1, h2, hi]
  · have h1 : i < k := by omega
    simp [h, h1]
theorem byteOf_get (x : BitVec 64) (j b : Nat) (hb : b < 8) : (byteOf x j).getLsbD b = x.getLsbD (8 * j + b) := by
  unfold byteOf
  rw [BitVec.getLsbD_setWidth, BitVec.getLsbD_ushiftRight]
  simp [hb]
theorem rdw_get (h : Nat → BitVec 8) (o : Nat) : ∀ n, n ≤ 8 → ∀ i, i < 64 → (rdw h o n).getLsbD i = (decide (i < 8 * n) && (h (o + i / 8)).getLsbD (i % 8)) := by
  intro n
  induction n with
  | zero => intro _ i hi; simp [rdw]
  | succ n ih =>
    intro hn i hi
    show (rdw h o n ||| _).getLsbD i = _
    rw [BitVec.getLsbD_or, ih (by omega) i hi, sw_get _ _ _ hi]
    by_cases h1 : i < 8 * n
    · simp [h1, show i < 8 * (n + 1) by omega, show ¬ 8 * n ≤ i by omega]
    · by_cases h2 : i < 8 * (n + 1)
      · simp [h1, h2, show 8 * n ≤ i by omega, show i / 8 = n by omega, show i % 8 = i - 8 * n by omega]
      · simp [h1, h2, show 8 * n ≤ i by omega, BitVec.getLsbD_of_ge _ _ (show 8 ≤ i - 8 * n by omega)]
theorem byte_rdw (h : Nat → BitVec 8) (o n k : Nat) (hn : n ≤ 8) (hk : k < n) : byteOf (rdw h o n) k = h (o + k) := by
  apply BitVec.eq_of_getLsbD_eq
  intro b hb
  rw [byteOf_get _ _ _ hb, rdw_get _ _ _ hn _ (by omega)]
  simp [show 8 * k + b < 8 * n by omega, show (8 * k + b) / 8 = k by omega, show (8 * k + b) % 8 = b by omega]
/-- Written over and written back: as it was. -/
theorem wr_back (d : Dv) (o : Nat) (x : BitVec 64) : (d.wr o 4 x).wr o 4 (rdw d.by_ o 4) = d := by
  have e : wrw (wrw d.by_ d.mk_ o 4 x) d.mk_ o 4 (rdw d.by_ o 4) = d.by_ := by
    funext j
    unfold wrw
    by_cases h : o ≤ j ∧ j < o + 4
    · simp only [if_pos h]
      rw [byte_rdw _ _ _ _ (by omega) (by omega), show o + (j - o) = j by omega]
      apply BitVec.eq_of_getLsbD_eq
      intro b hb
      simp only [BitVec.getLsbD_or, BitVec.getLsbD_and, BitVec.getLsbD_not, hb, decide_true, Bool.true_and]
      cases (d.by_ j).getLsbD b <;> cases (d.mk_ j).getLsbD b <;> cases (byteOf x (j - o)).getLsbD b <;> rfl
    · simp only [if_neg h]
  obtain ⟨f, sv, by0, mk0⟩ := d
  show Dv.mk f sv _ mk0 = _
  exact congrArg (fun y => Dv.mk f sv y mk0) e

set_option maxHeartbeats 4000000 in
theorem sized_any (g i : Nat) (d : Dv) (w : World) (h : IsD 85 w g d) (hi : i < 8) :
    Calls Tryd.prog 51 #[.pointer (some ⟨g, 0, none⟩), .int .i64 i] w fun e w' => e = .returned (.int .u64 (un (sizV d (16 + 4 * i)))) ∧ Keep (My.One g) w w' ∧ IsD 85 w' g d := by
  have HD := Lib.hid h
  have HK : Hid (Keep (My.One g) w w) := Keep.refl _ _
  clear h
  go_enter Tryd.func51, Tryd.ntmps51
  go_wp2_with fail
  refine (read_at g _ _ (un (rdw d.by_ (16 + 4 * i) 4)) (16 + 4 * i) 4 (by omega) (by omega) d _ HD.out (by simp [wfm]; omega) rfl).mono ?_
  rintro e w' ⟨rfl, rfl⟩
  go_wp2_with fail
  refine (write_at g _ _ _ (16 + 4 * i) 4 0xFFFFFFFF#64 (by omega) (by omega) rfl _ _ HD.out (by simp [wfm]; omega)).mono ?_
  rintro e w1 ⟨rfl, hk, hd⟩
  replace HK := Lib.hid (HK.out.tr hk)
  replace HD := Lib.hid hd
  clear hk hd
  go_wp2_with fail
  refine (read_at g _ _ (un (sizV d (16 + 4 * i))) (16 + 4 * i) 4 (by omega) (by omega) _ _ HD.out (by simp [wfm]; omega) rfl).mono ?_
  rintro e w' ⟨rfl, rfl⟩
  go_wp2_with fail
  refine (write_at g _ _ _ (16 + 4 * i) 4 (rdw d.by_ (16 + 4 * i) 4) (by omega) (by omega) rfl _ _ HD.out (by simp [wfm]; omega)).mono ?_
  rintro e w2 ⟨rfl, hk, hd⟩
  rw [wr_back] at hd
  replace HK := Lib.hid (HK.out.tr hk)
  replace HD := Lib.hid hd
  clear hk hd
  go_wp2
  go_ret
  exact ⟨rfl, HK.out, HD.out⟩
end Go.Proofs.YtolbecinjajejaaDoor
