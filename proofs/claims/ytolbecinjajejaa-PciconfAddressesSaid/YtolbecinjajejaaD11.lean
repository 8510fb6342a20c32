/- The laws about accesses: operations that came in; access; what New lays and no access changes. -/
import Derived.Test.YtolbecinjajejaaD10
import Derived.Test.YtolbecinjajejaaD6
import Derived.Test.YtolbecinjajejaaF0
set_option linter.unusedVariables false
set_option linter.unusedSimpArgs false
namespace Go.Proofs.Ytolbecinjajejaa
open Go.RowKit Go.My

/-- An access. -/
structure OpP where
  off : Int
  wid : Int
  wr : Bool
  val : BitVec 64
  raw : Bool
def encO (x : OpP) : List Value := [.int .i64 x.off, .int .i64 x.wid, .bool x.wr, .int .u64 (un x.val), .bool x.raw]
theorem encO_len (x : OpP) : (encO x).length = 5 := rfl

set_option maxHeartbeats 4000000 in
theorem ops_of_trod {H : Type} {enc : TypeId × Value → H} {w : World} {base : Nat} {v : Value} (hw : Value.okWide Try.prog w .any base 50 v) {d : DataW H} {p : List MemPlace}
    (h : DataW.Trod enc Try.prog w 0 (fun _ => true) true 50 v d p) : ∃ xs : List OpP, RowE encO 5 (fun _ => True) w v xs := by
  refine rowR_of_trod (fun x cs => cs = encO x) Try.underlying50 (by kernel_rfl) (by omega) ?_ hw h
  intro n cs y hl hy
  match cs, hl with
  | [c0, c1, c2, c3, c4], _ =>
    obtain ⟨xs, m, _, hx, _, hlen, hg⟩ := DataW.trod_struct Try.underlying56 hy
    have hlen' : xs.length = 5 := hlen
    have e3 : Try.prog.cellsOf 3 = 1 := by kernel_rfl
    have e4 : Try.prog.cellsOf 4 = 1 := by kernel_rfl
    have e22 : Try.prog.cellsOf 22 = 1 := by kernel_rfl
    have h0 := hg 0 _ rfl
    simp only [List.getElem_toArray, List.getElem_cons_zero, List.getElem_cons_succ] at h0
    rw [List.getElem?_eq_getElem (by omega), e3] at h0
    simp only [List.drop_zero, List.take_succ_cons, List.take_zero, List.drop_succ_cons] at h0
    obtain ⟨a0, q0, _⟩ := DataW.trod_int Try.underlying3 h0
    simp only [List.cons.injEq, and_true] at q0
    subst q0
    have h1 := hg 1 _ rfl
    simp only [List.getElem_toArray, List.getElem_cons_zero, List.getElem_cons_succ] at h1
    rw [List.getElem?_eq_getElem (by omega), e3] at h1
    simp only [List.drop_zero, List.take_succ_cons, List.take_zero, List.drop_succ_cons] at h1
    obtain ⟨a1, q1, _⟩ := DataW.trod_int Try.underlying3 h1
    simp only [List.cons.injEq, and_true] at q1
    subst q1
    have h2 := hg 2 _ rfl
    simp only [List.getElem_toArray, List.getElem_cons_zero, List.getElem_cons_succ] at h2
    rw [List.getElem?_eq_getElem (by omega), e4] at h2
    simp only [List.drop_zero, List.take_succ_cons, List.take_zero, List.drop_succ_cons] at h2
    obtain ⟨a2, q2, _⟩ := DataW.trod_bool Try.underlying4 h2
    simp only [List.cons.injEq, and_true] at q2
    subst q2
    have h3 := hg 3 _ rfl
    simp only [List.getElem_toArray, List.getElem_cons_zero, List.getElem_cons_succ] at h3
    rw [List.getElem?_eq_getElem (by omega), e22] at h3
    simp only [List.drop_zero, List.take_succ_cons, List.take_zero, List.drop_succ_cons] at h3
    obtain ⟨a3, q3, z3⟩ := DataW.trod_int Try.underlying22 h3
    simp only [List.cons.injEq, and_true] at q3
    subst q3
    have h4 := hg 4 _ rfl
    simp only [List.getElem_toArray, List.getElem_cons_zero, List.getElem_cons_succ] at h4
    rw [List.getElem?_eq_getElem (by omega), e4] at h4
    simp only [List.drop_zero, List.take_succ_cons, List.take_zero, List.drop_succ_cons] at h4
    obtain ⟨a4, q4, _⟩ := DataW.trod_bool Try.underlying4 h4
    simp only [List.cons.injEq, and_true] at q4
    subst q4
    have hb := bounds_u64 z3.2
    have hu : un (BitVec.ofInt 64 a3) = a3 := by rw [un_ofInt, IntKind.wrap_u64]; omega
    exact ⟨⟨a0, a1, a2, BitVec.ofInt 64 a3, a4⟩, by simp only [encO, hu]⟩

theorem ops_get {O : Nat → Prop} {w : World} {A : Option Addr} {n c : Nat} {xs : List OpP} (h : RowE encO 5 O w (.slice A n c) xs) {i : Nat} (hi : i < xs.length) :
    ∃ b off, A = some ⟨b, off, none⟩ ∧ w.cell? ⟨b, off + i * 5, none⟩ = some (.int .i64 (at1 ⟨0, 0, false, 0#64, false⟩ xs i).off) ∧ w.cell? ⟨b, off + i * 5 + 1, none⟩ = some (.int .i64 (at1 ⟨0, 0, false, 0#64, false⟩ xs i).wid) ∧ w.cell? ⟨b, off + i * 5 + 2, none⟩ = some (.bool (at1 ⟨0, 0, false, 0#64, false⟩ xs i).wr) ∧ w.cell? ⟨b, off + i * 5 + 3, none⟩ = some (.int .u64 (un (at1 ⟨0, 0, false, 0#64, false⟩ xs i).val)) ∧ w.cell? ⟨b, off + i * 5 + 4, none⟩ = some (.bool (at1 ⟨0, 0, false, 0#64, false⟩ xs i).raw) := by
  obtain ⟨A', c', hv, hl, hm, h⟩ := h
  injection hv with e1 e2 e3
  subst e1
  rcases h with rfl | ⟨b, off, h1, h2, _, h3⟩
  · simp at hi
  · obtain ⟨cs, q1, q2, q3⟩ := h3 i hi
    subst q2
    rw [at1_eq ⟨0, 0, false, 0#64, false⟩ xs i hi] at q3
    exact ⟨b, off, h1, q3 0 (by omega), q3 1 (by omega), q3 2 (by omega), q3 3 (by omega), q3 4 (by omega)⟩

set_option maxHeartbeats 4000000 in
theorem access_any (x : OpP) (w : World) : Calls Try.prog 24 #[.agg #[.int .i64 x.off, .int .i64 x.wid, .bool x.wr, .int .u64 (un x.val), .bool x.raw]] w fun e w' => ∃ a b : Int, e = .returned (.tuple #[.int .i64 a, .int .i64 b]) ∧ Keep Non w w' := by
  obtain ⟨o, n, wr, v, raw⟩ := x
  simp only
  go_enter Try.func24, Try.ntmps24
  cases raw
  · go_wp2_with fail
    refine (mod_any _ _ _ (by omega) (by omega)).mono ?_
    rintro e w' ⟨rfl, rfl⟩
    have hr := md_range n 3 (by omega)
    generalize md n 3 = m at *
    rcases (by omega : m = 0 ∨ m = 1 ∨ m = 2) with rfl | rfl | rfl
    all_goals
      clear hr
      go_wp2_with fail
      refine (mod_any _ _ _ (by omega) (by omega)).mono ?_
      rintro e w' ⟨rfl, rfl⟩
      have hr := md_range o 64 (by omega)
      generalize md o 64 = q at *
      go_wp2
      go_ret2
      exact ⟨_, _, rfl, ((Keep.refl _ _).alloc _).alloc _⟩
  · go_wp2_with fail
    go_quiet (fail)
    go_wp2
    go_ret2
    exact ⟨_, _, rfl, ((Keep.refl _ _).alloc _).drewN _⟩

/-! What New lays outside the registers. -/
theorem Dv.bar_out (d : Dv) (i : Nat) (k s : Int) (j : Nat) (hi : i < 6) (h : j < 16 ∨ 48 ≤ j) : (d.bar i k s).by_ j = d.by_ j ∧ (d.bar i k s).mk_ j = d.mk_ j := by
  unfold Dv.bar
  repeat' split
  all_goals first
    | exact ⟨rfl, rfl⟩
    | (simp only [Dv.def_, putw]; rw [if_neg (by omega), if_neg (by omega)]; exact ⟨rfl, rfl⟩)
theorem Dv.bars_out (d : Dv) (bs : List Br) (j : Nat) (h : j < 16 ∨ 48 ≤ j) : ∀ k, k ≤ 6 → (d.bars bs k).by_ j = d.by_ j ∧ (d.bars bs k).mk_ j = d.mk_ j := by
  intro k
  induction k with
  | zero => intro _; exact ⟨rfl, rfl⟩
  | succ k ih =>
    intro hk
    have h1 := Dv.bar_out (d.bars bs k) k (at1 ⟨0, 0⟩ bs k).k (at1 ⟨0, 0⟩ bs k).s j (by omega) h
    have h2 := ih (by omega)
    exact ⟨h1.1.trans h2.1, h1.2.trans h2.2⟩
theorem Dv.bridge_out (d : Dv) (p : Bool) (j : Nat) (h : j < 16 ∨ 48 ≤ j) : (d.bridge p).by_ j = d.by_ j ∧ (d.bridge p).mk_ j = d.mk_ j := by
  have e : ∀ (d : Dv) (o n : Nat) (x m : BitVec 64), 16 ≤ o → o + n ≤ 48 → (d.def_ o n x m).by_ j = d.by_ j ∧ (d.def_ o n x m).mk_ j = d.mk_ j := by
    intro d o n x m h1 h2
    simp only [Dv.def_, putw]
    rw [if_neg (by omega), if_neg (by omega)]
    exact ⟨rfl, rfl⟩
  unfold Dv.bridge
  cases p
  · simp only [Bool.false_eq_true, if_false]
    exact ⟨((e _ 32 4 _ _ (by omega) (by omega)).1.trans (e _ 28 2 _ _ (by omega) (by omega)).1).trans (e _ 24 3 _ _ (by omega) (by omega)).1, ((e _ 32 4 _ _ (by omega) (by omega)).2.trans (e _ 28 2 _ _ (by omega) (by omega)).2).trans (e _ 24 3 _ _ (by omega) (by omega)).2⟩
  · simp only [if_true]
    exact ⟨((((e _ 40 8 _ _ (by omega) (by omega)).1.trans (e _ 36 4 _ _ (by omega) (by omega)).1).trans (e _ 32 4 _ _ (by omega) (by omega)).1).trans (e _ 28 2 _ _ (by omega) (by omega)).1).trans (e _ 24 3 _ _ (by omega) (by omega)).1, ((((e _ 40 8 _ _ (by omega) (by omega)).2.trans (e _ 36 4 _ _ (by omega) (by omega)).2).trans (e _ 32 4 _ _ (by omega) (by omega)).2).trans (e _ 28 2 _ _ (by omega) (by omega)).2).trans (e _ 24 3 _ _ (by omega) (by omega)).2⟩
/-- Byte j of a valid function, j before the registers or behind them, and not 14. -/
theorem cfgP_out (f : Fh) (v : Value) (bs : List Br) (h6 : bs.length ≤ 6) (j : Nat) (h : j < 14 ∨ 48 ≤ j) : (cfgP f v bs).by_ j = (cfg0 f v).by_ j ∧ (cfgP f v bs).mk_ j = (cfg0 f v).mk_ j := by
  have h1 := Dv.bars_out (cfg0 f v) bs j (by omega) bs.length h6
  unfold cfgP
  cases f.bridge
  · exact h1
  · simp only [if_true]
    have h2 := Dv.bridge_out (((cfg0 f v).bars bs bs.length).def_ 14 1 1#64 0#64) f.pref j (by omega)
    have h3 : (((cfg0 f v).bars bs bs.length).def_ 14 1 1#64 0#64).by_ j = ((cfg0 f v).bars bs bs.length).by_ j ∧ (((cfg0 f v).bars bs bs.length).def_ 14 1 1#64 0#64).mk_ j = ((cfg0 f v).bars bs bs.length).mk_ j := by
      simp only [Dv.def_, putw]; rw [if_neg (by omega), if_neg (by omega)]; exact ⟨rfl, rfl⟩
    exact ⟨(h2.1.trans h3.1).trans h1.1, (h2.2.trans h3.2).trans h1.2⟩
theorem cfgP_m14 (f : Fh) (v : Value) (bs : List Br) (h6 : bs.length ≤ 6) : (cfgP f v bs).mk_ 14 = 0#8 := by
  have h1 := Dv.bars_out (cfg0 f v) bs 14 (by omega) bs.length h6
  unfold cfgP
  cases f.bridge
  · exact h1.2.trans rfl
  · simp only [if_true]
    exact (Dv.bridge_out _ f.pref 14 (by omega)).2.trans rfl
theorem stays_at {d d' : Dv} (h : Stays d d') {j : Nat} (hm : d.mk_ j = 0#8) : d'.by_ j = d.by_ j := by
  have := h.2.2.2 j
  have e : ∀ x : BitVec 8, x &&& ~~~(0#8) = x := fun x => by rw [show ~~~(0#8) = BitVec.allOnes 8 from rfl, BitVec.and_allOnes]
  rw [hm, e, e] at this
  exact this
theorem byte0 (v : Int) (h0 : 0 ≤ v) (h1 : v < 65536) : rdw (fun j => byteOf (BitVec.ofInt 64 v) j) 0 2 = BitVec.ofInt 64 v := by
  have hx : (BitVec.ofInt 64 v).toNat < 65536 := by
    rw [BitVec.toNat_ofInt]; simp only [Nat.reducePow]; omega
  generalize BitVec.ofInt 64 v = x at *
  apply BitVec.eq_of_getLsbD_eq
  intro i hi
  have z : 16 ≤ i → x.getLsbD i = false := by
    intro h
    rw [BitVec.getLsbD]
    exact Nat.testBit_lt_two_pow (Nat.lt_of_lt_of_le hx (by have := Nat.pow_le_pow_right (n := 2) (by omega) h; simpa using this))
  simp only [rdw, byteOf, BitVec.getLsbD_or, sw_get _ _ _ hi, BitVec.getLsbD_setWidth, BitVec.getLsbD_ushiftRight, BitVec.getLsbD_zero]
  by_cases h1 : i < 8
  · simp [h1, show ¬ 8 ≤ i by omega]
  · by_cases h2 : i < 16
    · simp [h1, h2, show 8 ≤ i by omega, show i - 8 < 8 by omega, show 8 + (i - 8) = i by omega]
    · simp [h1, h2, show 8 ≤ i by omega, show ¬ i - 8 < 8 by omega, z (by omega)]
end Go.Proofs.Ytolbecinjajejaa
