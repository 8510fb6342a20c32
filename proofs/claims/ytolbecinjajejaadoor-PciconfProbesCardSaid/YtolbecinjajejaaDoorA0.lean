/- The laws about accesses: operations that came in; access; what New lays and no access changes. -/
import Derived.Test.YtolbecinjajejaaDoorD6
import Derived.Test.YtolbecinjajejaaDoorF0
set_option linter.unusedVariables false
set_option linter.unusedSimpArgs false
namespace Go.Proofs.YtolbecinjajejaaDoor
open Go.RowKit Go.My

/-- An access. -/
structure OpP where
  off : Int
  wid : Int
  wr : Bool
  val : BitVec 64
  raw : Bool
def encO (x : OpP) : List Value := [.int .i64 x.off, .int .i64 x.wid, .bool x.wr, .int .u64 (un x.val), .bool x.raw]
theorem encO_len (x : OpP) : (encO x).length = 5 := rfl

set_option maxHeartbeats 4000000 in
theorem ops_of_trod {H : Type} {enc : TypeId × Value → H} {w : World} {base : Nat} {v : Value} (hw : Value.okWide Tryd.prog w .any base 51 v) {d : DataW H} {p : List MemPlace}
    (h : DataW.Trod enc Tryd.prog w 0 (fun _ => true) true 51 v d p) : ∃ xs : List OpP, RowE encO 5 (fun _ => True) w v xs := by
  refine rowR_of_trod (fun x cs => cs = encO x) Tryd.underlying51 (by kernel_rfl) (by omega) ?_ hw h
  intro n cs y hl hy
  match cs, hl with
  | [c0, c1, c2, c3, c4], _ =>
    obtain ⟨xs, m, _, hx, _, hlen, hg⟩ := DataW.trod_struct Tryd.underlying60 hy
    have hlen' : xs.length = 5 := hlen
    have e3 : Tryd.prog.cellsOf 3 = 1 := by kernel_rfl
    have e4 : Tryd.prog.cellsOf 4 = 1 := by kernel_rfl
    have e22 : Tryd.prog.cellsOf 45 = 1 := by kernel_rfl
    have h0 := hg 0 _ rfl
    simp only [List.getElem_toArray, List.getElem_cons_zero, List.getElem_cons_succ] at h0
    rw [List.getElem?_eq_getElem (by omega), e3] at h0
    simp only [List.drop_zero, List.take_succ_cons, List.take_zero, List.drop_succ_cons] at h0
    obtain ⟨a0, q0, _⟩ := DataW.trod_int Tryd.underlying3 h0
    simp only [List.cons.injEq, and_true] at q0
    subst q0
    have h1 := hg 1 _ rfl
    simp only [List.getElem_toArray, List.getElem_cons_zero, List.getElem_cons_succ] at h1
    rw [List.getElem?_eq_getElem (by omega), e3] at h1
    simp only [List.drop_zero, List.take_succ_cons, List.take_zero, List.drop_succ_cons] at h1
    obtain ⟨a1, q1, _⟩ := DataW.trod_int Tryd.underlying3 h1
    simp only [List.cons.injEq, and_true] at q1
    subst q1
    have h2 := hg 2 _ rfl
    simp only [List.getElem_toArray, List.getElem_cons_zero, List.getElem_cons_succ] at h2
    rw [List.getElem?_eq_getElem (by omega), e4] at h2
    simp only [List.drop_zero, List.take_succ_cons, List.take_zero, List.drop_succ_cons] at h2
    obtain ⟨a2, q2, _⟩ := DataW.trod_bool Tryd.underlying4 h2
    simp only [List.cons.injEq, and_true] at q2
    subst q2
    have h3 := hg 3 _ rfl
    simp only [List.getElem_toArray, List.getElem_cons_zero, List.getElem_cons_succ] at h3
    rw [List.getElem?_eq_getElem (by omega), e22] at h3
    simp only [List.drop_zero, List.take_succ_cons, List.take_zero, List.drop_succ_cons] at h3
    obtain ⟨a3, q3, z3⟩ := DataW.trod_int Tryd.underlying45 h3
    simp only [List.cons.injEq, and_true] at q3
    subst q3
    have h4 := hg 4 _ rfl
    simp only [List.getElem_toArray, List.getElem_cons_zero, List.getElem_cons_succ] at h4
    rw [List.getElem?_eq_getElem (by omega), e4] at h4
    simp only [List.drop_zero, List.take_succ_cons, List.take_zero, List.drop_succ_cons] at h4
    obtain ⟨a4, q4, _⟩ := DataW.trod_bool Tryd.underlying4 h4
    simp only [List.cons.injEq, and_true] at q4
    subst q4
    have hb := bounds_u64 z3.2
    have hu : un (BitVec.ofInt 64 a3) = a3 := by rw [un_ofInt, IntKind.wrap_u64]; omega
    exact ⟨⟨a0, a1, a2, BitVec.ofInt 64 a3, a4⟩, by simp only [encO, hu]⟩

theorem ops_get {O : Nat → Prop} {w : World} {A : Option Addr} {n c : Nat} {xs : List OpP} (h : RowE encO 5 O w (.slice A n c) xs) {i : Nat} (hi : i < xs.length) :
    ∃ b off, A = some ⟨b, off, none⟩ ∧ w.cell? ⟨b, off + i * 5, none⟩ = some (.int .i64 (at1 ⟨0, 0, false, 0#64, false⟩ xs i).off) ∧ w.cell? ⟨b, off + i * 5 + 1, none⟩ = some (.int .i64 (at1 ⟨0, 0, false, 0#64, false⟩ xs i).wid) ∧ w.cell? ⟨b, off + i * 5 + 2, none⟩ = some (.bool (at1 ⟨0, 0, false, 0#64, false⟩ xs i).wr) ∧ w.cell? ⟨b, off + i * 5 + 3, none⟩ = some (.int .u64 (un (at1 ⟨0, 0, false, 0#64, false⟩ xs i).val)) ∧ w.cell? ⟨b, off + i * 5 + 4, none⟩ = some (.bool (at1 ⟨0, 0, false, 0#64, false⟩ xs i).raw) := by
  obtain ⟨A', c', hv, hl, hm, h⟩ := h
  injection hv with e1 e2 e3
  subst e1
  rcases h with rfl | ⟨b, off, h1, h2, _, h3⟩
  · simp at hi
  · obtain ⟨cs, q1, q2, q3⟩ := h3 i hi
    subst q2
    rw [at1_eq ⟨0, 0, false, 0#64, false⟩ xs i hi] at q3
    exact ⟨b, off, h1, q3 0 (by omega), q3 1 (by omega), q3 2 (by omega), q3 3 (by omega), q3 4 (by omega)⟩

set_option maxHeartbeats 4000000 in
theorem access_any (x : OpP) (w : World) : Calls Tryd.prog 29 #[.agg #[.int .i64 x.off, .int .i64 x.wid, .bool x.wr, .int .u64 (un x.val), .bool x.raw]] w fun e w' => ∃ a b : Int, e = .returned (.tuple #[.int .i64 a, .int .i64 b]) ∧ Keep Non w w' := by
  obtain ⟨o, n, wr, v, raw⟩ := x
  simp only
  go_enter Tryd.func29, Tryd.ntmps29
  cases raw
  · go_wp2_with fail
    refine (mod_any _ _ _ (by omega) (by omega)).mono ?_
    rintro e w' ⟨rfl, rfl⟩
    have hr := md_range n 3 (by omega)
    generalize md n 3 = m at *
    rcases (by omega : m = 0 ∨ m = 1 ∨ m = 2) with rfl | rfl | rfl
    all_goals
      clear hr
      go_wp2_with fail
      refine (mod_any _ _ _ (by omega) (by omega)).mono ?_
      rintro e w' ⟨rfl, rfl⟩
      have hr := md_range o 64 (by omega)
      generalize md o 64 = q at *
      go_wp2
      go_ret2
      exact ⟨_, _, rfl, ((Keep.refl _ _).alloc _).alloc _⟩
  · go_wp2_with fail
    go_quiet (fail)
    go_wp2
    go_ret2
    exact ⟨_, _, rfl, ((Keep.refl _ _).alloc _).drewN _⟩

end Go.Proofs.YtolbecinjajejaaDoor
