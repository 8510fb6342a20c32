/- How a function that came in is opened. -/
import Derived.Test.YtolbecinjajejaaDoorD2
import Derived.Lib.SmallJoins
import Derived.OpenShut
set_option linter.unusedVariables false
namespace Go.Proofs.YtolbecinjajejaaDoor
open Go.RowKit Go.My Go.Deep Go.WideShapes Go.ChangeShapes Go.Joins

theorem rowR_of_cell {H : Type} {enc : TypeId × Value → H} {P : Program} {w : World} {t e sz : Nat} {α : Type} (R : α → List Value → Prop) (ht : P.underlying t = some (.slice e)) (hsz : P.cellsOf e = sz) (h0 : 0 < sz)
    (dec : ∀ n cs y, cs.length = sz → DataW.trod enc P w 0 (fun _ => true) true n e cs = some y → ∃ x : α, R x cs) {c : Value} {fuel : Nat} {x : DataW H × List MemPlace}
    (hf : DataW.trod enc P w 0 (fun _ => true) true fuel t [c] = some x) : ∃ xs : List α, RowR R sz (fun _ => True) w c xs := by
  rcases open_slice ht hf with ⟨hcs, _⟩ | ⟨a, len, cap, m, n, D, Pl, hcs, _, hl, hm, hmm, _, hx⟩
  · simp at hcs
    subst hcs
    exact ⟨[], none, 0, rfl, Nat.le_refl _, by simp [maxLen], .inl rfl⟩
  · simp at hcs
    subst hcs
    simp only [if_true] at hmm
    subst hmm
    rw [hsz] at hx
    have hy : ∀ i, i < len → ∃ x : α, ∃ cs : List Value, cs.length = sz ∧ R x cs ∧ ∀ j, j < sz → w.cell? ((a.add (i * sz)).add j) = cs[j]? := by
      intro i hi
      obtain ⟨cs, h1, h2⟩ := hx i (by omega)
      obtain ⟨h3, h4⟩ := cell_of_cells h1
      obtain ⟨x, hr⟩ := dec n cs _ h3 h2
      exact ⟨x, cs, h3, hr, h4⟩
    have hlen : (List.ofFn fun i : Fin len => Classical.choose (hy i.1 i.2)).length = len := by simp
    refine ⟨List.ofFn fun i : Fin len => Classical.choose (hy i.1 i.2), some a, _, by rw [hlen], by omega, hm, ?_⟩
    rcases Nat.eq_zero_or_pos len with hz | hz
    · left
      exact List.eq_nil_of_length_eq_zero (by rw [hlen]; exact hz)
    · right
      obtain ⟨_, cs0, hc1, _, hc2⟩ := hy 0 hz
      have h1 := hc2 0 h0
      have hs : a.spot = none := by
        cases hsp : a.spot with
        | none => rfl
        | some q =>
          exfalso
          rw [List.getElem?_eq_getElem (by omega)] at h1
          simp only [Nat.zero_mul, Addr.add, if_true, World.cell?, hsp, Option.isSome_some] at h1
          split at h1 <;> simp at h1
      obtain ⟨b, off, spot⟩ := a
      simp only at hs
      subst hs
      have hb : b < w.heap.size := by
        rw [List.getElem?_eq_getElem (by omega)] at h1
        simp only [Nat.zero_mul, My.add_plain] at h1
        exact World.block_lt_of_cell? w _ h1
      refine ⟨b, off, rfl, trivial, hb, fun i hi => ?_⟩
      have hi' : i < len := by omega
      obtain ⟨cs, q1, q2, q3⟩ := Classical.choose_spec (hy i hi')
      refine ⟨cs, q1, by simpa using q2, fun j hj => ?_⟩
      have := q3 j hj
      rw [My.add_plain, My.add_plain] at this
      exact this

theorem bars_of_cell {H : Type} {enc : TypeId × Value → H} {w : World} {c : Value} {fuel : Nat} {x : DataW H × List MemPlace}
    (hf : DataW.trod enc Tryd.prog w 0 (fun _ => true) true fuel 48 [c] = some x) : ∃ bs : List Br, Bars (fun _ => True) w c bs := by
  refine rowR_of_cell RBr Tryd.underlying48 (by kernel_rfl) (by omega) ?_ hf
  intro n cs y hl hy
  match cs, hl with
  | [c0, c1], _ =>
    obtain ⟨xs, m, _, hx, _, hlen, hg⟩ := DataW.trod_struct Tryd.underlying67 hy
    have hlen' : xs.length = 2 := hlen
    have e3 : Tryd.prog.cellsOf 3 = 1 := by kernel_rfl
    have h0 := hg 0 _ rfl
    have h1 := hg 1 _ rfl
    simp only [List.getElem_toArray, List.getElem_cons_zero, List.getElem_cons_succ] at h0 h1
    rw [List.getElem?_eq_getElem (by omega), e3] at h0 h1
    simp only [List.drop_zero, List.take_succ_cons, List.take_zero, List.drop_succ_cons] at h0 h1
    obtain ⟨a, q0, _⟩ := DataW.trod_int Tryd.underlying3 h0
    obtain ⟨b, q1, _⟩ := DataW.trod_int Tryd.underlying3 h1
    simp only [List.cons.injEq, and_true] at q0 q1
    exact ⟨⟨a, b⟩, by subst q0 q1; rfl⟩

set_option maxHeartbeats 4000000 in
theorem fn_of_trod {H : Type} {enc : TypeId × Value → H} {w : World} {base : Nat} {v : Value} (hw : Value.okWide Tryd.prog w .any base 50 v) {d : DataW H} {p : List MemPlace}
    (h : DataW.Trod enc Tryd.prog w 0 (fun _ => true) true 50 v d p) : ∃ (f : Fh) (u : Value) (bs : List Br), v = .agg (fhL f u) ∧ Bars (fun _ => True) w u bs := by
  obtain ⟨cs, rfl, hsz⟩ := okWide_struct Tryd.underlying50 hw
  have hC : Tryd.prog.cellsOf 50 = 11 := by kernel_rfl
  obtain ⟨l⟩ := cs
  match l, hsz.trans hC with
  | [c0, c1, c2, c3, c4, c5, c6, c7, c8, c9, c10], _ =>
    obtain ⟨fuel, hf⟩ := h
    obtain ⟨xs, n, _, hx, _, hlen, hg⟩ := DataW.trod_struct Tryd.underlying50 hf
    have hlen' : xs.length = 11 := hlen
    have e3 : Tryd.prog.cellsOf 3 = 1 := by kernel_rfl
    have e4 : Tryd.prog.cellsOf 4 = 1 := by kernel_rfl
    have e42 : Tryd.prog.cellsOf 48 = 1 := by kernel_rfl
    have h0 := hg 0 _ rfl
    simp only [List.getElem_toArray, List.getElem_cons_zero, List.getElem_cons_succ] at h0
    rw [List.getElem?_eq_getElem (by omega), e3] at h0
    simp only [Value.cells, List.drop_zero, List.take_succ_cons, List.take_zero, List.drop_succ_cons] at h0
    obtain ⟨a0, q0, _⟩ := DataW.trod_int Tryd.underlying3 h0
    simp only [List.cons.injEq, and_true] at q0
    subst q0
    have h1 := hg 1 _ rfl
    simp only [List.getElem_toArray, List.getElem_cons_zero, List.getElem_cons_succ] at h1
    rw [List.getElem?_eq_getElem (by omega), e3] at h1
    simp only [Value.cells, List.drop_zero, List.take_succ_cons, List.take_zero, List.drop_succ_cons] at h1
    obtain ⟨a1, q1, _⟩ := DataW.trod_int Tryd.underlying3 h1
    simp only [List.cons.injEq, and_true] at q1
    subst q1
    have h2 := hg 2 _ rfl
    simp only [List.getElem_toArray, List.getElem_cons_zero, List.getElem_cons_succ] at h2
    rw [List.getElem?_eq_getElem (by omega), e3] at h2
    simp only [Value.cells, List.drop_zero, List.take_succ_cons, List.take_zero, List.drop_succ_cons] at h2
    obtain ⟨a2, q2, _⟩ := DataW.trod_int Tryd.underlying3 h2
    simp only [List.cons.injEq, and_true] at q2
    subst q2
    have h3 := hg 3 _ rfl
    simp only [List.getElem_toArray, List.getElem_cons_zero, List.getElem_cons_succ] at h3
    rw [List.getElem?_eq_getElem (by omega), e3] at h3
    simp only [Value.cells, List.drop_zero, List.take_succ_cons, List.take_zero, List.drop_succ_cons] at h3
    obtain ⟨a3, q3, _⟩ := DataW.trod_int Tryd.underlying3 h3
    simp only [List.cons.injEq, and_true] at q3
    subst q3
    have h4 := hg 4 _ rfl
    simp only [List.getElem_toArray, List.getElem_cons_zero, List.getElem_cons_succ] at h4
    rw [List.getElem?_eq_getElem (by omega), e4] at h4
    simp only [Value.cells, List.drop_zero, List.take_succ_cons, List.take_zero, List.drop_succ_cons] at h4
    obtain ⟨a4, q4, _⟩ := DataW.trod_bool Tryd.underlying4 h4
    simp only [List.cons.injEq, and_true] at q4
    subst q4
    have h5 := hg 5 _ rfl
    simp only [List.getElem_toArray, List.getElem_cons_zero, List.getElem_cons_succ] at h5
    rw [List.getElem?_eq_getElem (by omega), e4] at h5
    simp only [Value.cells, List.drop_zero, List.take_succ_cons, List.take_zero, List.drop_succ_cons] at h5
    obtain ⟨a5, q5, _⟩ := DataW.trod_bool Tryd.underlying4 h5
    simp only [List.cons.injEq, and_true] at q5
    subst q5
    have h6 := hg 6 _ rfl
    simp only [List.getElem_toArray, List.getElem_cons_zero, List.getElem_cons_succ] at h6
    rw [List.getElem?_eq_getElem (by omega), e4] at h6
    simp only [Value.cells, List.drop_zero, List.take_succ_cons, List.take_zero, List.drop_succ_cons] at h6
    obtain ⟨a6, q6, _⟩ := DataW.trod_bool Tryd.underlying4 h6
    simp only [List.cons.injEq, and_true] at q6
    subst q6
    have h7 := hg 7 _ rfl
    simp only [List.getElem_toArray, List.getElem_cons_zero, List.getElem_cons_succ] at h7
    rw [List.getElem?_eq_getElem (by omega), e3] at h7
    simp only [Value.cells, List.drop_zero, List.take_succ_cons, List.take_zero, List.drop_succ_cons] at h7
    obtain ⟨a7, q7, _⟩ := DataW.trod_int Tryd.underlying3 h7
    simp only [List.cons.injEq, and_true] at q7
    subst q7
    have h8 := hg 8 _ rfl
    simp only [List.getElem_toArray, List.getElem_cons_zero, List.getElem_cons_succ] at h8
    rw [List.getElem?_eq_getElem (by omega), e3] at h8
    simp only [Value.cells, List.drop_zero, List.take_succ_cons, List.take_zero, List.drop_succ_cons] at h8
    obtain ⟨a8, q8, _⟩ := DataW.trod_int Tryd.underlying3 h8
    simp only [List.cons.injEq, and_true] at q8
    subst q8
    have h9 := hg 9 _ rfl
    simp only [List.getElem_toArray, List.getElem_cons_zero, List.getElem_cons_succ] at h9
    rw [List.getElem?_eq_getElem (by omega), e3] at h9
    simp only [Value.cells, List.drop_zero, List.take_succ_cons, List.take_zero, List.drop_succ_cons] at h9
    obtain ⟨a9, q9, _⟩ := DataW.trod_int Tryd.underlying3 h9
    simp only [List.cons.injEq, and_true] at q9
    subst q9
    have h10 := hg 10 _ rfl
    simp only [List.getElem_toArray, List.getElem_cons_zero, List.getElem_cons_succ] at h10
    rw [List.getElem?_eq_getElem (by omega), e42] at h10
    simp only [Value.cells, List.drop_zero, List.take_succ_cons, List.take_zero, List.drop_succ_cons] at h10
    obtain ⟨bs, hb⟩ := bars_of_cell h10
    exact ⟨⟨a0, a1, a2, a3, a4, a5, a6, a7, a8, a9⟩, c10, bs, rfl, hb⟩
end Go.Proofs.YtolbecinjajejaaDoor
