/- Slices of elements of several cells that are read; how such a slice that came in is opened. -/
import Derived.Test.YtolbecinjajejaaDoorL1
import Derived.Deep.Slices
import Derived.Deep.Strs
import Derived.ChangeArms
import Derived.ProofKit
set_option linter.unusedVariables false
namespace Go.My
open Go.RowKit Go.Deep Go.WideShapes

/-- A slice whose elements, sz cells each, read by R as xs; they lie in blocks of Ok. -/
def RowR {α : Type} (R : α → List Value → Prop) (sz : Nat) (Ok : Nat → Prop) (w : World) (v : Value) (xs : List α) : Prop :=
  ∃ A cap, v = .slice A xs.length cap ∧ xs.length ≤ cap ∧ cap ≤ maxLen ∧ (xs = [] ∨ ∃ b off, A = some ⟨b, off, none⟩ ∧ Ok b ∧ b < w.heap.size ∧
    ∀ i (h : i < xs.length), ∃ cs : List Value, cs.length = sz ∧ R xs[i] cs ∧ ∀ j, j < sz → w.cell? ⟨b, off + i * sz + j, none⟩ = cs[j]?)

theorem cell_of_cells {w : World} {a : Addr} {n base : Nat} {cs : List Value} (h : w.cells? base a n = some cs) : cs.length = n ∧ ∀ j, j < n → w.cell? (a.add j) = cs[j]? := (World.cells?_some h).2

theorem add_plain (b off n : Nat) : (⟨b, off, none⟩ : Addr).add n = ⟨b, off + n, none⟩ := by
  unfold Addr.add
  by_cases h : n = 0
  · subst h; rfl
  · simp [h]

theorem rowR_of_trod {H : Type} {enc : TypeId × Value → H} {P : Program} {w : World} {base : Nat} {t e sz : Nat} {α : Type} (R : α → List Value → Prop) (ht : P.underlying t = some (.slice e)) (hsz : P.cellsOf e = sz) (h0 : 0 < sz)
    (dec : ∀ n cs y, cs.length = sz → DataW.trod enc P w 0 (fun _ => true) true n e cs = some y → ∃ x : α, R x cs) {v : Value} (hw : Value.okWide P w .any base t v) {d : DataW H} {p : List MemPlace}
    (h : DataW.Trod enc P w 0 (fun _ => true) true t v d p) : ∃ xs : List α, RowR R sz (fun _ => True) w v xs := by
  obtain ⟨a0, len0, cap0, rfl⟩ := okWide_slice ht hw
  obtain ⟨fuel, hf⟩ := h
  rcases open_slice ht hf with ⟨hcs, _⟩ | ⟨a, len, cap, m, n, D, Pl, hcs, _, hl, hm, hmm, _, hx⟩
  · simp [Value.cells] at hcs
    obtain ⟨rfl, rfl, rfl⟩ := hcs
    exact ⟨[], none, 0, rfl, Nat.le_refl _, by simp [maxLen], .inl rfl⟩
  · simp [Value.cells] at hcs
    obtain ⟨rfl, rfl, rfl⟩ := hcs
    simp only [if_true] at hmm
    subst hmm
    rw [hsz] at hx
    have hy : ∀ i, i < len0 → ∃ x : α, ∃ cs : List Value, cs.length = sz ∧ R x cs ∧ ∀ j, j < sz → w.cell? ((a.add (i * sz)).add j) = cs[j]? := by
      intro i hi
      obtain ⟨cs, h1, h2⟩ := hx i (by omega)
      obtain ⟨h3, h4⟩ := cell_of_cells h1
      obtain ⟨x, hr⟩ := dec n cs _ h3 h2
      exact ⟨x, cs, h3, hr, h4⟩
    have hlen : (List.ofFn fun i : Fin len0 => Classical.choose (hy i.1 i.2)).length = len0 := by simp
    refine ⟨List.ofFn fun i : Fin len0 => Classical.choose (hy i.1 i.2), some a, _, by rw [hlen], by omega, hm, ?_⟩
    rcases Nat.eq_zero_or_pos len0 with hz | hz
    · left
      exact List.eq_nil_of_length_eq_zero (by rw [hlen]; exact hz)
    · right
      obtain ⟨_, cs0, hc1, _, hc2⟩ := hy 0 hz
      have h1 := hc2 0 h0
      have hs : a.spot = none := by
        cases hsp : a.spot with
        | none => rfl
        | some q =>
          exfalso
          rw [List.getElem?_eq_getElem (by omega)] at h1
          simp only [Nat.zero_mul, Addr.add, if_true, World.cell?, hsp, Option.isSome_some] at h1
          split at h1 <;> simp at h1
      obtain ⟨b, off, spot⟩ := a
      simp only at hs
      subst hs
      have hb : b < w.heap.size := by
        rw [List.getElem?_eq_getElem (by omega)] at h1
        simp only [Nat.zero_mul, add_plain] at h1
        exact World.block_lt_of_cell? w _ h1
      refine ⟨b, off, rfl, trivial, hb, fun i hi => ?_⟩
      have hi' : i < len0 := by omega
      have hch := Classical.choose_spec (hy i hi')
      obtain ⟨cs, q1, q2, q3⟩ := hch
      refine ⟨cs, q1, by simpa using q2, fun j hj => ?_⟩
      have := q3 j hj
      rw [add_plain, add_plain] at this
      exact this

section
variable {α : Type} {R : α → List Value → Prop} {sz : Nat}
theorem RowR.keep {Ok S : Nat → Prop} {w w1 : World} {v : Value} {xs : List α} (h : RowR R sz Ok w v xs) (hk : Keep S w w1) (hn : ∀ g, Ok g → g < w.heap.size → ¬ S g) : RowR R sz Ok w1 v xs := by
  obtain ⟨A, cap, hv, hl, hm, h⟩ := h
  refine ⟨A, cap, hv, hl, hm, ?_⟩
  rcases h with h | ⟨b, off, hA, hO, hb, hc⟩
  · exact .inl h
  · refine .inr ⟨b, off, hA, hO, Nat.lt_of_lt_of_le hb hk.size, fun i hi => ?_⟩
    obtain ⟨cs, q1, q2, q3⟩ := hc i hi
    exact ⟨cs, q1, q2, fun j hj => (hk.cell (p := ⟨b, off + i * sz + j, none⟩) hb (hn b hO hb)).trans (q3 j hj)⟩
theorem rowR_at (d : α) {O : Nat → Prop} {A : Option Addr} {w : World} {xs : List α} (h : xs = [] ∨ ∃ b off, A = some ⟨b, off, none⟩ ∧ O b ∧ b < w.heap.size ∧
    ∀ i (h : i < xs.length), ∃ cs : List Value, cs.length = sz ∧ R xs[i] cs ∧ ∀ j, j < sz → w.cell? ⟨b, off + i * sz + j, none⟩ = cs[j]?) {i : Nat} (hi : i < xs.length) :
    ∃ b off cs, A = some ⟨b, off, none⟩ ∧ cs.length = sz ∧ R (at1 d xs i) cs ∧ ∀ j, j < sz → w.cell? ⟨b, off + i * sz + j, none⟩ = cs[j]? := by
  rcases h with rfl | ⟨b, off, h1, _, _, h2⟩
  · simp at hi
  · obtain ⟨cs, q1, q2, q3⟩ := h2 i hi
    exact ⟨b, off, cs, h1, q1, by rw [← at1_eq d xs i hi]; exact q2, q3⟩
end
end Go.My
