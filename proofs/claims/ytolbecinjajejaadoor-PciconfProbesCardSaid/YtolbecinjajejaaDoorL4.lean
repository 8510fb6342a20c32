/- Rows of elements of several cells: as lists of cells, and back. -/
import Derived.Test.YtolbecinjajejaaDoorL3
set_option linter.unusedVariables false
namespace Go.My
open Go.RowKit

section
variable {α : Type} (enc : α → List Value) (sz : Nat)
/-- A slice whose elements are laid by enc, sz cells each. -/
def RowE (Ok : Nat → Prop) (w : World) (v : Value) (xs : List α) : Prop := RowR (fun x cs => cs = enc x) sz Ok w v xs
variable {enc sz}
theorem flat_len (hs : ∀ x, (enc x).length = sz) (xs : List α) : (xs.flatMap enc).length = xs.length * sz := by
  induction xs with
  | nil => simp
  | cons x xs ih => simp [List.flatMap_cons, ih, hs, Nat.add_mul]; omega
theorem flat_at (hs : ∀ x, (enc x).length = sz) (xs : List α) (i j : Nat) (hi : i < xs.length) (hj : j < sz) : (xs.flatMap enc)[i * sz + j]? = (enc xs[i])[j]? := by
  induction xs generalizing i with
  | nil => simp at hi
  | cons x xs ih =>
    rw [List.flatMap_cons]
    cases i with
    | zero => simp only [Nat.zero_mul, Nat.zero_add, List.getElem_cons_zero]; rw [List.getElem?_append_left (by rw [hs]; exact hj)]
    | succ i =>
      rw [List.getElem?_append_right (by rw [hs, Nat.add_mul]; omega), hs, show (i + 1) * sz + j - sz = i * sz + j by rw [Nat.add_mul]; omega, ih i (by simpa using hi)]
      rfl
theorem flat_split (h0 : 0 < sz) (xs : List α) (k : Nat) (h : k < xs.length * sz) : k / sz < xs.length ∧ k % sz < sz ∧ (k / sz) * sz + k % sz = k :=
  ⟨(Nat.div_lt_iff_lt_mul h0).2 h, Nat.mod_lt _ h0, Nat.div_add_mod' k sz⟩
theorem RowE.reads {O : Nat → Prop} {w : World} {A : Option Addr} {n c : Nat} {xs : List α} (hs : ∀ x, (enc x).length = sz) (h0 : 0 < sz) (h : RowE enc sz O w (.slice A n c) xs) : n = xs.length ∧ Reads w w.heap.size sz A n (xs.flatMap enc) := by
  obtain ⟨A', c', hv, hl, hm, h⟩ := h
  injection hv with e1 e2 e3
  subst e1 e2 e3
  refine ⟨rfl, flat_len hs xs, fun hn => ?_⟩
  rcases h with rfl | ⟨b, off, rfl, _, hb, hc⟩
  · simp at hn
  · refine ⟨_, rfl, hb, fun k u hu => ?_⟩
    have hk : k < xs.length * sz := by
      rw [← flat_len hs]
      exact (List.getElem?_eq_some_iff.1 hu).1
    obtain ⟨h1, h2, h3⟩ := flat_split h0 xs k hk
    obtain ⟨cs, q1, q2, q3⟩ := hc (k / sz) h1
    rw [add_plain]
    have := q3 (k % sz) h2
    rw [Nat.add_assoc, h3, q2, ← flat_at hs xs _ _ h1 h2, h3] at this
    rw [this, hu]
theorem RowE.of_own {w : World} {base e : Nat} {v : Value} {n : Nat} {xs : List α} (hs : ∀ x, (enc x).length = sz) (h0 : 0 < sz) (h : w.ownsRow base e sz v n (xs.flatMap enc)) : RowE enc sz (fun k => base ≤ k) w v xs := by
  have hl := h.1
  rw [flat_len hs] at hl
  have hn : xs.length = n := Nat.eq_of_mul_eq_mul_right h0 hl
  subst hn
  rcases h.2 with ⟨rfl, h1⟩ | ⟨g, cap, cur, rfl, hb, hg, hc, hm, hcs, ht⟩
  · refine ⟨none, 0, by rw [h1], by omega, by simp [maxLen], .inl (List.eq_nil_of_length_eq_zero h1)⟩
  · refine ⟨_, _, rfl, hc, hm, .inr ⟨g, 0, rfl, hb, blk_lt hg, fun i hi => ⟨enc xs[i], hs _, rfl, fun j hj => ?_⟩⟩⟩
    have hk : i * sz + j < xs.length * sz := by
      have h1 : (i + 1) * sz ≤ xs.length * sz := Nat.mul_le_mul_right sz hi
      have h2 : (i + 1) * sz = i * sz + sz := by rw [Nat.add_mul, Nat.one_mul]
      omega
    have h1 : w.cell? ⟨g, 0 + i * sz + j, none⟩ = cur[0 + i * sz + j]? := Blk.cell (cs := cur) (t := e) hg _
    rw [h1, Nat.zero_add, ← flat_at hs xs i j hi hj, ← ht, List.getElem?_take, if_pos hk, Array.getElem?_toList]
theorem RowE.keep {O S : Nat → Prop} {w w1 : World} {v : Value} {xs : List α} (h : RowE enc sz O w v xs) (hk : Keep S w w1) (hn : ∀ g, O g → g < w.heap.size → ¬ S g) : RowE enc sz O w1 v xs := RowR.keep h hk hn
theorem RowE.keepN {O : Nat → Prop} {w w1 : World} {v : Value} {xs : List α} (h : RowE enc sz O w v xs) (hk : Keep Non w w1) : RowE enc sz O w1 v xs := RowR.keep h hk (fun _ _ _ h => h)
theorem RowE.mono {O O' : Nat → Prop} {w : World} {v : Value} {xs : List α} (h : RowE enc sz O w v xs) (hn : ∀ g, g < w.heap.size → O g → O' g) : RowE enc sz O' w v xs := by
  obtain ⟨A, c, hv, hl, hm, h⟩ := h
  refine ⟨A, c, hv, hl, hm, ?_⟩
  rcases h with h | ⟨b, off, h1, h2, h3, h4⟩
  · exact .inl h
  · exact .inr ⟨b, off, h1, hn b h3 h2, h3, h4⟩
theorem RowE.nil (O : Nat → Prop) (w : World) : RowE enc sz O w (.slice none 0 0) [] := ⟨none, 0, rfl, Nat.le_refl _, by simp [maxLen], .inl rfl⟩
end
end Go.My
