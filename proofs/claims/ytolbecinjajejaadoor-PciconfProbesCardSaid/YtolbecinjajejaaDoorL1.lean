/- Slices of one-cell values that are read. -/
import Derived.Test.YtolbecinjajejaaDoorL0
set_option linter.unusedVariables false
namespace Go.My
open Go.RowKit

/-- A slice whose elements, one cell each, read as xs; they lie in blocks of Ok. -/
def Row1 {α : Type} (enc : α → Value) (Ok : Nat → Prop) (w : World) (v : Value) (xs : List α) : Prop :=
  ∃ A cap, v = .slice A xs.length cap ∧ xs.length ≤ cap ∧ (xs = [] ∨ ∃ b off, A = some ⟨b, off, none⟩ ∧ Ok b ∧ b < w.heap.size ∧ ∀ i (h : i < xs.length), w.cell? ⟨b, off + i, none⟩ = some (enc xs[i]))
section
variable {α : Type} {enc : α → Value}
theorem Row1.nil (Ok : Nat → Prop) (w : World) : Row1 enc Ok w (.slice none 0 0) [] := ⟨none, 0, rfl, Nat.le_refl _, .inl rfl⟩
theorem Row1.keep {Ok S : Nat → Prop} {w w1 : World} {v : Value} {xs : List α} (h : Row1 enc Ok w v xs) (hk : Keep S w w1) (hn : ∀ g, Ok g → g < w.heap.size → ¬ S g) : Row1 enc Ok w1 v xs := by
  obtain ⟨A, cap, hv, hl, h⟩ := h
  refine ⟨A, cap, hv, hl, ?_⟩
  rcases h with h | ⟨b, off, hA, hO, hb, hc⟩
  · exact .inl h
  · exact .inr ⟨b, off, hA, hO, Nat.lt_of_lt_of_le hb hk.size, fun i hi => (hk.cell (p := ⟨b, off + i, none⟩) hb (hn b hO hb)).trans (hc i hi)⟩
theorem Row1.keepN {Ok : Nat → Prop} {w w1 : World} {v : Value} {xs : List α} (h : Row1 enc Ok w v xs) (hk : Keep Non w w1) : Row1 enc Ok w1 v xs := h.keep hk (fun _ _ _ h => h)
/-- A new block that holds just these. -/
theorem Row1.made {w w' : World} {t : TypeId} (xs : List α) {cs : Array Value} (hb : Blk w' w.heap.size cs t) (hc : cs.toList = xs.map enc) : Row1 enc (fun k => w.heap.size ≤ k) w' (.slice (some ⟨w.heap.size, 0, none⟩) xs.length xs.length) xs :=
  ⟨_, _, rfl, Nat.le_refl _, .inr ⟨w.heap.size, 0, rfl, Nat.le_refl _, hb.lt, fun i hi => by
    rw [hb.cell, ← Array.getElem?_toList, hc]
    simp [hi]⟩⟩
/-- The k-th element. -/
def at1 (d : α) (xs : List α) (k : Nat) : α := xs.getD k d
theorem at1_eq (d : α) (xs : List α) (k : Nat) (h : k < xs.length) : xs[k] = at1 d xs k := by simp [at1, h]
theorem row1_at (d : α) {O : Nat → Prop} {A : Option Addr} {w : World} {xs : List α} (h : xs = [] ∨ ∃ b off, A = some ⟨b, off, none⟩ ∧ O b ∧ b < w.heap.size ∧ ∀ i (h : i < xs.length), w.cell? ⟨b, off + i, none⟩ = some (enc xs[i])) {i : Nat} (hi : i < xs.length) :
    ∃ b off, A = some ⟨b, off, none⟩ ∧ w.cell? ⟨b, off + i, none⟩ = some (enc (at1 d xs i)) := by
  rcases h with rfl | ⟨b, off, h1, _, _, h2⟩
  · simp at hi
  · exact ⟨b, off, h1, by rw [h2 i hi, at1_eq d]⟩
end
end Go.My
