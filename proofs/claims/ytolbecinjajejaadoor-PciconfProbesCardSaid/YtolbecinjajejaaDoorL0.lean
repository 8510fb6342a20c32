/- Small facts about worlds: which blocks a step keeps; slices of whole numbers that are read. -/
import Derived.WalkKit
import Derived.Deep.Draws
import Derived.Deep.LoopGhost
import Derived.Deep.QuietTactic
import Derived.BigQuiet
import Derived.Lib.Hide
set_option linter.unusedVariables false
namespace Go.My
open Go.RowKit

/-- Every block of w outside S is in w' as it was. -/
structure Keep (S : Nat → Prop) (w w' : World) : Prop where
  os : w'.os = w.os
  tape : w'.tape = w.tape
  output : w'.output = w.output
  size : w.heap.size ≤ w'.heap.size
  block : ∀ k, k < w.heap.size → ¬ S k → w'.heap[k]? = w.heap[k]?

/-- Nothing. -/
def Non (_ : Nat) : Prop := False
/-- One block. -/
def One (g : Nat) (k : Nat) : Prop := k = g

namespace Keep
variable {S S' : Nat → Prop} {w w1 w2 : World}
theorem refl (S : Nat → Prop) (w : World) : Keep S w w := ⟨rfl, rfl, rfl, Nat.le_refl _, fun _ _ _ => rfl⟩
theorem trans (h : Keep S w w1) (k : Keep S' w1 w2) (hs : ∀ g, g < w.heap.size → S' g → S g) : Keep S w w2 :=
  ⟨k.os.trans h.os, k.tape.trans h.tape, k.output.trans h.output, Nat.le_trans h.size k.size, fun i hi hn =>
    (k.block i (Nat.lt_of_lt_of_le hi h.size) (fun hs' => hn (hs i hi hs'))).trans (h.block i hi hn)⟩
theorem tr (h : Keep S w w1) (k : Keep S w1 w2) : Keep S w w2 := h.trans k (fun _ _ h => h)
theorem trN (h : Keep S w w1) (k : Keep Non w1 w2) : Keep S w w2 := h.trans k (fun _ _ h => h.elim)
theorem mono (h : Keep S w w1) (hs : ∀ g, S g → S' g) : Keep S' w w1 := ⟨h.os, h.tape, h.output, h.size, fun i hi hn => h.block i hi (fun x => hn (hs i x))⟩
theorem any (h : Keep Non w w1) : Keep S w w1 := h.mono (fun _ h => h.elim)
theorem alloc (h : Keep S w w1) (o : Obj) : Keep S w (w1.alloc o) :=
  ⟨h.os, h.tape, h.output, by have := h.size; simp; omega, fun i hi hn => (Below.heap_alloc w1 o i (Nat.lt_of_lt_of_le hi h.size)).trans (h.block i hi hn)⟩
theorem drew (h : Keep S w w1) : Keep S w w1.drew := ⟨h.os, h.tape, h.output, h.size, h.block⟩
theorem drewN (h : Keep S w w1) (n : Nat) : Keep S w (w1.drewN n) := ⟨h.os, h.tape, h.output, h.size, h.block⟩
/-- A store into a block of S, or a new one. -/
theorem set (h : Keep S w w1) {p : Addr} (hp : p.block < w.heap.size → S p.block) (u : Value) : Keep S w (w1.setCell p u) :=
  ⟨h.os, h.tape, h.output, by simpa [World.setCell] using h.size, fun i hi hn =>
    (Below.heap_setCell w1 p u i (fun e => hn (by subst e; exact hp hi))).trans (h.block i hi hn)⟩
theorem setNew (h : Keep S w w1) {p : Addr} (hp : w.heap.size ≤ p.block) (u : Value) : Keep S w (w1.setCell p u) := h.set (fun h => by omega) u
theorem grown (h : Keep S w w1) {row : Option Nat} (hg : w1.grownBy w2 row) (hr : ∀ k, row = some k → k < w.heap.size → S k) : Keep S w w2 :=
  ⟨hg.os.trans h.os, hg.tape.trans h.tape, hg.output.trans h.output, Nat.le_trans h.size hg.size, fun i hi hn =>
    (hg.block i (Nat.lt_of_lt_of_le hi h.size) (fun e => hn (hr i e.symm hi))).trans (h.block i hi hn)⟩
theorem of_below (h : Below w.heap.size w w1) : Keep S w w1 := ⟨h.os, h.tape, h.output, h.size, fun i hi _ => h.block i hi⟩
theorem below (h : Keep S w w1) {B : Nat} (hB : B ≤ w.heap.size) (hs : ∀ g, g < B → ¬ S g) : Below B w w1 :=
  ⟨h.os, h.tape, h.output, h.size, fun i hi => h.block i (by omega) (hs i hi)⟩
theorem belowN (h : Keep Non w w1) : Below w.heap.size w w1 := h.below (Nat.le_refl _) (fun _ _ h => h)
theorem cell (h : Keep S w w1) {p : Addr} (hp : p.block < w.heap.size) (hn : ¬ S p.block) : w1.cell? p = w.cell? p := World.cell?_of_block (h.block _ hp hn)
theorem cell' (h : Keep S w w1) {p : Addr} {v : Value} (hc : w.cell? p = some v) (hn : ¬ S p.block) : w1.cell? p = some v :=
  (h.cell (World.block_lt_of_cell? w p hc) hn).trans hc
theorem blk (h : Keep S w w1) {g : Nat} {o : Obj} (hb : w.heap[g]? = some o) (hn : ¬ S g) : w1.heap[g]? = some o := by
  have hlt : g < w.heap.size := by
    rcases Nat.lt_or_ge g w.heap.size with h | h
    · exact h
    · simp [Array.getElem?_eq_none h] at hb
  exact (h.block g hlt hn).trans hb
end Keep

theorem blk_lt {w : World} {g : Nat} {o : Obj} (hb : w.heap[g]? = some o) : g < w.heap.size := by
  rcases Nat.lt_or_ge g w.heap.size with h | h
  · exact h
  · simp [Array.getElem?_eq_none h] at hb

/-- A block of cells that is the call's own: nothing in it is frozen. -/
def Blk (w : World) (g : Nat) (cs : Array Value) (t : TypeId) : Prop := w.heap[g]? = some (.cells cs t (0, 0))
theorem Blk.lt {w : World} {g : Nat} {cs : Array Value} {t : TypeId} (h : Blk w g cs t) : g < w.heap.size := blk_lt h
theorem Blk.cell {w : World} {g : Nat} {cs : Array Value} {t : TypeId} (h : Blk w g cs t) (i : Nat) : w.cell? ⟨g, i, none⟩ = cs[i]? := by
  unfold Blk at h; simp [World.cell?, h]
theorem Blk.free {w : World} {g : Nat} {cs : Array Value} {t : TypeId} (h : Blk w g cs t) (i : Nat) : w.frozen? ⟨g, i, none⟩ = false := by
  unfold Blk at h; simp [World.frozen?, h]
theorem Blk.new (w : World) (cs : Array Value) (t : TypeId) : Blk (w.alloc (.cells cs t)) w.heap.size cs t := by
  show (w.heap.push _)[w.heap.size]? = _
  simp
theorem Blk.new' {w : World} {g : Nat} {cs : Array Value} {t : TypeId} (h : g = w.heap.size) : Blk (w.alloc (.cells cs t)) g cs t := h ▸ Blk.new w cs t
theorem Blk.alloc {w : World} {g : Nat} {cs : Array Value} {t : TypeId} (h : Blk w g cs t) (o : Obj) : Blk (w.alloc o) g cs t := (Below.heap_alloc w o g h.lt).trans h
theorem Blk.drew {w : World} {g : Nat} {cs : Array Value} {t : TypeId} (h : Blk w g cs t) : Blk w.drew g cs t := h
theorem Blk.drewN {w : World} {g : Nat} {cs : Array Value} {t : TypeId} (h : Blk w g cs t) (n : Nat) : Blk (w.drewN n) g cs t := h
theorem Blk.keep {S : Nat → Prop} {w w1 : World} {g : Nat} {cs : Array Value} {t : TypeId} (h : Blk w g cs t) (k : Keep S w w1) (hn : ¬ S g) : Blk w1 g cs t := k.blk h hn
theorem Blk.set {w : World} {g : Nat} {cs : Array Value} {t : TypeId} (h : Blk w g cs t) (i : Nat) (v : Value) : Blk (w.setCell ⟨g, i, none⟩ v) g (cs.setIfInBounds i v) t := by
  unfold Blk at *
  simp [World.setCell, Array.getElem?_modify, h]
theorem Blk.far {w : World} {g : Nat} {cs : Array Value} {t : TypeId} (h : Blk w g cs t) {p : Addr} (hp : g ≠ p.block) (v : Value) : Blk (w.setCell p v) g cs t :=
  (Below.heap_setCell w p v g hp).trans h
theorem Blk.ne {w : World} {g g' : Nat} {cs cs' : Array Value} {t t' : TypeId} (h : Blk w g cs t) (h' : Blk w g' cs' t') (ht : t ≠ t') : g ≠ g' := by
  rintro rfl
  unfold Blk at *
  rw [h] at h'
  injection h' with h'
  injection h' with _ h'
  exact ht h'

/-- A slice that reads as whole numbers; its elements lie in blocks of Ok. -/
def Ints (Ok : Nat → Prop) (k : IntKind) (w : World) (v : Value) (xs : List Int) : Prop :=
  ∃ A cap, v = .slice A xs.length cap ∧ xs.length ≤ cap ∧ (xs = [] ∨ ∃ b off, A = some ⟨b, off, none⟩ ∧ Ok b ∧ b < w.heap.size ∧ ∀ i (h : i < xs.length), w.cell? ⟨b, off + i, none⟩ = some (.int k xs[i]))

theorem Ints.nil (Ok : Nat → Prop) (k : IntKind) (w : World) : Ints Ok k w (.slice none 0 0) [] := ⟨none, 0, rfl, Nat.le_refl _, .inl rfl⟩
theorem Ints.keep {Ok S : Nat → Prop} {k : IntKind} {w w1 : World} {v : Value} {xs : List Int} (h : Ints Ok k w v xs) (hk : Keep S w w1) (hn : ∀ g, Ok g → g < w.heap.size → ¬ S g) : Ints Ok k w1 v xs := by
  obtain ⟨A, cap, hv, hl, h⟩ := h
  refine ⟨A, cap, hv, hl, ?_⟩
  rcases h with h | ⟨b, off, hA, hO, hb, hc⟩
  · exact .inl h
  · exact .inr ⟨b, off, hA, hO, Nat.lt_of_lt_of_le hb hk.size, fun i hi => (hk.cell (p := ⟨b, off + i, none⟩) hb (hn b hO hb)).trans (hc i hi)⟩
theorem Ints.keepN {Ok : Nat → Prop} {k : IntKind} {w w1 : World} {v : Value} {xs : List Int} (h : Ints Ok k w v xs) (hk : Keep Non w w1) : Ints Ok k w1 v xs := h.keep hk (fun _ _ _ h => h)
theorem Ints.mono {Ok Ok' : Nat → Prop} {k : IntKind} {w : World} {v : Value} {xs : List Int} (h : Ints Ok k w v xs) (hn : ∀ g, g < w.heap.size → Ok g → Ok' g) : Ints Ok' k w v xs := by
  obtain ⟨A, cap, hv, hl, h⟩ := h
  refine ⟨A, cap, hv, hl, ?_⟩
  rcases h with h | ⟨b, off, hA, hO, hb, hc⟩
  · exact .inl h
  · exact .inr ⟨b, off, hA, hn b hb hO, hb, hc⟩
/-- A new block that holds just these numbers. -/
theorem Ints.of_blk {k : IntKind} {w : World} {g : Nat} {t : TypeId} (xs : List Int) {cs : Array Value} (hb : Blk w g cs t) (hc : cs.toList = xs.map (.int k)) : Ints (One g) k w (.slice (some ⟨g, 0, none⟩) xs.length xs.length) xs :=
  ⟨_, _, rfl, Nat.le_refl _, .inr ⟨g, 0, rfl, rfl, hb.lt, fun i hi => by
    rw [hb.cell, ← Array.getElem?_toList, hc]
    simp [hi]⟩⟩

/-- The same, a step or more behind its making. -/
theorem Ints.made {k : IntKind} {w w' : World} {t : TypeId} (xs : List Int) {cs : Array Value} (hb : Blk w' w.heap.size cs t) (hc : cs.toList = xs.map (.int k)) : Ints (fun k => w.heap.size ≤ k) k w' (.slice (some ⟨w.heap.size, 0, none⟩) xs.length xs.length) xs :=
  (Ints.of_blk xs hb hc).mono (fun g _ h => by rw [h]; exact Nat.le_refl _)
theorem Blk.set' {w : World} {g : Nat} {cs cs' : Array Value} {t : TypeId} {i : Nat} {v : Value} (h : Blk w g cs t) (hc : cs.setIfInBounds i v = cs') : Blk (w.setCell ⟨g, i, none⟩ v) g cs' t := hc ▸ h.set i v

theorem Keep.setOne {g : Nat} {w w1 : World} (h : Keep (One g) w w1) (i : Nat) (v : Value) : Keep (One g) w (w1.setCell ⟨g, i, none⟩ v) := h.set (p := ⟨g, i, none⟩) (fun _ => (rfl : g = g)) v
theorem Blk.s3_0 {w : World} {g : Nat} {a b c : Value} {t : TypeId} (h : Blk w g #[a, b, c] t) (v : Value) : Blk (w.setCell ⟨g, 0, none⟩ v) g #[v, b, c] t := h.set 0 v
theorem Blk.s3_1 {w : World} {g : Nat} {a b c : Value} {t : TypeId} (h : Blk w g #[a, b, c] t) (v : Value) : Blk (w.setCell ⟨g, 1, none⟩ v) g #[a, v, c] t := h.set 1 v
theorem Blk.s3_2 {w : World} {g : Nat} {a b c : Value} {t : TypeId} (h : Blk w g #[a, b, c] t) (v : Value) : Blk (w.setCell ⟨g, 2, none⟩ v) g #[a, b, v] t := h.set 2 v

theorem max2_int (k k' : IntKind) (x y : Int) : Builtin.max2 (.int k x) (.int k' y) = pure (.int k (if x < y then y else x)) := by simp only [Builtin.max2, gt_iff_lt]
theorem min2_int (k k' : IntKind) (x y : Int) : Builtin.min2 (.int k x) (.int k' y) = pure (.int k (if y < x then y else x)) := by simp only [Builtin.min2]
theorem max_two (ats : Array TypeId) (ty : TypeId) (a b : Value) : Builtin.max_ ats ty #[a, b] = (Builtin.max2 a b >>= fun s => pure s) := by simp only [Builtin.max_, List.foldlM_cons, List.foldlM_nil]
theorem min_two (ats : Array TypeId) (ty : TypeId) (a b : Value) : Builtin.min_ ats ty #[a, b] = (Builtin.min2 a b >>= fun s => pure s) := by simp only [Builtin.min_, List.foldlM_cons, List.foldlM_nil]

/-- What the row's own frame tells of a slice of whole numbers that came in. -/
theorem ints_of_row {k : IntKind} {w : World} {a : Option Addr} {len cap : Nat} {zs : List Int}
    (h : (a = none ∧ len = 0 ∧ cap = 0 ∧ zs = []) ∨ ∃ x, a = some x ∧ len ≤ cap ∧ cap ≤ maxLen ∧ zs.length = cap ∧ (∀ i, i < zs.length → w.cell? (x.add i) = some (.int k (zs.getD i 0))) ∧ ∀ n ∈ zs, (Lit.int k n).wf = true) :
    ∃ xs : List Int, xs.length = len ∧ len ≤ maxLen ∧ Ints (fun _ => True) k w (.slice a len cap) xs ∧ ∀ n ∈ xs, (Lit.int k n).wf = true := by
  rcases h with ⟨rfl, rfl, rfl, rfl⟩ | ⟨x, rfl, hl, hm, hz, hc, hw⟩
  · exact ⟨[], rfl, by simp [maxLen], Ints.nil _ _ _, by simp⟩
  · have hlen : (zs.take len).length = len := by rw [List.length_take]; omega
    refine ⟨zs.take len, hlen, Nat.le_trans hl hm, ⟨some x, cap, by rw [hlen], by omega, ?_⟩, fun n hn => hw n (List.mem_of_mem_take hn)⟩
    rcases Nat.eq_zero_or_pos len with h0 | h0
    · left; rw [h0]; rfl
    · right
      have h1 := hc 0 (by omega)
      have hs : x.spot = none := by
        cases hsp : x.spot with
        | none => rfl
        | some q =>
          exfalso
          simp only [Addr.add, if_true, World.cell?, hsp, Option.isSome_some] at h1
          split at h1 <;> simp at h1
      obtain ⟨b, off, spot⟩ := x
      simp only at hs
      subst hs
      refine ⟨b, off, rfl, trivial, World.block_lt_of_cell? w _ (by simpa [Addr.add] using h1), fun i hi => ?_⟩
      have hi' : i < zs.length := by omega
      have h2 := hc i hi'
      have e : (⟨b, off, none⟩ : Addr).add i = ⟨b, off + i, none⟩ := by
        unfold Addr.add
        by_cases hi0 : i = 0
        · subst hi0; rfl
        · simp [hi0]
      rw [e] at h2
      rw [h2]
      simp [List.getD, hi']

end Go.My
