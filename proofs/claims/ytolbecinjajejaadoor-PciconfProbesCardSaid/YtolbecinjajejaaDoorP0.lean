/- Functions of a board and their registers: the values, and what is valid. -/
import Derived.Test.YtolbecinjajejaaDoorL2
import Derived.Test.YtolbecinjajejaaDoorProg
namespace Go.Proofs.YtolbecinjajejaaDoor
open Go.RowKit Go.My
set_option linter.unusedVariables false
set_option linter.unusedSimpArgs false

/-- A base address register: kind and size. -/
structure Br where
  k : Int
  s : Int
/-- A function but for its registers. -/
structure Fh where
  parent : Int
  slot : Int
  vendor : Int
  device : Int
  bridge : Bool
  pref : Bool
  hot : Bool
  spare : Int
  pin : Int
  vectors : Int
def fhL (f : Fh) (v : Value) : Array Value := #[.int .i64 f.parent, .int .i64 f.slot, .int .i64 f.vendor, .int .i64 f.device, .bool f.bridge, .bool f.pref, .bool f.hot, .int .i64 f.spare, .int .i64 f.pin, .int .i64 f.vectors, v]
def RBr (x : Br) (cs : List Value) : Prop := cs = [.int .i64 x.k, .int .i64 x.s]
/-- A slice of registers that is read. -/
abbrev Bars (O : Nat → Prop) (w : World) (v : Value) (bs : List Br) : Prop := RowR RBr 2 O w v bs

theorem bars_at {O : Nat → Prop} {w : World} {A : Option Addr} {bs : List Br} (h : bs = [] ∨ ∃ b off, A = some ⟨b, off, none⟩ ∧ O b ∧ b < w.heap.size ∧
    ∀ i (h : i < bs.length), ∃ cs : List Value, cs.length = 2 ∧ RBr bs[i] cs ∧ ∀ j, j < 2 → w.cell? ⟨b, off + i * 2 + j, none⟩ = cs[j]?) {i : Nat} (hi : i < bs.length) :
    ∃ b off, A = some ⟨b, off, none⟩ ∧ w.cell? ⟨b, off + i * 2, none⟩ = some (.int .i64 (at1 ⟨0, 0⟩ bs i).k) ∧ w.cell? ⟨b, off + i * 2 + 1, none⟩ = some (.int .i64 (at1 ⟨0, 0⟩ bs i).s) := by
  obtain ⟨b, off, cs, h1, h2, h3, h4⟩ := rowR_at ⟨0, 0⟩ h hi
  unfold RBr at h3
  subst h3
  exact ⟨b, off, h1, h4 0 (by omega), h4 1 (by omega)⟩

/-- A register is valid. -/
def vBar (k s : Int) : Bool :=
  if k = 0 then decide (s = 0) else if k = 1 then decide (2 ≤ s) && decide (s ≤ 8) else if k = 2 then decide (4 ≤ s) && decide (s ≤ 31) else if k = 3 ∨ k = 4 then decide (4 ≤ s) && decide (s ≤ 40) else false
def dbl (k : Int) : Bool := decide (k = 3) || decide (k = 4)

set_option maxHeartbeats 1000000 in
theorem within_any (n lo hi : Int) (w : World) : Calls Tryd.prog 52 #[.int .i64 n, .int .i64 lo, .int .i64 hi] w fun e w' => e = .returned (.bool (decide (lo ≤ n) && decide (n ≤ hi))) ∧ w = w' := by
  go_enter Tryd.func52, Tryd.ntmps52
  by_cases h1 : lo ≤ n
  · go_wp2
    go_ret
    exact ⟨by simp [h1], rfl⟩
  · have e : decide (lo ≤ n) = false := decide_eq_false h1
    have E := Lib.hid e
    clear e
    go_wp2
    go_ret
    exact ⟨by rw [E.out]; rfl, rfl⟩

set_option maxHeartbeats 1000000 in
theorem double_any (k s : Int) (w : World) : Calls Tryd.prog 55 #[.agg #[.int .i64 k, .int .i64 s]] w fun e w' => e = .returned (.bool (dbl k)) ∧ Keep Non w w' := by
  go_enter Tryd.func55, Tryd.ntmps55
  by_cases h1 : k = 3
  · subst h1
    go_wp2
    go_ret
    exact ⟨rfl, (Keep.refl _ _).alloc _⟩
  · go_wp2
    go_ret
    exact ⟨by by_cases h2 : k = 4 <;> simp [dbl, h1, h2], (Keep.refl _ _).alloc _⟩

set_option maxHeartbeats 1000000 in
theorem barCount_any (f : Fh) (v : Value) (w : World) : Calls Tryd.prog 50 #[.agg (fhL f v)] w fun e w' => e = .returned (.int .i64 (if f.bridge then 2 else 6)) ∧ Keep Non w w' := by
  obtain ⟨f0, f1, f2, f3, f4, f5, f6, f7, f8, f9⟩ := f
  unfold fhL
  go_enter Tryd.func50, Tryd.ntmps50
  cases f4
  · go_wp2
    go_ret
    exact ⟨rfl, (Keep.refl _ _).alloc _⟩
  · go_wp2
    go_ret
    exact ⟨rfl, (Keep.refl _ _).alloc _⟩

set_option maxHeartbeats 4000000 in
theorem validBar_any (k s : Int) (w : World) : Calls Tryd.prog 54 #[.agg #[.int .i64 k, .int .i64 s]] w fun e w' => e = .returned (.bool (vBar k s)) ∧ Keep Non w w' := by
  go_enter Tryd.func54, Tryd.ntmps54
  by_cases h0 : k = 0
  · subst h0
    by_cases h1 : s = 0
    · subst h1
      go_wp2
      go_ret
      exact ⟨rfl, (Keep.refl _ _).alloc _⟩
    · have HV : Hid (vBar 0 s = false) := by simp [vBar, Hid]; try omega
      go_wp2
      go_ret
      exact ⟨by rw [HV.out]; first | rfl | (simp; done) | (simp; omega) | simp_all, (Keep.refl _ _).alloc _⟩
  by_cases h1k : k = 1
  · subst h1k
    by_cases h1 : 2 ≤ s
    · by_cases h2 : s ≤ 8
      · have HV : Hid (vBar 1 s = true) := by simp [vBar, Hid]; try omega
        go_wp2
        go_ret
        exact ⟨by rw [HV.out]; first | rfl | (simp; done) | (simp; omega) | simp_all, (Keep.refl _ _).alloc _⟩
      · have HV : Hid (vBar 1 s = false) := by simp [vBar, Hid]; try omega
        go_wp2
        go_ret
        exact ⟨by rw [HV.out]; first | rfl | (simp; done) | (simp; omega) | simp_all, (Keep.refl _ _).alloc _⟩
    · have HV : Hid (vBar 1 s = false) := by simp [vBar, Hid]; try omega
      go_wp2
      go_ret
      exact ⟨by rw [HV.out]; first | rfl | (simp; done) | (simp; omega) | simp_all, (Keep.refl _ _).alloc _⟩
  by_cases h2k : k = 2
  · subst h2k
    by_cases h1 : 4 ≤ s
    · by_cases h2 : s ≤ 31
      · have HV : Hid (vBar 2 s = true) := by simp [vBar, Hid]; try omega
        go_wp2
        go_ret
        exact ⟨by rw [HV.out]; first | rfl | (simp; done) | (simp; omega) | simp_all, (Keep.refl _ _).alloc _⟩
      · have HV : Hid (vBar 2 s = false) := by simp [vBar, Hid]; try omega
        go_wp2
        go_ret
        exact ⟨by rw [HV.out]; first | rfl | (simp; done) | (simp; omega) | simp_all, (Keep.refl _ _).alloc _⟩
    · have HV : Hid (vBar 2 s = false) := by simp [vBar, Hid]; try omega
      go_wp2
      go_ret
      exact ⟨by rw [HV.out]; first | rfl | (simp; done) | (simp; omega) | simp_all, (Keep.refl _ _).alloc _⟩
  by_cases h3k : k = 3
  · subst h3k
    by_cases h1 : 4 ≤ s
    · by_cases h2 : s ≤ 40
      · have HV : Hid (vBar 3 s = true) := by simp [vBar, Hid]; try omega
        go_wp2
        go_ret
        exact ⟨by rw [HV.out]; first | rfl | (simp; done) | (simp; omega) | simp_all, (Keep.refl _ _).alloc _⟩
      · have HV : Hid (vBar 3 s = false) := by simp [vBar, Hid]; try omega
        go_wp2
        go_ret
        exact ⟨by rw [HV.out]; first | rfl | (simp; done) | (simp; omega) | simp_all, (Keep.refl _ _).alloc _⟩
    · have HV : Hid (vBar 3 s = false) := by simp [vBar, Hid]; try omega
      go_wp2
      go_ret
      exact ⟨by rw [HV.out]; first | rfl | (simp; done) | (simp; omega) | simp_all, (Keep.refl _ _).alloc _⟩
  by_cases h4k : k = 4
  · subst h4k
    by_cases h1 : 4 ≤ s
    · by_cases h2 : s ≤ 40
      · have HV : Hid (vBar 4 s = true) := by simp [vBar, Hid]; try omega
        go_wp2
        go_ret
        exact ⟨by rw [HV.out]; first | rfl | (simp; done) | (simp; omega) | simp_all, (Keep.refl _ _).alloc _⟩
      · have HV : Hid (vBar 4 s = false) := by simp [vBar, Hid]; try omega
        go_wp2
        go_ret
        exact ⟨by rw [HV.out]; first | rfl | (simp; done) | (simp; omega) | simp_all, (Keep.refl _ _).alloc _⟩
    · have HV : Hid (vBar 4 s = false) := by simp [vBar, Hid]; try omega
      go_wp2
      go_ret
      exact ⟨by rw [HV.out]; first | rfl | (simp; done) | (simp; omega) | simp_all, (Keep.refl _ _).alloc _⟩
  have HV : Hid (vBar k s = false) := by simp [vBar, Hid, *]
  go_wp2
  go_ret
  exact ⟨by rw [HV.out]; first | rfl | (simp; done) | (simp; omega) | simp_all, (Keep.refl _ _).alloc _⟩
end Go.Proofs.YtolbecinjajejaaDoor
