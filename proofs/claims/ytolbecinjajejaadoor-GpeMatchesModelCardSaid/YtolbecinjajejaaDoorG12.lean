/- The reference's block of events: Next and WakePending. -/
import Derived.Test.YtolbecinjajejaaDoorG11
set_option linter.unusedVariables false
set_option linter.unusedSimpArgs false
namespace Go.Proofs.YtolbecinjajejaaDoor
open Go.RowKit Go.My

/-- What the search comes to. -/
def firstOf (f : Nat → Bool) : Nat → Nat → Option Nat
  | 0, _ => none
  | n + 1, i => if f i then some i else firstOf f n (i + 1)
theorem firstOf_none {f : Nat → Bool} : ∀ (n i : Nat), firstOf f n i = none → ∀ j, i ≤ j → j < i + n → f j = false
  | 0, i, _, j, h1, h2 => by omega
  | n + 1, i, h, j, h1, h2 => by
    unfold firstOf at h
    split at h
    · cases h
    · rename_i hf
      by_cases e : j = i
      · subst e; simpa using hf
      · exact firstOf_none n (i + 1) h j (by omega) (by omega)
theorem firstOf_some {f : Nat → Bool} : ∀ (n i k : Nat), firstOf f n i = some k → i ≤ k ∧ k < i + n ∧ f k = true ∧ ∀ j, i ≤ j → j < k → f j = false
  | 0, i, k, h => by cases h
  | n + 1, i, k, h => by
    unfold firstOf at h
    split at h
    · rename_i hf
      obtain rfl : i = k := by simpa using h
      exact ⟨Nat.le_refl _, by omega, hf, fun j h1 h2 => by omega⟩
    · rename_i hf
      obtain ⟨h1, h2, h3, h4⟩ := firstOf_some n (i + 1) k h
      refine ⟨by omega, by omega, h3, fun j h5 h6 => ?_⟩
      by_cases e : j = i
      · subst e; simpa using hf
      · exact h4 j (by omega) h6

def rdy (b : G) (i : Nat) : Bool := bg b.st i && bg b.en i && !(bg b.hd i)
def nextV : Option Nat → Value
  | none => .tuple #[.int .i64 0, .bool false]
  | some k => .tuple #[.int .i64 k, .bool true]

set_option maxHeartbeats 4000000 in
theorem rnext_any (r q cap : Nat) (b : G) (w : World) (h : IsR w r q cap b) (hn : b.n ≤ 64) :
    Calls Tryd.prog 20 #[.pointer (some ⟨r, 0, none⟩)] w fun e w' => e = .returned (nextV (firstOf (rdy b) b.n 0)) ∧ w = w' := by
  have c0 := h.c0
  have HB := Lib.hid h
  clear h
  generalize hres : firstOf (rdy b) b.n 0 = res
  have HRES := Lib.hid hres
  clear hres
  go_enter Tryd.func20, Tryd.ntmps20
  go_wp2
  go_loop [4] (fun i => ∃ j : Nat, i = .int .i64 j ∧ j ≤ b.n ∧ Hid (firstOf (rdy b) (b.n - j) j = res)) (fun i => b.n - (intOf i).toNat)
  case atStart => exact ⟨0, rfl, Nat.zero_le _, HRES.out⟩
  case round =>
    obtain ⟨j, rfl, hj, HJ⟩ := hrel
    by_cases hlt : j < b.n
    · obtain ⟨d0, d1, d2, d3, d4, d5⟩ := HB.out.fs hlt
      have hstep : firstOf (rdy b) (b.n - j) j = if rdy b j then some j else firstOf (rdy b) (b.n - (j + 1)) (j + 1) := by
        rw [show b.n - j = (b.n - (j + 1)) + 1 by omega]; rfl
      have HS := Lib.hid hstep
      clear hstep
      cases hs : bg b.st j
      · have hr : rdy b j = false := by simp [rdy, hs]
        have HR := Lib.hid hr
        rw [hs] at d2
        clear hr hs
        go_wp2
        exact ⟨⟨j + 1, by go_num, by omega, by have := HJ.out; rw [HS.out, HR.out] at this; exact this⟩, by simp [intOf]; omega⟩
      · cases he : bg b.en j
        · have hr : rdy b j = false := by simp [rdy, hs, he]
          have HR := Lib.hid hr
          rw [hs] at d2
          rw [he] at d3
          clear hr hs he
          go_wp2
          exact ⟨⟨j + 1, by go_num, by omega, by have := HJ.out; rw [HS.out, HR.out] at this; exact this⟩, by simp [intOf]; omega⟩
        · cases hh : bg b.hd j
          · have hr : rdy b j = true := by simp [rdy, hs, he, hh]
            have hres : res = some j := by have := HJ.out; rw [HS.out, hr] at this; exact this.symm
            have HRS := Lib.hid hres
            rw [hs] at d2
            rw [he] at d3
            rw [hh] at d5
            clear hr hs he hh hres
            go_wp2
            go_ret2
            exact ⟨by rw [HRS.out]; rfl, rfl⟩
          · have hr : rdy b j = false := by simp [rdy, hs, he, hh]
            have HR := Lib.hid hr
            rw [hs] at d2
            rw [he] at d3
            rw [hh] at d5
            clear hr hs he hh
            go_wp2
            exact ⟨⟨j + 1, by go_num, by omega, by have := HJ.out; rw [HS.out, HR.out] at this; exact this⟩, by simp [intOf]; omega⟩
    · have hres : res = none := by have := HJ.out; rw [show b.n - j = 0 by omega] at this; exact this.symm
      have HRS := Lib.hid hres
      clear hres
      go_wp2
      go_ret2
      exact ⟨by rw [HRS.out]; rfl, rfl⟩

def wkp (b : G) (i : Nat) : Bool := bg b.st i && bg b.wk i

set_option maxHeartbeats 4000000 in
theorem rwake_any (r q cap : Nat) (b : G) (w : World) (h : IsR w r q cap b) (hn : b.n ≤ 64) :
    Calls Tryd.prog 22 #[.pointer (some ⟨r, 0, none⟩)] w fun e w' => e = .returned (.bool (firstOf (wkp b) b.n 0).isSome) ∧ w = w' := by
  have c0 := h.c0
  have HB := Lib.hid h
  clear h
  generalize hres : firstOf (wkp b) b.n 0 = res
  have HRES := Lib.hid hres
  clear hres
  go_enter Tryd.func22, Tryd.ntmps22
  go_wp2
  go_loop [3] (fun i => ∃ j : Nat, i = .int .i64 j ∧ j ≤ b.n ∧ Hid (firstOf (wkp b) (b.n - j) j = res)) (fun i => b.n - (intOf i).toNat)
  case atStart => exact ⟨0, rfl, Nat.zero_le _, HRES.out⟩
  case round =>
    obtain ⟨j, rfl, hj, HJ⟩ := hrel
    by_cases hlt : j < b.n
    · obtain ⟨d0, d1, d2, d3, d4, d5⟩ := HB.out.fs hlt
      have hstep : firstOf (wkp b) (b.n - j) j = if wkp b j then some j else firstOf (wkp b) (b.n - (j + 1)) (j + 1) := by
        rw [show b.n - j = (b.n - (j + 1)) + 1 by omega]; rfl
      have HS := Lib.hid hstep
      clear hstep
      cases hs : bg b.st j
      · have hr : wkp b j = false := by simp [wkp, hs]
        have HR := Lib.hid hr
        rw [hs] at d2
        clear hr hs
        go_wp2
        exact ⟨⟨j + 1, by go_num, by omega, by have := HJ.out; rw [HS.out, HR.out] at this; exact this⟩, by simp [intOf]; omega⟩
      · cases he : bg b.wk j
        · have hr : wkp b j = false := by simp [wkp, hs, he]
          have HR := Lib.hid hr
          rw [hs] at d2
          rw [he] at d4
          clear hr hs he
          go_wp2
          exact ⟨⟨j + 1, by go_num, by omega, by have := HJ.out; rw [HS.out, HR.out] at this; exact this⟩, by simp [intOf]; omega⟩
        · have hr : wkp b j = true := by simp [wkp, hs, he]
          have hres : res = some j := by have := HJ.out; rw [HS.out, hr] at this; exact this.symm
          have HRS := Lib.hid hres
          rw [hs] at d2
          rw [he] at d4
          clear hr hs he hres
          go_wp2
          go_ret
          exact ⟨by rw [HRS.out]; rfl, rfl⟩
    · have hres : res = none := by have := HJ.out; rw [show b.n - j = 0 by omega] at this; exact this.symm
      have HRS := Lib.hid hres
      clear hres
      go_wp2
      go_ret
      exact ⟨by rw [HRS.out]; rfl, rfl⟩
end Go.Proofs.YtolbecinjajejaaDoor
