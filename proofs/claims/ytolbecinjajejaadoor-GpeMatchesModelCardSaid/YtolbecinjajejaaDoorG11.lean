/- The reference's block of events: Begin. -/
import Derived.Test.YtolbecinjajejaaDoorG10
import Derived.Laws.DeepStrings4
set_option linter.unusedVariables false
set_option linter.unusedSimpArgs false
namespace Go.Proofs.YtolbecinjajejaaDoor
open Go.RowKit Go.My

theorem ext4 : ∀ d, d < 4 → (ByteArray.extract ⟨#[48, 49, 50, 51]⟩ d (d + 1)) = ⟨#[UInt8.ofNat (hexN d).toNat]⟩ := by decide +kernel
theorem ext16 : ∀ d, d < 16 → (ByteArray.extract hexS d (d + 1)) = ⟨#[UInt8.ofNat (hexN d).toNat]⟩ := by decide +kernel

theorem sl4 (i : Nat) (hi : i < 64) : ∀ W : World, (Instr.slice 9 (.string ⟨#[48, 49, 50, 51]⟩) (some (.int .i64 ((i : Int) / 16))) (some (.int .i64 ((i : Int) / 16 + 1))) none).run Tryd.prog W = .ok (.string ⟨#[UInt8.ofNat (hexN (i / 16)).toNat]⟩) W := by
  intro W
  rw [run_slice_string_if _ _ _ _ _ _ _ Tryd.underlying9, if_pos ⟨by omega, by show _ ≤ ((4 : Nat) : Int); omega⟩, if_pos ⟨by omega, by omega⟩]
  have e1 : ((i : Int) / 16).toNat = i / 16 := by omega
  have e2 : ((i : Int) / 16 + 1).toNat = i / 16 + 1 := by omega
  rw [e1, e2, ext4 _ (by omega)]
theorem sl16 (i : Nat) (hi : i < 64) : ∀ W : World, (Instr.slice 9 (.string ⟨#[48, 49, 50, 51, 52, 53, 54, 55, 56, 57, 65, 66, 67, 68, 69, 70]⟩) (some (.int .i64 ((i : Int) % 16))) (some (.int .i64 ((i : Int) % 16 + 1))) none).run Tryd.prog W = .ok (.string ⟨#[UInt8.ofNat (hexN (i % 16)).toNat]⟩) W := by
  intro W
  rw [run_slice_string_if _ _ _ _ _ _ _ Tryd.underlying9, if_pos ⟨by omega, by show _ ≤ ((16 : Nat) : Int); omega⟩, if_pos ⟨by omega, by omega⟩]
  have e1 : ((i : Int) % 16).toNat = i % 16 := by omega
  have e2 : ((i : Int) % 16 + 1).toNat = i % 16 + 1 := by omega
  rw [e1, e2]
  exact congrArg (fun s => Result.ok (Value.string s) W) (ext16 _ (by omega))

set_option maxHeartbeats 1000000 in
theorem rbegin_bad (r q cap : Nat) (b : G) (i : Int) (w : World) (h : IsR w r q cap b) (hv : b.ev i = false) :
    Calls Tryd.prog 41 #[.pointer (some ⟨r, 0, none⟩), .int .i64 i] w fun e w' => e = .returned (.tuple #[.string ⟨#[]⟩, .int .i64 6]) ∧ w = w' := by
  have HB := Lib.hid h
  clear h
  go_enter Tryd.func41, Tryd.ntmps41
  go_wp2_with (go_at_call 44; refine (rhas_any r q cap b _ _ HB.out).mono ?_; rintro e w' ⟨rfl, rfl⟩)
  go_ret2
  exact ⟨rfl, rfl⟩

set_option maxHeartbeats 2000000 in
theorem rbegin_no (r q cap i : Nat) (b : G) (w : World) (h : IsR w r q cap b) (hi : i < b.n) (hr : (bg b.st i && bg b.en i && !(bg b.hd i)) = false) :
    Calls Tryd.prog 41 #[.pointer (some ⟨r, 0, none⟩), .int .i64 i] w fun e w' => e = .returned (.tuple #[.string ⟨#[]⟩, .int .i64 9]) ∧ w = w' := by
  have hev := ev_nat b i hi
  have c0 := h.c0
  obtain ⟨d0, d1, d2, d3, d4, d5⟩ := h.fs hi
  have HB := Lib.hid h
  clear h
  cases hs : bg b.st i
  · rw [hs] at d2
    clear hr hs
    go_enter Tryd.func41, Tryd.ntmps41
    go_wp2_with (go_at_call 44; refine (rhas_any r q cap b _ _ HB.out).mono ?_; rintro e w' ⟨rfl, rfl⟩)
    go_ret2
    exact ⟨rfl, rfl⟩
  · cases he : bg b.en i
    · rw [hs] at d2
      rw [he] at d3
      clear hr hs he
      go_enter Tryd.func41, Tryd.ntmps41
      go_wp2_with (go_at_call 44; refine (rhas_any r q cap b _ _ HB.out).mono ?_; rintro e w' ⟨rfl, rfl⟩)
      go_ret2
      exact ⟨rfl, rfl⟩
    · have hh : bg b.hd i = true := by rw [hs, he] at hr; simpa using hr
      rw [hs] at d2
      rw [he] at d3
      rw [hh] at d5
      clear hr hs he hh
      go_enter Tryd.func41, Tryd.ntmps41
      go_wp2_with (go_at_call 44; refine (rhas_any r q cap b _ _ HB.out).mono ?_; rintro e w' ⟨rfl, rfl⟩)
      go_ret2
      exact ⟨rfl, rfl⟩

set_option maxHeartbeats 4000000 in
theorem rbegin_ok (r q cap i : Nat) (b : G) (w : World) (h : IsR w r q cap b) (hi : i < b.n) (hn : b.n ≤ 64) (hr : (bg b.st i && bg b.en i && !(bg b.hd i)) = true) :
    Calls Tryd.prog 41 #[.pointer (some ⟨r, 0, none⟩), .int .i64 i] w fun e w' => e = .returned (.tuple #[.string (begS (bg b.lv i) i), .int .i64 0]) ∧ Keep (My.One q) w w' ∧ IsR w' r q cap (b.begM i) := by
  have hi64 : i < 64 := by omega
  have hev := ev_nat b i hi
  have hrq := h.ne
  have c0 := h.c0
  have S4 := sl4 i hi64
  have S16 := sl16 i hi64
  obtain ⟨d0, d1, d2, d3, d4, d5⟩ := h.fs hi
  obtain ⟨⟨hs, he⟩, hh⟩ : (bg b.st i = true ∧ bg b.en i = true) ∧ bg b.hd i = false := by simpa using hr
  rw [hs] at d2
  rw [he] at d3
  rw [hh] at d5
  have f2 := h.fr (i * 6 + 2)
  have f5 := h.fr (i * 6 + 5)
  have HB := Lib.hid h
  clear h hs he hh hr
  cases hv : bg b.lv i
  · have HM : Hid (b.begM i = { b with hd := setb b.hd i true, st := setb b.st i false }) := by simp [Hid, G.begM, hv]
    rw [HM.out]
    rw [hv] at d0
    go_enter Tryd.func41, Tryd.ntmps41
    go_wp2_with (go_at_call 44; refine (rhas_any r q cap b _ _ HB.out).mono ?_; rintro e w' ⟨rfl, rfl⟩)
    go_region
    all_goals
      go_wp2
      go_ret2
      refine ⟨rfl, ?_, ?_⟩
      · repeat (first | exact Keep.refl _ _ | apply Keep.drew | apply Keep.setOne)
      · exact ((HB.out.hdb hi hn true).st hi hn false).drew
  · have HM : Hid (b.begM i = { b with hd := setb b.hd i true }) := by simp [Hid, G.begM, hv]
    rw [HM.out]
    rw [hv] at d0
    go_enter Tryd.func41, Tryd.ntmps41
    go_wp2_with (go_at_call 44; refine (rhas_any r q cap b _ _ HB.out).mono ?_; rintro e w' ⟨rfl, rfl⟩)
    go_region
    all_goals
      go_wp2
      go_ret2
      refine ⟨rfl, ?_, ?_⟩
      · repeat (first | exact Keep.refl _ _ | apply Keep.drew | apply Keep.setOne)
      · exact (HB.out.hdb hi hn true).drew
end Go.Proofs.YtolbecinjajejaaDoor
