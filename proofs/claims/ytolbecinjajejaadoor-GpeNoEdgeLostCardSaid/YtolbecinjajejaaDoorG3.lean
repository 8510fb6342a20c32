/- The block of events: its methods. -/
import Derived.Test.YtolbecinjajejaaDoorG2
set_option linter.unusedVariables false
set_option linter.unusedSimpArgs false
namespace Go.Proofs.YtolbecinjajejaaDoor
open Go.RowKit Go.My

def G.setM (b : G) (i : Nat) (line : Bool) : G :=
  { b with st := if line && (!(bg b.ln i) || (bg b.lv i && !(bg b.hd i))) then setb b.st i true else b.st, ln := setb b.ln i line }
def G.compM (b : G) (i : Nat) : G :=
  { b with hd := setb b.hd i false, st := if bg b.lv i then setb b.st i (bg b.ln i) else b.st }
def G.begM (b : G) (i : Nat) : G :=
  { b with hd := setb b.hd i true, st := if bg b.lv i then b.st else setb b.st i false }

set_option maxHeartbeats 1000000 in
theorem set_bad (g : Nat) (b : G) (i : Int) (line : Bool) (w : World) (h : IsG w g b) (hv : b.ev i = false) :
    Calls Tryd.prog 13 #[.pointer (some ⟨g, 0, none⟩), .int .i64 i, .bool line] w fun e w' => e = .returned (.int .i64 6) ∧ w = w' := by
  have HB := Lib.hid h
  clear h
  go_enter Tryd.func13, Tryd.ntmps13
  go_wp2_with (go_at_call 35; refine (event_any g b _ _ HB.out).mono ?_; rintro e w' ⟨rfl, rfl⟩)
  go_ret
  exact ⟨rfl, rfl⟩

set_option maxHeartbeats 4000000 in
theorem set_ok (g i : Nat) (b : G) (line : Bool) (w : World) (h : IsG w g b) (hi : i < b.n) (hn : b.n ≤ 64) :
    Calls Tryd.prog 13 #[.pointer (some ⟨g, 0, none⟩), .int .i64 i, .bool line] w fun e w' => e = .returned (.int .i64 0) ∧ Keep (My.One g) w w' ∧ IsG w' g (b.setM i line) := by
  have hi64 : i < 64 := by omega
  have hev := ev_nat b i hi
  have c1 := h.c1
  have c2 := h.c2
  have c6 := h.c6
  have HB := Lib.hid h
  clear h
  cases line
  · have HM : Hid (b.setM i false = { b with ln := setb b.ln i false }) := by simp [Hid, G.setM]
    go_enter Tryd.func13, Tryd.ntmps13
    go_wp2_with (go_at_call 35; refine (event_any g b _ _ HB.out).mono ?_; rintro e w' ⟨rfl, rfl⟩)
    refine (setLn g i b false _ HB.out hi64).mono ?_
    rintro e w2 ⟨rfl, hk, hg⟩
    have HK := Lib.hid hk
    have HG := Lib.hid hg
    clear hk hg
    go_wp2
    go_ret
    exact ⟨rfl, HK.out, by rw [HM.out]; exact HG.out⟩
  · cases hl : bg b.ln i
    · have HM : Hid (b.setM i true = { b with st := setb b.st i true, ln := setb b.ln i true }) := by simp [Hid, G.setM, hl]
      go_enter Tryd.func13, Tryd.ntmps13
      go_wp2_with (first | (go_at_call 35; refine (event_any g b _ _ HB.out).mono ?_; rintro e w' ⟨rfl, rfl⟩) | (go_at_call 36; refine (has_any i _ _ hi64).mono ?_; rintro e w' ⟨rfl, rfl⟩))
      refine (setSt g i b true _ HB.out hi64).mono ?_
      rintro e w2 ⟨rfl, hk, hg⟩
      have HK1 := Lib.hid hk
      have HG1 := Lib.hid hg
      clear hk hg
      go_wp2_with fail
      refine (setLn g i _ true _ HG1.out hi64).mono ?_
      rintro e w3 ⟨rfl, hk, hg⟩
      have HK := Lib.hid (HK1.out.tr hk)
      have HG := Lib.hid hg
      clear hk hg
      go_wp2
      go_ret
      exact ⟨rfl, HK.out, by rw [HM.out]; exact HG.out⟩
    · cases hv : bg b.lv i
      · have HM : Hid (b.setM i true = { b with ln := setb b.ln i true }) := by simp [Hid, G.setM, hl, hv]
        go_enter Tryd.func13, Tryd.ntmps13
        go_wp2_with (first | (go_at_call 35; refine (event_any g b _ _ HB.out).mono ?_; rintro e w' ⟨rfl, rfl⟩) | (go_at_call 36; refine (has_any i _ _ hi64).mono ?_; rintro e w' ⟨rfl, rfl⟩))
        refine (setLn g i b true _ HB.out hi64).mono ?_
        rintro e w2 ⟨rfl, hk, hg⟩
        have HK := Lib.hid hk
        have HG := Lib.hid hg
        clear hk hg
        go_wp2
        go_ret
        exact ⟨rfl, HK.out, by rw [HM.out]; exact HG.out⟩
      · cases hh : bg b.hd i
        · have HM : Hid (b.setM i true = { b with st := setb b.st i true, ln := setb b.ln i true }) := by simp [Hid, G.setM, hl, hv, hh]
          go_enter Tryd.func13, Tryd.ntmps13
          go_wp2_with (first | (go_at_call 35; refine (event_any g b _ _ HB.out).mono ?_; rintro e w' ⟨rfl, rfl⟩) | (go_at_call 36; refine (has_any i _ _ hi64).mono ?_; rintro e w' ⟨rfl, rfl⟩))
          refine (setSt g i b true _ HB.out hi64).mono ?_
          rintro e w2 ⟨rfl, hk, hg⟩
          have HK1 := Lib.hid hk
          have HG1 := Lib.hid hg
          clear hk hg
          go_wp2_with fail
          refine (setLn g i _ true _ HG1.out hi64).mono ?_
          rintro e w3 ⟨rfl, hk, hg⟩
          have HK := Lib.hid (HK1.out.tr hk)
          have HG := Lib.hid hg
          clear hk hg
          go_wp2
          go_ret
          exact ⟨rfl, HK.out, by rw [HM.out]; exact HG.out⟩
        · have HM : Hid (b.setM i true = { b with ln := setb b.ln i true }) := by simp [Hid, G.setM, hl, hv, hh]
          go_enter Tryd.func13, Tryd.ntmps13
          go_wp2_with (first | (go_at_call 35; refine (event_any g b _ _ HB.out).mono ?_; rintro e w' ⟨rfl, rfl⟩) | (go_at_call 36; refine (has_any i _ _ hi64).mono ?_; rintro e w' ⟨rfl, rfl⟩))
          refine (setLn g i b true _ HB.out hi64).mono ?_
          rintro e w2 ⟨rfl, hk, hg⟩
          have HK := Lib.hid hk
          have HG := Lib.hid hg
          clear hk hg
          go_wp2
          go_ret
          exact ⟨rfl, HK.out, by rw [HM.out]; exact HG.out⟩

set_option maxHeartbeats 1000000 in
theorem en_bad (g : Nat) (b : G) (i : Int) (on : Bool) (w : World) (h : IsG w g b) (hv : b.ev i = false) :
    Calls Tryd.prog 12 #[.pointer (some ⟨g, 0, none⟩), .int .i64 i, .bool on] w fun e w' => e = .returned (.int .i64 6) ∧ w = w' := by
  have HB := Lib.hid h
  clear h
  go_enter Tryd.func12, Tryd.ntmps12
  go_wp2_with (go_at_call 35; refine (event_any g b _ _ HB.out).mono ?_; rintro e w' ⟨rfl, rfl⟩)
  go_ret
  exact ⟨rfl, rfl⟩
set_option maxHeartbeats 1000000 in
theorem en_ok (g i : Nat) (b : G) (on : Bool) (w : World) (h : IsG w g b) (hi : i < b.n) (hn : b.n ≤ 64) :
    Calls Tryd.prog 12 #[.pointer (some ⟨g, 0, none⟩), .int .i64 i, .bool on] w fun e w' => e = .returned (.int .i64 0) ∧ Keep (My.One g) w w' ∧ IsG w' g { b with en := setb b.en i on } := by
  have hi64 : i < 64 := by omega
  have hev := ev_nat b i hi
  have HB := Lib.hid h
  clear h
  go_enter Tryd.func12, Tryd.ntmps12
  go_wp2_with (go_at_call 35; refine (event_any g b _ _ HB.out).mono ?_; rintro e w' ⟨rfl, rfl⟩)
  refine (setEn g i b on _ HB.out hi64).mono ?_
  rintro e w2 ⟨rfl, hk, hg⟩
  have HK := Lib.hid hk
  have HG := Lib.hid hg
  clear hk hg
  go_wp2
  go_ret
  exact ⟨rfl, HK.out, HG.out⟩

set_option maxHeartbeats 1000000 in
theorem wk_bad (g : Nat) (b : G) (i : Int) (on : Bool) (w : World) (h : IsG w g b) (hv : b.ev i = false) :
    Calls Tryd.prog 24 #[.pointer (some ⟨g, 0, none⟩), .int .i64 i, .bool on] w fun e w' => e = .returned (.int .i64 6) ∧ w = w' := by
  have HB := Lib.hid h
  clear h
  go_enter Tryd.func24, Tryd.ntmps24
  go_wp2_with (go_at_call 35; refine (event_any g b _ _ HB.out).mono ?_; rintro e w' ⟨rfl, rfl⟩)
  go_ret
  exact ⟨rfl, rfl⟩
set_option maxHeartbeats 1000000 in
theorem wk_ok (g i : Nat) (b : G) (on : Bool) (w : World) (h : IsG w g b) (hi : i < b.n) (hn : b.n ≤ 64) :
    Calls Tryd.prog 24 #[.pointer (some ⟨g, 0, none⟩), .int .i64 i, .bool on] w fun e w' => e = .returned (.int .i64 0) ∧ Keep (My.One g) w w' ∧ IsG w' g { b with wk := setb b.wk i on } := by
  have hi64 : i < 64 := by omega
  have hev := ev_nat b i hi
  have HB := Lib.hid h
  clear h
  go_enter Tryd.func24, Tryd.ntmps24
  go_wp2_with (go_at_call 35; refine (event_any g b _ _ HB.out).mono ?_; rintro e w' ⟨rfl, rfl⟩)
  refine (setWk g i b on _ HB.out hi64).mono ?_
  rintro e w2 ⟨rfl, hk, hg⟩
  have HK := Lib.hid hk
  have HG := Lib.hid hg
  clear hk hg
  go_wp2
  go_ret
  exact ⟨rfl, HK.out, HG.out⟩

set_option maxHeartbeats 1000000 in
theorem status_bad (g : Nat) (b : G) (i : Int) (w : World) (h : IsG w g b) (hv : b.ev i = false) :
    Calls Tryd.prog 17 #[.pointer (some ⟨g, 0, none⟩), .int .i64 i] w fun e w' => e = .returned (.bool false) ∧ w' = w := by
  have HB := Lib.hid h
  clear h
  go_enter Tryd.func17, Tryd.ntmps17
  go_wp2_with (go_at_call 35; refine (event_any g b _ _ HB.out).mono ?_; rintro e w' ⟨rfl, rfl⟩)
  go_ret
  exact ⟨rfl, rfl⟩
set_option maxHeartbeats 1000000 in
theorem status_ok (g i : Nat) (b : G) (w : World) (h : IsG w g b) (hi : i < b.n) (hn : b.n ≤ 64) :
    Calls Tryd.prog 17 #[.pointer (some ⟨g, 0, none⟩), .int .i64 i] w fun e w' => e = .returned (.bool (bg b.st i)) ∧ w' = w := by
  have hi64 : i < 64 := by omega
  have hev := ev_nat b i hi
  have c3 := h.c3
  have HB := Lib.hid h
  clear h
  go_enter Tryd.func17, Tryd.ntmps17
  go_wp2_with (first | (go_at_call 35; refine (event_any g b _ _ HB.out).mono ?_; rintro e w' ⟨rfl, rfl⟩) | (go_at_call 36; refine (has_any i _ _ hi64).mono ?_; rintro e w' ⟨rfl, rfl⟩))
  go_ret
  exact ⟨rfl, rfl⟩

theorem IsG.drewN {w : World} {g : Nat} {b : G} (h : IsG w g b) (m : Nat) : IsG (w.drewN m) g b := h
theorem Tab.drewN {w : World} (h : Tab w) (m : Nat) : Tab (w.drewN m) := h

set_option maxHeartbeats 1000000 in
theorem next_none (g : Nat) (b : G) (w : World) (h : IsG w g b) (hr : b.ready = 0#64) :
    Calls Tryd.prog 14 #[.pointer (some ⟨g, 0, none⟩)] w fun e w' => e = .returned (.tuple #[.int .i64 0, .bool false]) ∧ Keep Non w w' := by
  have hr0 : un b.ready = 0 := by rw [hr]; rfl
  have HB := Lib.hid h
  clear h hr
  go_enter Tryd.func14, Tryd.ntmps14
  go_wp2_with fail
  refine (ready_any g b _ HB.out).mono ?_
  rintro e w2 ⟨rfl, m, rfl⟩
  go_wp2
  go_ret2
  exact ⟨rfl, (Keep.refl _ _).drewN _⟩
set_option maxHeartbeats 1000000 in
theorem next_some (g k : Nat) (b : G) (w : World) (h : IsG w g b) (hr : Low b.ready k) (ht : Tab w) :
    Calls Tryd.prog 14 #[.pointer (some ⟨g, 0, none⟩)] w fun e w' => e = .returned (.tuple #[.int .i64 k, .bool true]) ∧ Keep Non w w' := by
  have hr0 : (un b.ready == 0) = false := by
    rw [beq_eq_false_iff_ne]
    intro h0
    have : b.ready = 0#64 := un_inj (by simpa [un] using h0)
    rw [this] at hr
    have := hr.2.1
    simp at this
  have HB := Lib.hid h
  have HR := Lib.hid hr
  have HT := Lib.hid ht
  clear h hr ht
  go_enter Tryd.func14, Tryd.ntmps14
  go_wp2_with fail
  refine (ready_any g b _ HB.out).mono ?_
  rintro e w2 ⟨rfl, m, rfl⟩
  go_wp2_with fail
  refine (ready_any g b _ (HB.out.drewN _)).mono ?_
  rintro e w3 ⟨rfl, m2, rfl⟩
  go_wp2_with fail
  refine (tz_any b.ready k _ HR.out (HT.out.drewN _)).mono ?_
  rintro e w4 ⟨rfl, rfl⟩
  go_wp2
  go_ret2
  exact ⟨rfl, by repeat (first | exact Keep.refl _ _ | apply Keep.drewN)⟩
end Go.Proofs.YtolbecinjajejaaDoor
