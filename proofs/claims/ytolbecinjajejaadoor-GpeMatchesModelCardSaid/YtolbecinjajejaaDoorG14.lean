/- Both blocks: each operation's result, whatever the event. -/
import Derived.Test.YtolbecinjajejaaDoorG13
import Derived.Test.YtolbecinjajejaaDoorG7
set_option linter.unusedVariables false
set_option linter.unusedSimpArgs false
namespace Go.Proofs.YtolbecinjajejaaDoor
open Go.RowKit Go.My

theorem ev_get {b : G} {i : Int} (h : b.ev i = true) : ∃ k : Nat, i = k ∧ k < b.n := by
  simp only [G.ev, Bool.and_eq_true, decide_eq_true_eq] at h
  exact ⟨i.toNat, by omega, by omega⟩
theorem rdy_bg (b : G) (i : Nat) : bg b.ready i = (bg b.st i && bg b.en i && !(bg b.hd i)) := by
  rcases Nat.lt_or_ge i 64 with h | h
  · simp [G.ready, bg, h]
  · simp [G.ready, bg, BitVec.getLsbD_of_ge _ _ h]
def eOf (v : Bool) : Int := if v then 0 else 6
def G.setA (b : G) (i : Int) (on : Bool) : G := if b.ev i then b.setM i.toNat on else b
def G.enA (b : G) (i : Int) (on : Bool) : G := if b.ev i then { b with en := setb b.en i.toNat on } else b
def G.wkA (b : G) (i : Int) (on : Bool) : G := if b.ev i then { b with wk := setb b.wk i.toNat on } else b
def G.compA (b : G) (i : Int) : G := if b.ev i then (if bg b.hd i.toNat then b.compM i.toNat else b) else b
def G.begA (b : G) (i : Int) : G := if b.ev i then (if bg b.ready i.toNat then b.begM i.toNat else b) else b
def compE (b : G) (i : Int) : Int := if b.ev i then (if bg b.hd i.toNat then 0 else 9) else 6
def begE (b : G) (i : Int) : Int := if b.ev i then (if bg b.ready i.toNat then 0 else 9) else 6
def begT (b : G) (i : Int) : ByteArray := if b.ev i then (if bg b.ready i.toNat then begS (bg b.lv i.toNat) i.toNat else ⟨#[]⟩) else ⟨#[]⟩

theorem gset_any (g : Nat) (b : G) (i : Int) (on : Bool) (w : World) (h : IsG w g b) (hn : b.n ≤ 64) :
    Calls Tryd.prog 13 #[.pointer (some ⟨g, 0, none⟩), .int .i64 i, .bool on] w fun e w' => e = .returned (.int .i64 (eOf (b.ev i))) ∧ Keep (My.One g) w w' ∧ IsG w' g (b.setA i on) := by
  cases hv : b.ev i
  · refine (set_bad g b i on w h hv).mono ?_
    rintro e w' ⟨rfl, rfl⟩
    exact ⟨rfl, Keep.refl _ _, by simp only [G.setA, hv]; exact h⟩
  · obtain ⟨k, rfl, hk⟩ := ev_get hv
    refine (set_ok g k b on w h hk hn).mono ?_
    rintro e w' ⟨rfl, h1, h2⟩
    exact ⟨rfl, h1, by simp only [G.setA, hv, if_true, Int.toNat_natCast]; exact h2⟩
theorem rset_any (r q cap : Nat) (b : G) (i : Int) (on : Bool) (w : World) (h : IsR w r q cap b) (hn : b.n ≤ 64) :
    Calls Tryd.prog 43 #[.pointer (some ⟨r, 0, none⟩), .int .i64 i, .bool on] w fun e w' => e = .returned (.int .i64 (eOf (b.ev i))) ∧ Keep (My.One q) w w' ∧ IsR w' r q cap (b.setA i on) := by
  cases hv : b.ev i
  · refine (rset_bad r q cap b i on w h hv).mono ?_
    rintro e w' ⟨rfl, rfl⟩
    exact ⟨rfl, Keep.refl _ _, by simp only [G.setA, hv]; exact h⟩
  · obtain ⟨k, rfl, hk⟩ := ev_get hv
    refine (rset_ok r q cap k b on w h hk hn).mono ?_
    rintro e w' ⟨rfl, h1, h2⟩
    exact ⟨rfl, h1, by simp only [G.setA, hv, if_true, Int.toNat_natCast]; exact h2⟩
theorem gen_any (g : Nat) (b : G) (i : Int) (on : Bool) (w : World) (h : IsG w g b) (hn : b.n ≤ 64) :
    Calls Tryd.prog 12 #[.pointer (some ⟨g, 0, none⟩), .int .i64 i, .bool on] w fun e w' => e = .returned (.int .i64 (eOf (b.ev i))) ∧ Keep (My.One g) w w' ∧ IsG w' g (b.enA i on) := by
  cases hv : b.ev i
  · refine (en_bad g b i on w h hv).mono ?_
    rintro e w' ⟨rfl, rfl⟩
    exact ⟨rfl, Keep.refl _ _, by simp only [G.enA, hv]; exact h⟩
  · obtain ⟨k, rfl, hk⟩ := ev_get hv
    refine (en_ok g k b on w h hk hn).mono ?_
    rintro e w' ⟨rfl, h1, h2⟩
    exact ⟨rfl, h1, by simp only [G.enA, hv, if_true, Int.toNat_natCast]; exact h2⟩
theorem ren_any (r q cap : Nat) (b : G) (i : Int) (on : Bool) (w : World) (h : IsR w r q cap b) (hn : b.n ≤ 64) :
    Calls Tryd.prog 39 #[.pointer (some ⟨r, 0, none⟩), .int .i64 i, .bool on] w fun e w' => e = .returned (.int .i64 (eOf (b.ev i))) ∧ Keep (My.One q) w w' ∧ IsR w' r q cap (b.enA i on) := by
  cases hv : b.ev i
  · refine (ren_bad r q cap b i on w h hv).mono ?_
    rintro e w' ⟨rfl, rfl⟩
    exact ⟨rfl, Keep.refl _ _, by simp only [G.enA, hv]; exact h⟩
  · obtain ⟨k, rfl, hk⟩ := ev_get hv
    refine (ren_ok r q cap k b on w h hk hn).mono ?_
    rintro e w' ⟨rfl, h1, h2⟩
    exact ⟨rfl, h1, by simp only [G.enA, hv, if_true, Int.toNat_natCast]; exact h2⟩
theorem gwk_any (g : Nat) (b : G) (i : Int) (on : Bool) (w : World) (h : IsG w g b) (hn : b.n ≤ 64) :
    Calls Tryd.prog 24 #[.pointer (some ⟨g, 0, none⟩), .int .i64 i, .bool on] w fun e w' => e = .returned (.int .i64 (eOf (b.ev i))) ∧ Keep (My.One g) w w' ∧ IsG w' g (b.wkA i on) := by
  cases hv : b.ev i
  · refine (wk_bad g b i on w h hv).mono ?_
    rintro e w' ⟨rfl, rfl⟩
    exact ⟨rfl, Keep.refl _ _, by simp only [G.wkA, hv]; exact h⟩
  · obtain ⟨k, rfl, hk⟩ := ev_get hv
    refine (wk_ok g k b on w h hk hn).mono ?_
    rintro e w' ⟨rfl, h1, h2⟩
    exact ⟨rfl, h1, by simp only [G.wkA, hv, if_true, Int.toNat_natCast]; exact h2⟩
theorem rwk_any (r q cap : Nat) (b : G) (i : Int) (on : Bool) (w : World) (h : IsR w r q cap b) (hn : b.n ≤ 64) :
    Calls Tryd.prog 40 #[.pointer (some ⟨r, 0, none⟩), .int .i64 i, .bool on] w fun e w' => e = .returned (.int .i64 (eOf (b.ev i))) ∧ Keep (My.One q) w w' ∧ IsR w' r q cap (b.wkA i on) := by
  cases hv : b.ev i
  · refine (rwk_bad r q cap b i on w h hv).mono ?_
    rintro e w' ⟨rfl, rfl⟩
    exact ⟨rfl, Keep.refl _ _, by simp only [G.wkA, hv]; exact h⟩
  · obtain ⟨k, rfl, hk⟩ := ev_get hv
    refine (rwk_ok r q cap k b on w h hk hn).mono ?_
    rintro e w' ⟨rfl, h1, h2⟩
    exact ⟨rfl, h1, by simp only [G.wkA, hv, if_true, Int.toNat_natCast]; exact h2⟩
theorem gcomp_any (g : Nat) (b : G) (i : Int) (w : World) (h : IsG w g b) (hn : b.n ≤ 64) :
    Calls Tryd.prog 16 #[.pointer (some ⟨g, 0, none⟩), .int .i64 i] w fun e w' => e = .returned (.int .i64 (compE b i)) ∧ Keep (My.One g) w w' ∧ IsG w' g (b.compA i) := by
  cases hv : b.ev i
  · refine (comp_bad g b i w h hv).mono ?_
    rintro e w' ⟨rfl, rfl⟩
    exact ⟨by simp [compE, hv], Keep.refl _ _, by simp only [G.compA, hv]; exact h⟩
  · obtain ⟨k, rfl, hk⟩ := ev_get hv
    cases hh : bg b.hd k
    · refine (comp_no g k b w h hk hn hh).mono ?_
      rintro e w' ⟨rfl, rfl⟩
      exact ⟨by simp [compE, hv, hh], Keep.refl _ _, by simp only [G.compA, hv, hh, if_true, Int.toNat_natCast]; exact h⟩
    · refine (comp_ok g k b w h hk hn hh).mono ?_
      rintro e w' ⟨rfl, h1, h2⟩
      exact ⟨by simp [compE, hv, hh], h1, by simp only [G.compA, hv, hh, if_true, Int.toNat_natCast]; exact h2⟩
theorem rcomp_any (r q cap : Nat) (b : G) (i : Int) (w : World) (h : IsR w r q cap b) (hn : b.n ≤ 64) :
    Calls Tryd.prog 42 #[.pointer (some ⟨r, 0, none⟩), .int .i64 i] w fun e w' => e = .returned (.int .i64 (compE b i)) ∧ Keep (My.One q) w w' ∧ IsR w' r q cap (b.compA i) := by
  cases hv : b.ev i
  · refine (rcomp_bad r q cap b i w h hv).mono ?_
    rintro e w' ⟨rfl, rfl⟩
    exact ⟨by simp [compE, hv], Keep.refl _ _, by simp only [G.compA, hv]; exact h⟩
  · obtain ⟨k, rfl, hk⟩ := ev_get hv
    cases hh : bg b.hd k
    · refine (rcomp_no r q cap k b w h hk hh).mono ?_
      rintro e w' ⟨rfl, rfl⟩
      exact ⟨by simp [compE, hv, hh], Keep.refl _ _, by simp only [G.compA, hv, hh, if_true, Int.toNat_natCast]; exact h⟩
    · refine (rcomp_ok r q cap k b w h hk hn hh).mono ?_
      rintro e w' ⟨rfl, h1, h2⟩
      exact ⟨by simp [compE, hv, hh], h1, by simp only [G.compA, hv, hh, if_true, Int.toNat_natCast]; exact h2⟩
theorem gbeg_any (g : Nat) (b : G) (i : Int) (w : World) (h : IsG w g b) (hn : b.n ≤ 64) :
    Calls Tryd.prog 15 #[.pointer (some ⟨g, 0, none⟩), .int .i64 i] w fun e w' => e = .returned (.tuple #[.string (begT b i), .int .i64 (begE b i)]) ∧ Keep (My.One g) w w' ∧ IsG w' g (b.begA i) := by
  cases hv : b.ev i
  · refine (begin_bad g b i w h hv).mono ?_
    rintro e w' ⟨rfl, rfl⟩
    exact ⟨by simp [begE, begT, hv], Keep.refl _ _, by simp only [G.begA, hv]; exact h⟩
  · obtain ⟨k, rfl, hk⟩ := ev_get hv
    cases hh : bg b.ready k
    · refine (begin_no g k b w h hk hn hh).mono ?_
      rintro e w' ⟨rfl, hk1⟩
      exact ⟨by simp [begE, begT, hv, hh], hk1.any, by simp only [G.begA, hv, hh, if_true, Int.toNat_natCast]; exact h.keep hk1 (fun h => h)⟩
    · refine (begin_ok g k b w h hk hn hh).mono ?_
      rintro e w' ⟨rfl, h1, h2⟩
      exact ⟨by simp [begE, begT, hv, hh], h1, by simp only [G.begA, hv, hh, if_true, Int.toNat_natCast]; exact h2⟩
theorem rbeg_any (r q cap : Nat) (b : G) (i : Int) (w : World) (h : IsR w r q cap b) (hn : b.n ≤ 64) :
    Calls Tryd.prog 41 #[.pointer (some ⟨r, 0, none⟩), .int .i64 i] w fun e w' => e = .returned (.tuple #[.string (begT b i), .int .i64 (begE b i)]) ∧ Keep (My.One q) w w' ∧ IsR w' r q cap (b.begA i) := by
  cases hv : b.ev i
  · refine (rbegin_bad r q cap b i w h hv).mono ?_
    rintro e w' ⟨rfl, rfl⟩
    exact ⟨by simp [begE, begT, hv], Keep.refl _ _, by simp only [G.begA, hv]; exact h⟩
  · obtain ⟨k, rfl, hk⟩ := ev_get hv
    cases hh : bg b.ready k
    · refine (rbegin_no r q cap k b w h hk (by rw [← rdy_bg]; exact hh)).mono ?_
      rintro e w' ⟨rfl, rfl⟩
      exact ⟨by simp [begE, begT, hv, hh], Keep.refl _ _, by simp only [G.begA, hv, hh, if_true, Int.toNat_natCast]; exact h⟩
    · refine (rbegin_ok r q cap k b w h hk hn (by rw [← rdy_bg]; exact hh)).mono ?_
      rintro e w' ⟨rfl, h1, h2⟩
      exact ⟨by simp [begE, begT, hv, hh], h1, by simp only [G.begA, hv, hh, if_true, Int.toNat_natCast]; exact h2⟩
theorem gst_any (g : Nat) (b : G) (i : Int) (w : World) (h : IsG w g b) (hn : b.n ≤ 64) :
    Calls Tryd.prog 17 #[.pointer (some ⟨g, 0, none⟩), .int .i64 i] w fun e w' => e = .returned (.bool (b.ev i && bg b.st i.toNat)) ∧ w' = w := by
  cases hv : b.ev i
  · exact status_bad g b i w h hv
  · obtain ⟨k, rfl, hk⟩ := ev_get hv
    exact status_ok g k b w h hk hn
theorem rst_any (r q cap : Nat) (b : G) (i : Int) (w : World) (h : IsR w r q cap b) :
    Calls Tryd.prog 23 #[.pointer (some ⟨r, 0, none⟩), .int .i64 i] w fun e w' => e = .returned (.bool (b.ev i && bg b.st i.toNat)) ∧ w = w' := by
  cases hv : b.ev i
  · exact rstatus_bad r q cap b i w h hv
  · obtain ⟨k, rfl, hk⟩ := ev_get hv
    exact rstatus_ok r q cap k b w h hk

theorem enA_n (b : G) (i : Int) (on : Bool) : (b.enA i on).n = b.n := by unfold G.enA; split <;> rfl
theorem wkA_n (b : G) (i : Int) (on : Bool) : (b.wkA i on).n = b.n := by unfold G.wkA; split <;> rfl
theorem setA_n (b : G) (i : Int) (on : Bool) : (b.setA i on).n = b.n := by unfold G.setA; split <;> rfl
theorem compA_n (b : G) (i : Int) : (b.compA i).n = b.n := by unfold G.compA; split <;> (try split) <;> rfl
theorem begA_n (b : G) (i : Int) : (b.begA i).n = b.n := by unfold G.begA; split <;> (try split) <;> rfl
/-- No event above the number has a status bit. -/
def Hi (b : G) : Prop := ∀ i, b.n ≤ i → i < 64 → bg b.st i = false
theorem hi_setA {b : G} (h : Hi b) (i : Int) (on : Bool) (hn : b.n ≤ 64) : Hi (b.setA i on) := by
  unfold G.setA
  split
  · rename_i he
    obtain ⟨k, rfl, hk⟩ := ev_get he
    intro j hj h64
    have hj' : b.n ≤ j := hj
    show bg (if _ then setb b.st k true else b.st) j = false
    split
    · rw [bg_setb _ _ _ _ (by omega) h64, if_neg (by omega)]; exact h j hj h64
    · exact h j hj h64
  · exact h
theorem hi_enA {b : G} (h : Hi b) (i : Int) (on : Bool) : Hi (b.enA i on) := by
  unfold G.enA
  split <;> exact h
theorem hi_wkA {b : G} (h : Hi b) (i : Int) (on : Bool) : Hi (b.wkA i on) := by
  unfold G.wkA
  split <;> exact h
theorem hi_compA {b : G} (h : Hi b) (i : Int) (hn : b.n ≤ 64) : Hi (b.compA i) := by
  unfold G.compA
  split
  · rename_i he
    obtain ⟨k, rfl, hk⟩ := ev_get he
    split
    · intro j hj h64
      have hj' : b.n ≤ j := hj
      show bg (if bg b.lv k then setb b.st k (bg b.ln k) else b.st) j = false
      split
      · rw [bg_setb _ _ _ _ (by omega) h64, if_neg (by omega)]; exact h j hj h64
      · exact h j hj h64
    · exact h
  · exact h
theorem hi_begA {b : G} (h : Hi b) (i : Int) (hn : b.n ≤ 64) : Hi (b.begA i) := by
  unfold G.begA
  split
  · rename_i he
    obtain ⟨k, rfl, hk⟩ := ev_get he
    split
    · intro j hj h64
      have hj' : b.n ≤ j := hj
      show bg (if bg b.lv k then b.st else setb b.st k false) j = false
      split
      · exact h j hj h64
      · rw [bg_setb _ _ _ _ (by omega) h64, if_neg (by omega)]; exact h j hj h64
    · exact h
  · exact h

theorem gnext_any (g : Nat) (b : G) (w : World) (h : IsG w g b) (hn : b.n ≤ 64) (hh : Hi b) (ht : Tab w) :
    Calls Tryd.prog 14 #[.pointer (some ⟨g, 0, none⟩)] w fun e w' => e = .returned (nextV (firstOf (rdy b) b.n 0)) ∧ Keep Non w w' := by
  cases hf : firstOf (rdy b) b.n 0 with
  | none =>
    refine next_none g b w h (eq_zero_of (fun j hj => ?_))
    rw [rdy_bg]
    rcases Nat.lt_or_ge j b.n with hlt | hge
    · exact firstOf_none _ _ hf j (Nat.zero_le _) (by omega)
    · simp [hh j hge hj]
  | some k =>
    obtain ⟨h1, h2, h3, h4⟩ := firstOf_some _ _ _ hf
    exact next_some g k b w h (low_of (by omega) (by rw [rdy_bg]; exact h3) (fun j hj => by rw [rdy_bg]; exact h4 j (Nat.zero_le _) hj)) ht
theorem gwake_any (g : Nat) (b : G) (w : World) (h : IsG w g b) (hn : b.n ≤ 64) (hh : Hi b) :
    Calls Tryd.prog 21 #[.pointer (some ⟨g, 0, none⟩)] w fun e w' => e = .returned (.bool (firstOf (wkp b) b.n 0).isSome) ∧ ∃ m, w' = w.drewN m := by
  have e : (un (b.st &&& b.wk) != 0) = (firstOf (wkp b) b.n 0).isSome := by
    cases hf : firstOf (wkp b) b.n 0 with
    | none =>
      have : b.st &&& b.wk = 0#64 := eq_zero_of (fun j hj => by
        have e : bg (b.st &&& b.wk) j = wkp b j := by simp [bg, wkp]
        rw [e]
        rcases Nat.lt_or_ge j b.n with hlt | hge
        · exact firstOf_none _ _ hf j (Nat.zero_le _) (by omega)
        · simp [wkp, hh j hge hj])
      rw [this]; rfl
    | some k =>
      obtain ⟨h1, h2, h3, h4⟩ := firstOf_some _ _ _ hf
      have : un (b.st &&& b.wk) ≠ 0 := fun e => by
        have e0 : b.st &&& b.wk = 0#64 := un_inj (e.trans rfl)
        have e1 : bg (b.st &&& b.wk) k = wkp b k := by simp [bg, wkp]
        rw [e0] at e1
        rw [h3] at e1
        simp [bg] at e1
      simp [this]
  rw [← e]
  exact wake_any g b w h
end Go.Proofs.YtolbecinjajejaaDoor
