/- The reference's block of events, told by the same words: its small methods. -/
import Derived.Test.YtolbecinjajejaaDoorG9a
set_option linter.unusedVariables false
set_option linter.unusedSimpArgs false
namespace Go.Proofs.YtolbecinjajejaaDoor
open Go.RowKit Go.My

/-- Field f of event i. -/
def fld (b : G) (i f : Nat) : Bool :=
  bg (if f = 0 then b.lv else if f = 1 then b.ln else if f = 2 then b.st else if f = 3 then b.en else if f = 4 then b.wk else b.hd) i
/-- The reference's block at r, its events in block q. -/
structure IsR (w : World) (r q cap : Nat) (b : G) : Prop where
  hd : Blk w r #[.slice (some ⟨q, 0, none⟩) b.n cap] 79
  cap : b.n ≤ cap
  row : ∃ cur, Blk w q cur 81 ∧ ∀ i, i < b.n → ∀ f, f < 6 → cur[i * 6 + f]? = some (.bool (fld b i f))

theorem IsR.c0 {w : World} {r q cap : Nat} {b : G} (h : IsR w r q cap b) : w.cell? ⟨r, 0, none⟩ = some (.slice (some ⟨q, 0, none⟩) b.n cap) := (Blk.cell h.hd 0).trans rfl
theorem IsR.cf {w : World} {r q cap : Nat} {b : G} (h : IsR w r q cap b) {i : Nat} (hi : i < b.n) {f : Nat} (hf : f < 6) : w.cell? ⟨q, i * 6 + f, none⟩ = some (.bool (fld b i f)) := by
  obtain ⟨cur, hb, hc⟩ := h.row
  rw [hb.cell]; exact hc i hi f hf
theorem IsR.fr {w : World} {r q cap : Nat} {b : G} (h : IsR w r q cap b) (o : Nat) : w.frozen? ⟨q, o, none⟩ = false := by
  obtain ⟨cur, hb, hc⟩ := h.row
  exact hb.free o
theorem IsR.ne {w : World} {r q cap : Nat} {b : G} (h : IsR w r q cap b) : r ≠ q := by
  obtain ⟨cur, hb, hc⟩ := h.row
  exact h.hd.ne hb (by decide)
theorem IsR.ltq {w : World} {r q cap : Nat} {b : G} (h : IsR w r q cap b) : q < w.heap.size := by
  obtain ⟨cur, hb, hc⟩ := h.row
  exact hb.lt
theorem IsR.keep {S : Nat → Prop} {w w1 : World} {r q cap : Nat} {b : G} (h : IsR w r q cap b) (k : Keep S w w1) (h1 : ¬ S r) (h2 : ¬ S q) : IsR w1 r q cap b := by
  obtain ⟨cur, hb, hc⟩ := h.row
  exact ⟨h.hd.keep k h1, h.cap, cur, hb.keep k h2, hc⟩
theorem IsR.drew {w : World} {r q cap : Nat} {b : G} (h : IsR w r q cap b) : IsR w.drew r q cap b := ⟨h.hd, h.cap, h.row⟩
theorem IsR.drewN {w : World} {r q cap : Nat} {b : G} (h : IsR w r q cap b) (m : Nat) : IsR (w.drewN m) r q cap b := ⟨h.hd, h.cap, h.row⟩
/-- One field of one event is stored. -/
theorem IsR.put {w : World} {r q cap : Nat} {b b' : G} (h : IsR w r q cap b) (hn : b'.n = b.n) {i f : Nat} (hi : i < b.n) (hf : f < 6) (on : Bool)
    (hb : ∀ i', i' < b.n → ∀ f', f' < 6 → fld b' i' f' = if i = i' ∧ f = f' then on else fld b i' f') : IsR (w.setCell ⟨q, i * 6 + f, none⟩ (.bool on)) r q cap b' := by
  obtain ⟨cur, hq, hc⟩ := h.row
  refine ⟨by rw [hn]; exact h.hd.far (fun e => h.ne e) _, by rw [hn]; exact h.cap, cur.setIfInBounds (i * 6 + f) (.bool on), hq.set _ _, fun i' hi' f' hf' => ?_⟩
  rw [hn] at hi'
  have h0 := hc i' hi' f' hf'
  rw [hb i' hi' f' hf']
  by_cases e : i * 6 + f = i' * 6 + f'
  · have e1 : i = i' ∧ f = f' := by omega
    rw [if_pos e1, ← e]
    have hlt : i * 6 + f < cur.size := by
      rcases Nat.lt_or_ge (i * 6 + f) cur.size with h | h
      · exact h
      · rw [← e, Array.getElem?_eq_none h] at h0; cases h0
    simp [hlt]
  · have e1 : ¬ (i = i' ∧ f = f') := by omega
    rw [if_neg e1, Array.getElem?_setIfInBounds_ne e]
    exact h0

theorem fld_put (b b' : G) (i f : Nat) (on : Bool) (hi : i < 64)
    (h0 : b'.lv = if f = 0 then setb b.lv i on else b.lv) (h1 : b'.ln = if f = 1 then setb b.ln i on else b.ln) (h2 : b'.st = if f = 2 then setb b.st i on else b.st)
    (h3 : b'.en = if f = 3 then setb b.en i on else b.en) (h4 : b'.wk = if f = 4 then setb b.wk i on else b.wk) (h5 : b'.hd = if f = 5 then setb b.hd i on else b.hd) (hf : f < 6) (i' : Nat) (hi' : i' < 64) (f' : Nat) (hf' : f' < 6) :
    fld b' i' f' = if i = i' ∧ f = f' then on else fld b i' f' := by
  unfold fld
  rcases (by omega : f' = 0 ∨ f' = 1 ∨ f' = 2 ∨ f' = 3 ∨ f' = 4 ∨ f' = 5) with rfl | rfl | rfl | rfl | rfl | rfl
  all_goals
    simp only [h0, h1, h2, h3, h4, h5, if_true, Nat.reduceEqDiff, if_false]
    split
    · rename_i e; subst e; rw [bg_setb _ _ _ _ hi hi']; simp
    · rename_i e; simp [e]

theorem IsR.ln {w : World} {r q cap : Nat} {b : G} (h : IsR w r q cap b) {i : Nat} (hi : i < b.n) (hn : b.n ≤ 64) (on : Bool) : IsR (w.setCell ⟨q, i * 6 + 1, none⟩ (.bool on)) r q cap { b with ln := setb b.ln i on } :=
  h.put (b' := { b with ln := setb b.ln i on }) (f := 1) rfl hi (by omega) on (fun i' hi' f' hf' => fld_put b { b with ln := setb b.ln i on } i 1 on (by omega) rfl rfl rfl rfl rfl rfl (by omega) i' (by omega) f' hf')
theorem IsR.st {w : World} {r q cap : Nat} {b : G} (h : IsR w r q cap b) {i : Nat} (hi : i < b.n) (hn : b.n ≤ 64) (on : Bool) : IsR (w.setCell ⟨q, i * 6 + 2, none⟩ (.bool on)) r q cap { b with st := setb b.st i on } :=
  h.put (b' := { b with st := setb b.st i on }) (f := 2) rfl hi (by omega) on (fun i' hi' f' hf' => fld_put b { b with st := setb b.st i on } i 2 on (by omega) rfl rfl rfl rfl rfl rfl (by omega) i' (by omega) f' hf')
theorem IsR.en {w : World} {r q cap : Nat} {b : G} (h : IsR w r q cap b) {i : Nat} (hi : i < b.n) (hn : b.n ≤ 64) (on : Bool) : IsR (w.setCell ⟨q, i * 6 + 3, none⟩ (.bool on)) r q cap { b with en := setb b.en i on } :=
  h.put (b' := { b with en := setb b.en i on }) (f := 3) rfl hi (by omega) on (fun i' hi' f' hf' => fld_put b { b with en := setb b.en i on } i 3 on (by omega) rfl rfl rfl rfl rfl rfl (by omega) i' (by omega) f' hf')
theorem IsR.wk {w : World} {r q cap : Nat} {b : G} (h : IsR w r q cap b) {i : Nat} (hi : i < b.n) (hn : b.n ≤ 64) (on : Bool) : IsR (w.setCell ⟨q, i * 6 + 4, none⟩ (.bool on)) r q cap { b with wk := setb b.wk i on } :=
  h.put (b' := { b with wk := setb b.wk i on }) (f := 4) rfl hi (by omega) on (fun i' hi' f' hf' => fld_put b { b with wk := setb b.wk i on } i 4 on (by omega) rfl rfl rfl rfl rfl rfl (by omega) i' (by omega) f' hf')
theorem IsR.hdb {w : World} {r q cap : Nat} {b : G} (h : IsR w r q cap b) {i : Nat} (hi : i < b.n) (hn : b.n ≤ 64) (on : Bool) : IsR (w.setCell ⟨q, i * 6 + 5, none⟩ (.bool on)) r q cap { b with hd := setb b.hd i on } :=
  h.put (b' := { b with hd := setb b.hd i on }) (f := 5) rfl hi (by omega) on (fun i' hi' f' hf' => fld_put b { b with hd := setb b.hd i on } i 5 on (by omega) rfl rfl rfl rfl rfl rfl (by omega) i' (by omega) f' hf')

set_option maxHeartbeats 1000000 in
theorem rhas_any (r q cap : Nat) (b : G) (i : Int) (w : World) (h : IsR w r q cap b) :
    Calls Tryd.prog 44 #[.pointer (some ⟨r, 0, none⟩), .int .i64 i] w fun e w' => e = .returned (.bool (b.ev i)) ∧ w = w' := by
  have c0 := h.c0
  clear h
  have HV : Hid (b.ev i = (decide (0 ≤ i) && decide (i < b.n))) := rfl
  by_cases hi : 0 ≤ i
  · go_enter Tryd.func44, Tryd.ntmps44
    go_wp2
    go_ret
    exact ⟨by rw [HV.out]; simp [hi], rfl⟩
  · go_enter Tryd.func44, Tryd.ntmps44
    go_wp2
    go_ret
    exact ⟨by rw [HV.out, show decide (0 ≤ i) = false by simp; omega]; rfl, rfl⟩

set_option maxHeartbeats 1000000 in
theorem ren_bad (r q cap : Nat) (b : G) (i : Int) (on : Bool) (w : World) (h : IsR w r q cap b) (hv : b.ev i = false) :
    Calls Tryd.prog 39 #[.pointer (some ⟨r, 0, none⟩), .int .i64 i, .bool on] w fun e w' => e = .returned (.int .i64 6) ∧ w = w' := by
  have HB := Lib.hid h
  clear h
  go_enter Tryd.func39, Tryd.ntmps39
  go_wp2_with (go_at_call 44; refine (rhas_any r q cap b _ _ HB.out).mono ?_; rintro e w' ⟨rfl, rfl⟩)
  go_ret
  exact ⟨rfl, rfl⟩
set_option maxHeartbeats 1000000 in
theorem ren_ok (r q cap i : Nat) (b : G) (on : Bool) (w : World) (h : IsR w r q cap b) (hi : i < b.n) (hn : b.n ≤ 64) :
    Calls Tryd.prog 39 #[.pointer (some ⟨r, 0, none⟩), .int .i64 i, .bool on] w fun e w' => e = .returned (.int .i64 0) ∧ Keep (My.One q) w w' ∧ IsR w' r q cap { b with en := setb b.en i on } := by
  have hev := ev_nat b i hi
  have c0 := h.c0
  have c3 := h.cf hi (f := 3) (by omega)
  have f3 := h.fr (i * 6 + 3)
  have HB := Lib.hid h
  clear h
  go_enter Tryd.func39, Tryd.ntmps39
  go_wp2_with (go_at_call 44; refine (rhas_any r q cap b _ _ HB.out).mono ?_; rintro e w' ⟨rfl, rfl⟩)
  go_ret
  exact ⟨rfl, (Keep.refl _ _).setOne _ _, HB.out.en hi hn on⟩
set_option maxHeartbeats 1000000 in
theorem rwk_bad (r q cap : Nat) (b : G) (i : Int) (on : Bool) (w : World) (h : IsR w r q cap b) (hv : b.ev i = false) :
    Calls Tryd.prog 40 #[.pointer (some ⟨r, 0, none⟩), .int .i64 i, .bool on] w fun e w' => e = .returned (.int .i64 6) ∧ w = w' := by
  have HB := Lib.hid h
  clear h
  go_enter Tryd.func40, Tryd.ntmps40
  go_wp2_with (go_at_call 44; refine (rhas_any r q cap b _ _ HB.out).mono ?_; rintro e w' ⟨rfl, rfl⟩)
  go_ret
  exact ⟨rfl, rfl⟩
set_option maxHeartbeats 1000000 in
theorem rwk_ok (r q cap i : Nat) (b : G) (on : Bool) (w : World) (h : IsR w r q cap b) (hi : i < b.n) (hn : b.n ≤ 64) :
    Calls Tryd.prog 40 #[.pointer (some ⟨r, 0, none⟩), .int .i64 i, .bool on] w fun e w' => e = .returned (.int .i64 0) ∧ Keep (My.One q) w w' ∧ IsR w' r q cap { b with wk := setb b.wk i on } := by
  have hev := ev_nat b i hi
  have c0 := h.c0
  have c3 := h.cf hi (f := 4) (by omega)
  have f3 := h.fr (i * 6 + 4)
  have HB := Lib.hid h
  clear h
  go_enter Tryd.func40, Tryd.ntmps40
  go_wp2_with (go_at_call 44; refine (rhas_any r q cap b _ _ HB.out).mono ?_; rintro e w' ⟨rfl, rfl⟩)
  go_ret
  exact ⟨rfl, (Keep.refl _ _).setOne _ _, HB.out.wk hi hn on⟩

/-- The fields by name. -/
theorem IsR.fs {w : World} {r q cap : Nat} {b : G} (h : IsR w r q cap b) {i : Nat} (hi : i < b.n) :
    w.cell? ⟨q, i * 6, none⟩ = some (.bool (bg b.lv i)) ∧ w.cell? ⟨q, i * 6 + 1, none⟩ = some (.bool (bg b.ln i)) ∧ w.cell? ⟨q, i * 6 + 2, none⟩ = some (.bool (bg b.st i)) ∧
    w.cell? ⟨q, i * 6 + 3, none⟩ = some (.bool (bg b.en i)) ∧ w.cell? ⟨q, i * 6 + 4, none⟩ = some (.bool (bg b.wk i)) ∧ w.cell? ⟨q, i * 6 + 5, none⟩ = some (.bool (bg b.hd i)) :=
  ⟨h.cf hi (f := 0) (by omega), h.cf hi (f := 1) (by omega), h.cf hi (f := 2) (by omega), h.cf hi (f := 3) (by omega), h.cf hi (f := 4) (by omega), h.cf hi (f := 5) (by omega)⟩

set_option maxHeartbeats 1000000 in
theorem rstatus_bad (r q cap : Nat) (b : G) (i : Int) (w : World) (h : IsR w r q cap b) (hv : b.ev i = false) :
    Calls Tryd.prog 23 #[.pointer (some ⟨r, 0, none⟩), .int .i64 i] w fun e w' => e = .returned (.bool false) ∧ w = w' := by
  have HB := Lib.hid h
  clear h
  go_enter Tryd.func23, Tryd.ntmps23
  go_wp2_with (go_at_call 44; refine (rhas_any r q cap b _ _ HB.out).mono ?_; rintro e w' ⟨rfl, rfl⟩)
  go_ret
  exact ⟨rfl, rfl⟩
set_option maxHeartbeats 1000000 in
theorem rstatus_ok (r q cap i : Nat) (b : G) (w : World) (h : IsR w r q cap b) (hi : i < b.n) :
    Calls Tryd.prog 23 #[.pointer (some ⟨r, 0, none⟩), .int .i64 i] w fun e w' => e = .returned (.bool (bg b.st i)) ∧ w = w' := by
  have hev := ev_nat b i hi
  have c0 := h.c0
  obtain ⟨_, _, c2, _, _, _⟩ := h.fs hi
  have HB := Lib.hid h
  clear h
  go_enter Tryd.func23, Tryd.ntmps23
  go_wp2_with (go_at_call 44; refine (rhas_any r q cap b _ _ HB.out).mono ?_; rintro e w' ⟨rfl, rfl⟩)
  go_ret
  exact ⟨rfl, rfl⟩

set_option maxHeartbeats 1000000 in
theorem rset_bad (r q cap : Nat) (b : G) (i : Int) (on : Bool) (w : World) (h : IsR w r q cap b) (hv : b.ev i = false) :
    Calls Tryd.prog 43 #[.pointer (some ⟨r, 0, none⟩), .int .i64 i, .bool on] w fun e w' => e = .returned (.int .i64 6) ∧ w = w' := by
  have HB := Lib.hid h
  clear h
  go_enter Tryd.func43, Tryd.ntmps43
  go_wp2_with (go_at_call 44; refine (rhas_any r q cap b _ _ HB.out).mono ?_; rintro e w' ⟨rfl, rfl⟩)
  go_ret
  exact ⟨rfl, rfl⟩
set_option maxHeartbeats 4000000 in
theorem rset_ok (r q cap i : Nat) (b : G) (line : Bool) (w : World) (h : IsR w r q cap b) (hi : i < b.n) (hn : b.n ≤ 64) :
    Calls Tryd.prog 43 #[.pointer (some ⟨r, 0, none⟩), .int .i64 i, .bool line] w fun e w' => e = .returned (.int .i64 0) ∧ Keep (My.One q) w w' ∧ IsR w' r q cap (b.setM i line) := by
  have hev := ev_nat b i hi
  have c0 := h.c0
  have hrq := h.ne
  obtain ⟨d0, d1, d2, d3, d4, d5⟩ := h.fs hi
  have f1 := h.fr (i * 6 + 1)
  have f2 := h.fr (i * 6 + 2)
  have HB := Lib.hid h
  clear h
  cases line
  · have HM : Hid (b.setM i false = { b with ln := setb b.ln i false }) := by simp [Hid, G.setM]
    rw [HM.out]
    go_enter Tryd.func43, Tryd.ntmps43
    go_wp2_with (go_at_call 44; refine (rhas_any r q cap b _ _ HB.out).mono ?_; rintro e w' ⟨rfl, rfl⟩)
    go_ret
    exact ⟨rfl, (Keep.refl _ _).setOne _ _, HB.out.ln hi hn false⟩
  · cases hl : bg b.ln i
    · have HM : Hid (b.setM i true = { b with st := setb b.st i true, ln := setb b.ln i true }) := by simp [Hid, G.setM, hl]
      rw [HM.out]
      rw [hl] at d1
      go_enter Tryd.func43, Tryd.ntmps43
      go_wp2_with (go_at_call 44; refine (rhas_any r q cap b _ _ HB.out).mono ?_; rintro e w' ⟨rfl, rfl⟩)
      go_ret
      exact ⟨rfl, ((Keep.refl _ _).setOne _ _).setOne _ _, (HB.out.st hi hn true).ln hi hn true⟩
    · rw [hl] at d1
      cases hv : bg b.lv i
      · have HM : Hid (b.setM i true = { b with ln := setb b.ln i true }) := by simp [Hid, G.setM, hl, hv]
        rw [HM.out]
        rw [hv] at d0
        go_enter Tryd.func43, Tryd.ntmps43
        go_wp2_with (go_at_call 44; refine (rhas_any r q cap b _ _ HB.out).mono ?_; rintro e w' ⟨rfl, rfl⟩)
        go_ret
        exact ⟨rfl, (Keep.refl _ _).setOne _ _, HB.out.ln hi hn true⟩
      · rw [hv] at d0
        cases hh : bg b.hd i
        · have HM : Hid (b.setM i true = { b with st := setb b.st i true, ln := setb b.ln i true }) := by simp [Hid, G.setM, hl, hv, hh]
          rw [HM.out]
          rw [hh] at d5
          go_enter Tryd.func43, Tryd.ntmps43
          go_wp2_with (go_at_call 44; refine (rhas_any r q cap b _ _ HB.out).mono ?_; rintro e w' ⟨rfl, rfl⟩)
          go_ret
          exact ⟨rfl, ((Keep.refl _ _).setOne _ _).setOne _ _, (HB.out.st hi hn true).ln hi hn true⟩
        · have HM : Hid (b.setM i true = { b with ln := setb b.ln i true }) := by simp [Hid, G.setM, hl, hv, hh]
          rw [HM.out]
          rw [hh] at d5
          go_enter Tryd.func43, Tryd.ntmps43
          go_wp2_with (go_at_call 44; refine (rhas_any r q cap b _ _ HB.out).mono ?_; rintro e w' ⟨rfl, rfl⟩)
          go_ret
          exact ⟨rfl, (Keep.refl _ _).setOne _ _, HB.out.ln hi hn true⟩

set_option maxHeartbeats 1000000 in
theorem rcomp_bad (r q cap : Nat) (b : G) (i : Int) (w : World) (h : IsR w r q cap b) (hv : b.ev i = false) :
    Calls Tryd.prog 42 #[.pointer (some ⟨r, 0, none⟩), .int .i64 i] w fun e w' => e = .returned (.int .i64 6) ∧ w = w' := by
  have HB := Lib.hid h
  clear h
  go_enter Tryd.func42, Tryd.ntmps42
  go_wp2_with (go_at_call 44; refine (rhas_any r q cap b _ _ HB.out).mono ?_; rintro e w' ⟨rfl, rfl⟩)
  go_ret
  exact ⟨rfl, rfl⟩
set_option maxHeartbeats 1000000 in
theorem rcomp_no (r q cap i : Nat) (b : G) (w : World) (h : IsR w r q cap b) (hi : i < b.n) (hr : bg b.hd i = false) :
    Calls Tryd.prog 42 #[.pointer (some ⟨r, 0, none⟩), .int .i64 i] w fun e w' => e = .returned (.int .i64 9) ∧ w = w' := by
  have hev := ev_nat b i hi
  have c0 := h.c0
  obtain ⟨d0, d1, d2, d3, d4, d5⟩ := h.fs hi
  rw [hr] at d5
  have HB := Lib.hid h
  clear h hr
  go_enter Tryd.func42, Tryd.ntmps42
  go_wp2_with (go_at_call 44; refine (rhas_any r q cap b _ _ HB.out).mono ?_; rintro e w' ⟨rfl, rfl⟩)
  go_ret
  exact ⟨rfl, rfl⟩
set_option maxHeartbeats 2000000 in
theorem rcomp_ok (r q cap i : Nat) (b : G) (w : World) (h : IsR w r q cap b) (hi : i < b.n) (hn : b.n ≤ 64) (hr : bg b.hd i = true) :
    Calls Tryd.prog 42 #[.pointer (some ⟨r, 0, none⟩), .int .i64 i] w fun e w' => e = .returned (.int .i64 0) ∧ Keep (My.One q) w w' ∧ IsR w' r q cap (b.compM i) := by
  have hev := ev_nat b i hi
  have c0 := h.c0
  have hrq := h.ne
  obtain ⟨d0, d1, d2, d3, d4, d5⟩ := h.fs hi
  rw [hr] at d5
  have f2 := h.fr (i * 6 + 2)
  have f5 := h.fr (i * 6 + 5)
  have HB := Lib.hid h
  clear h hr
  cases hv : bg b.lv i
  · have HM : Hid (b.compM i = { b with hd := setb b.hd i false }) := by simp [Hid, G.compM, hv]
    rw [HM.out]
    rw [hv] at d0
    go_enter Tryd.func42, Tryd.ntmps42
    go_wp2_with (go_at_call 44; refine (rhas_any r q cap b _ _ HB.out).mono ?_; rintro e w' ⟨rfl, rfl⟩)
    go_ret
    exact ⟨rfl, (Keep.refl _ _).setOne _ _, HB.out.hdb hi hn false⟩
  · have HM : Hid (b.compM i = { b with hd := setb b.hd i false, st := setb b.st i (bg b.ln i) }) := by simp [Hid, G.compM, hv]
    rw [HM.out]
    rw [hv] at d0
    go_enter Tryd.func42, Tryd.ntmps42
    go_wp2_with (go_at_call 44; refine (rhas_any r q cap b _ _ HB.out).mono ?_; rintro e w' ⟨rfl, rfl⟩)
    go_ret
    exact ⟨rfl, ((Keep.refl _ _).setOne _ _).setOne _ _, (HB.out.hdb hi hn false).st hi hn (bg b.ln i)⟩
end Go.Proofs.YtolbecinjajejaaDoor
