/- One operation on both blocks: apply. -/
import Derived.Test.YtolbecinjajejaaDoorG14
import Derived.Deep.RegionWith
set_option linter.unusedVariables false
set_option linter.unusedSimpArgs false
namespace Go.Proofs.YtolbecinjajejaaDoor
open Go.RowKit Go.My

/-- Both blocks, told by one record. -/
structure Bo (w : World) (g r q cap : Nat) (b : G) : Prop where
  hg : IsG w g b
  hr : IsR w r q cap b
  n64 : b.n ≤ 64
  hi : Hi b
  g0 : g ≠ 0
  q0 : q ≠ 0
theorem Bo.ne {w : World} {g r q cap : Nat} {b : G} (h : Bo w g r q cap b) : g ≠ r ∧ g ≠ q := by
  obtain ⟨cur, hq, _⟩ := h.hr.row
  exact ⟨Blk.ne h.hg h.hr.hd (by decide), Blk.ne h.hg hq (by decide)⟩
theorem Bo.drewN {w : World} {g r q cap : Nat} {b : G} (h : Bo w g r q cap b) (m : Nat) : Bo (w.drewN m) g r q cap b := ⟨h.hg, h.hr.drewN m, h.n64, h.hi, h.g0, h.q0⟩
theorem Bo.drew {w : World} {g r q cap : Nat} {b : G} (h : Bo w g r q cap b) : Bo w.drew g r q cap b := ⟨h.hg, h.hr.drew, h.n64, h.hi, h.g0, h.q0⟩
/-- Both have moved on alike. -/
theorem Bo.both {w w1 w2 : World} {g r q cap : Nat} {b b' : G} (h : Bo w g r q cap b) (h1 : IsG w1 g b') (k : Keep (My.One q) w1 w2) (h2 : IsR w2 r q cap b') (hn : b'.n = b.n) (hh : Hi b') : Bo w2 g r q cap b' :=
  ⟨Blk.keep h1 k (fun e => h.ne.2 e), h2, by rw [hn]; exact h.n64, hh, h.g0, h.q0⟩
/-- The reference stays when the block moves. -/
theorem Bo.rest {w w1 : World} {g r q cap : Nat} {b : G} (h : Bo w g r q cap b) (k : Keep (My.One g) w w1) : IsR w1 r q cap b :=
  h.hr.keep k (fun e => h.ne.1 e.symm) (fun e => h.ne.2 e.symm)
theorem Keep.two {w w1 w2 : World} {g q : Nat} (k1 : Keep (My.One g) w w1) (k2 : Keep (My.One q) w1 w2) : Keep (fun k => k = g ∨ k = q) w w2 :=
  (k1.mono (fun _ h => .inl h)).trans k2 (fun _ _ h => .inr h)
def Two (g q : Nat) (k : Nat) : Prop := k = g ∨ k = q

set_option maxHeartbeats 4000000 in
theorem apply_any (g r q cap : Nat) (b : G) (kind ev : Int) (on : Bool) (w : World) (h : Bo w g r q cap b) (ht : Tab w) :
    Calls Tryd.prog 19 #[.pointer (some ⟨g, 0, none⟩), .pointer (some ⟨r, 0, none⟩), .agg #[.int .i64 kind, .int .i64 ev, .bool on], .int .i64 b.n] w fun e w' => e = .returned (.bool true) ∧ Keep (Two g q) w w' ∧ ∃ b', b'.n = b.n ∧ Bo w' g r q cap b' := by
  have HB := Lib.hid h
  have HT := Lib.hid ht
  have hn := h.n64
  clear h ht
  go_enter Tryd.func19, Tryd.ntmps19
  go_wp2_with fail
  refine (mod_any _ _ _ (by omega) (by omega)).mono ?_
  rintro e w' ⟨rfl, rfl⟩
  have hr1 := md_range ev (b.n + 2) (by omega)
  generalize md ev (b.n + 2) = x at *
  obtain ⟨hx1, hx2⟩ := hr1
  go_wp2_with fail
  refine (mod_any _ _ _ (by omega) (by omega)).mono ?_
  rintro e w' ⟨rfl, rfl⟩
  have hr := md_range kind 8 (by omega)
  generalize md kind 8 = m at *
  have HB0 : Hid (Bo (w.alloc (Obj.cells #[Value.int IntKind.i64 kind, Value.int IntKind.i64 ev, Value.bool on] 33)) g r q cap b) :=
    ⟨Blk.alloc HB.out.hg _, HB.out.hr.keep ((Keep.refl Non _).alloc _) (fun h => h) (fun h => h), HB.out.n64, HB.out.hi, HB.out.g0, HB.out.q0⟩
  have HK0 : Hid (Keep (Two g q) w (w.alloc (Obj.cells #[Value.int IntKind.i64 kind, Value.int IntKind.i64 ev, Value.bool on] 33))) := (Keep.refl _ _).alloc _
  have HT0 := Lib.hid (HT.out.keep HK0.out (fun h => by rcases h with h | h; exact HB.out.g0 h.symm; exact HB.out.q0 h.symm))
  have HC0 : Hid (Blk (w.alloc (Obj.cells #[Value.int IntKind.i64 kind, Value.int IntKind.i64 ev, Value.bool on] 33)) w.heap.size #[Value.int IntKind.i64 kind, Value.int IntKind.i64 ev, Value.bool on] 33) := Blk.new _ _ _
  have hag : w.heap.size ≠ g := fun e => by have h1 : g < w.heap.size := Blk.lt HB.out.hg; omega
  have haq : w.heap.size ≠ q := fun e => by have h1 := HB.out.hr.ltq; omega
  generalize w.alloc (Obj.cells #[Value.int IntKind.i64 kind, Value.int IntKind.i64 ev, Value.bool on] 33) = W at *
  generalize w.heap.size = a at *
  have c0 := HC0.out.cell 0
  have c2 := HC0.out.cell 2
  simp only [List.getElem?_toArray, List.getElem?_cons_zero, List.getElem?_cons_succ] at c0 c2
  rcases (by omega : m = 0 ∨ m = 1 ∨ m = 2 ∨ m = 3 ∨ m = 4 ∨ m = 5 ∨ m = 6 ∨ m = 7) with rfl | rfl | rfl | rfl | rfl | rfl | rfl | rfl
  all_goals clear hr
  · go_wp2_with fail
    go_region_with (first | (go_at_call 13; refine (gset_any g b (x - 1) on _ (IsG.drew HB0.out.hg) hn).mono ?_; rintro e z1 ⟨rfl, hk0, hb0⟩; have c2z := (HC0.out.drew.keep hk0 hag).cell 2; have HK1 := Lib.hid (show Keep (My.One g) W z1 from (Keep.drew (Keep.refl _ W)).tr hk0); have HG1 := Lib.hid hb0; clear hk0 hb0; simp only [List.getElem?_toArray, List.getElem?_cons_zero, List.getElem?_cons_succ] at c2z) | (go_at_call 43; refine (rset_any r q cap b (x - 1) on _ (HB0.out.rest HK1.out) hn).mono ?_; rintro e z2 ⟨rfl, hk0, hb0⟩; have HK2 := Lib.hid hk0; have HR2 := Lib.hid hb0; clear hk0 hb0))
    all_goals
      go_wp2
      go_ret
      exact ⟨rfl, HK0.out.trans (Keep.two HK1.out HK2.out) (fun _ _ h => h), b.setA (x - 1) on, (setA_n _ _ _), HB0.out.both HG1.out HK2.out HR2.out (setA_n _ _ _) (hi_setA HB0.out.hi _ _ hn)⟩
  · go_wp2_with fail
    go_region_with (first | (go_at_call 13; refine (gset_any g b (x - 1) on _ (IsG.drew HB0.out.hg) hn).mono ?_; rintro e z1 ⟨rfl, hk0, hb0⟩; have c2z := (HC0.out.drew.keep hk0 hag).cell 2; have HK1 := Lib.hid (show Keep (My.One g) W z1 from (Keep.drew (Keep.refl _ W)).tr hk0); have HG1 := Lib.hid hb0; clear hk0 hb0; simp only [List.getElem?_toArray, List.getElem?_cons_zero, List.getElem?_cons_succ] at c2z) | (go_at_call 43; refine (rset_any r q cap b (x - 1) on _ (HB0.out.rest HK1.out) hn).mono ?_; rintro e z2 ⟨rfl, hk0, hb0⟩; have HK2 := Lib.hid hk0; have HR2 := Lib.hid hb0; clear hk0 hb0))
    all_goals
      go_wp2
      go_ret
      exact ⟨rfl, HK0.out.trans (Keep.two HK1.out HK2.out) (fun _ _ h => h), b.setA (x - 1) on, (setA_n _ _ _), HB0.out.both HG1.out HK2.out HR2.out (setA_n _ _ _) (hi_setA HB0.out.hi _ _ hn)⟩
  · go_wp2_with fail
    go_region_with (first | (go_at_call 13; refine (gset_any g b (x - 1) on _ (IsG.drew HB0.out.hg) hn).mono ?_; rintro e z1 ⟨rfl, hk0, hb0⟩; have c2z := (HC0.out.drew.keep hk0 hag).cell 2; have HK1 := Lib.hid (show Keep (My.One g) W z1 from (Keep.drew (Keep.refl _ W)).tr hk0); have HG1 := Lib.hid hb0; clear hk0 hb0; simp only [List.getElem?_toArray, List.getElem?_cons_zero, List.getElem?_cons_succ] at c2z) | (go_at_call 43; refine (rset_any r q cap b (x - 1) on _ (HB0.out.rest HK1.out) hn).mono ?_; rintro e z2 ⟨rfl, hk0, hb0⟩; have HK2 := Lib.hid hk0; have HR2 := Lib.hid hb0; clear hk0 hb0))
    all_goals
      go_wp2
      go_ret
      exact ⟨rfl, HK0.out.trans (Keep.two HK1.out HK2.out) (fun _ _ h => h), b.setA (x - 1) on, (setA_n _ _ _), HB0.out.both HG1.out HK2.out HR2.out (setA_n _ _ _) (hi_setA HB0.out.hi _ _ hn)⟩
  · go_wp2_with fail
    go_region_with (first | (go_at_call 12; refine (gen_any g b (x - 1) on _ (IsG.drew HB0.out.hg) hn).mono ?_; rintro e z1 ⟨rfl, hk0, hb0⟩; have c2z := (HC0.out.drew.keep hk0 hag).cell 2; have HK1 := Lib.hid (show Keep (My.One g) W z1 from (Keep.drew (Keep.refl _ W)).tr hk0); have HG1 := Lib.hid hb0; clear hk0 hb0; simp only [List.getElem?_toArray, List.getElem?_cons_zero, List.getElem?_cons_succ] at c2z) | (go_at_call 39; refine (ren_any r q cap b (x - 1) on _ (HB0.out.rest HK1.out) hn).mono ?_; rintro e z2 ⟨rfl, hk0, hb0⟩; have HK2 := Lib.hid hk0; have HR2 := Lib.hid hb0; clear hk0 hb0))
    all_goals
      go_wp2
      go_ret
      exact ⟨rfl, HK0.out.trans (Keep.two HK1.out HK2.out) (fun _ _ h => h), b.enA (x - 1) on, (enA_n _ _ _), HB0.out.both HG1.out HK2.out HR2.out (enA_n _ _ _) (hi_enA HB0.out.hi _ _)⟩
  · go_wp2_with fail
    go_region_with (first | (go_at_call 24; refine (gwk_any g b (x - 1) on _ (IsG.drew HB0.out.hg) hn).mono ?_; rintro e z1 ⟨rfl, hk0, hb0⟩; have c2z := (HC0.out.drew.keep hk0 hag).cell 2; have HK1 := Lib.hid (show Keep (My.One g) W z1 from (Keep.drew (Keep.refl _ W)).tr hk0); have HG1 := Lib.hid hb0; clear hk0 hb0; simp only [List.getElem?_toArray, List.getElem?_cons_zero, List.getElem?_cons_succ] at c2z) | (go_at_call 40; refine (rwk_any r q cap b (x - 1) on _ (HB0.out.rest HK1.out) hn).mono ?_; rintro e z2 ⟨rfl, hk0, hb0⟩; have HK2 := Lib.hid hk0; have HR2 := Lib.hid hb0; clear hk0 hb0))
    all_goals
      go_wp2
      go_ret
      exact ⟨rfl, HK0.out.trans (Keep.two HK1.out HK2.out) (fun _ _ h => h), b.wkA (x - 1) on, (wkA_n _ _ _), HB0.out.both HG1.out HK2.out HR2.out (wkA_n _ _ _) (hi_wkA HB0.out.hi _ _)⟩
  · go_wp2_with fail
    refine (rnext_any r q cap b _ HB0.out.hr hn).mono ?_
    rintro e z1 ⟨rfl, rfl⟩
    generalize firstOf (rdy b) b.n 0 = res
    cases res <;> cases on <;> simp only [nextV]
    all_goals
      go_wp2_with fail
      refine (gbeg_any g b _ _ HB0.out.hg hn).mono ?_
      rintro e z1 ⟨rfl, hk0, hb0⟩
      have HK1 := Lib.hid hk0
      have HG1 := Lib.hid hb0
      clear hk0 hb0
      go_wp2_with fail
      refine (rbeg_any r q cap b _ _ (HB0.out.rest HK1.out) hn).mono ?_
      rintro e z2 ⟨rfl, hk0, hb0⟩
      have HK2 := Lib.hid hk0
      have HR2 := Lib.hid hb0
      clear hk0 hb0
      go_wp2
      go_ret
      exact ⟨rfl, HK0.out.trans (Keep.two HK1.out HK2.out) (fun _ _ h => h), b.begA _, begA_n _ _, HB0.out.both HG1.out HK2.out HR2.out (begA_n _ _) (hi_begA HB0.out.hi _ hn)⟩
  · go_wp2_with fail
    refine (gcomp_any g b (x - 1) _ HB0.out.hg hn).mono ?_
    rintro e z1 ⟨rfl, hk0, hb0⟩
    have HK1 := Lib.hid hk0
    have HG1 := Lib.hid hb0
    clear hk0 hb0
    go_wp2_with fail
    refine (rcomp_any r q cap b (x - 1) _ (HB0.out.rest HK1.out) hn).mono ?_
    rintro e z2 ⟨rfl, hk0, hb0⟩
    have HK2 := Lib.hid hk0
    have HR2 := Lib.hid hb0
    clear hk0 hb0
    go_wp2
    go_ret
    exact ⟨rfl, HK0.out.trans (Keep.two HK1.out HK2.out) (fun _ _ h => h), b.compA (x - 1), (compA_n _ _), HB0.out.both HG1.out HK2.out HR2.out (compA_n _ _) (hi_compA HB0.out.hi _ hn)⟩
  · go_wp2_with fail
    refine (gcomp_any g b (x - 1) _ HB0.out.hg hn).mono ?_
    rintro e z1 ⟨rfl, hk0, hb0⟩
    have HK1 := Lib.hid hk0
    have HG1 := Lib.hid hb0
    clear hk0 hb0
    go_wp2_with fail
    refine (rcomp_any r q cap b (x - 1) _ (HB0.out.rest HK1.out) hn).mono ?_
    rintro e z2 ⟨rfl, hk0, hb0⟩
    have HK2 := Lib.hid hk0
    have HR2 := Lib.hid hb0
    clear hk0 hb0
    go_wp2
    go_ret
    exact ⟨rfl, HK0.out.trans (Keep.two HK1.out HK2.out) (fun _ _ h => h), b.compA (x - 1), (compA_n _ _), HB0.out.both HG1.out HK2.out HR2.out (compA_n _ _) (hi_compA HB0.out.hi _ hn)⟩
end Go.Proofs.YtolbecinjajejaaDoor
