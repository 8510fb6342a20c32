/- The law GpeNoEdgeLost: the walk. -/
import Derived.Test.YtolbecinjajejaaDoorG8
import Derived.Test.YtolbecinjajejaaDoorL2
namespace Go.Proofs.YtolbecinjajejaaDoor
open Go.RowKit Go.My
set_option linter.unusedVariables false
set_option linter.unusedSimpArgs false

/-- An operation. -/
structure OpG where
  k : Int
  e : Int
  on : Bool
def ROp (x : OpG) (cs : List Value) : Prop := cs = [.int .i64 x.k, .int .i64 x.e, .bool x.on]

theorem ops_of_trod {H : Type} {enc : TypeId × Value → H} {w : World} {base : Nat} {v : Value} (hw : Value.okWide Tryd.prog w .any base 30 v) {d : DataW H} {p : List MemPlace}
    (h : DataW.Trod enc Tryd.prog w 0 (fun _ => true) true 30 v d p) : ∃ xs : List OpG, RowR ROp 3 (fun _ => True) w v xs := by
  refine rowR_of_trod ROp Tryd.underlying30 (by kernel_rfl) (by omega) ?_ hw h
  intro n cs y hl hy
  obtain ⟨y0, y1, y2, m, _, _, h0, h1, h2⟩ := Go.Deep.trod_struct3 Tryd.underlying33 hy
  match cs, hl with
  | [c0, c1, c2], _ =>
    have e3 : Tryd.prog.cellsOf 3 = 1 := by kernel_rfl
    have e4 : Tryd.prog.cellsOf 4 = 1 := by kernel_rfl
    rw [e3] at h0 h1
    rw [e4] at h2
    simp only [List.drop_zero, List.take_succ_cons, List.take_zero, List.drop_succ_cons] at h0 h1 h2
    obtain ⟨a, q0, _⟩ := DataW.trod_int Tryd.underlying3 h0
    obtain ⟨b, q1, _⟩ := DataW.trod_int Tryd.underlying3 h1
    obtain ⟨c, q2, _⟩ := DataW.trod_bool Tryd.underlying4 h2
    simp only [List.cons.injEq, and_true] at q0 q1 q2
    exact ⟨⟨a, b, c⟩, by subst q0 q1 q2; rfl⟩

/-- What the law keeps of event 0. -/
structure Inv (b : G) (l p h : Bool) : Prop where
  n : b.n = 3
  lv : bg b.lv 0 = false
  en : b.en = setb 0 0 true
  ln : bg b.ln 0 = l
  st : bg b.st 0 = p
  hd : bg b.hd 0 = h
theorem bg0 (x : BitVec 64) (i : Nat) (on : Bool) (hi : i < 64) : bg (setb x i on) 0 = if i = 0 then on else bg x 0 := bg_setb x i 0 on hi (by omega)
theorem Inv.set0 {b : G} {l p h : Bool} (v : Inv b l p h) (on : Bool) : Inv (b.setM 0 on) on (p || (on && !l)) h := by
  obtain ⟨h1, h2, h3, h4, h5, h6⟩ := v
  refine ⟨h1, h2, h3, ?_, ?_, h6⟩
  · show bg (setb b.ln 0 on) 0 = on
    rw [bg0 _ _ _ (by omega)]; simp
  · show bg (if on && (!(bg b.ln 0) || (bg b.lv 0 && !(bg b.hd 0))) then setb b.st 0 true else b.st) 0 = _
    rw [h4, h2, h6]
    cases on <;> cases l <;> simp [h5, bg0]
theorem Inv.set {b : G} {l p h : Bool} (v : Inv b l p h) (on : Bool) (i : Nat) (hi : i = 1 ∨ i = 2) : Inv (b.setM i on) l p h := by
  obtain ⟨h1, h2, h3, h4, h5, h6⟩ := v
  have hi64 : i < 64 := by omega
  have hi0 : ¬ i = 0 := by omega
  refine ⟨h1, h2, h3, ?_, ?_, h6⟩
  · show bg (setb b.ln i on) 0 = l
    rw [bg0 _ _ _ hi64, if_neg hi0]; exact h4
  · show bg (if on && (!(bg b.ln i) || (bg b.lv i && !(bg b.hd i))) then setb b.st i true else b.st) 0 = p
    split
    · rw [bg0 _ _ _ hi64, if_neg hi0]; exact h5
    · exact h5
theorem Inv.beg {b : G} {l h : Bool} {p : Bool} (v : Inv b l p h) : Inv (b.begM 0) l false true := by
  obtain ⟨h1, h2, h3, h4, h5, h6⟩ := v
  refine ⟨h1, h2, h3, h4, ?_, ?_⟩
  · show bg (if bg b.lv 0 then b.st else setb b.st 0 false) 0 = false
    rw [h2]; simp [bg0]
  · show bg (setb b.hd 0 true) 0 = true
    rw [bg0 _ _ _ (by omega)]; simp
theorem Inv.comp {b : G} {l h : Bool} {p : Bool} (v : Inv b l p h) : Inv (b.compM 0) l p false := by
  obtain ⟨h1, h2, h3, h4, h5, h6⟩ := v
  refine ⟨h1, h2, h3, h4, ?_, ?_⟩
  · show bg (if bg b.lv 0 then setb b.st 0 (bg b.ln 0) else b.st) 0 = p
    rw [h2]; simp [h5]
  · show bg (setb b.hd 0 false) 0 = false
    rw [bg0 _ _ _ (by omega)]; simp
theorem Inv.bit {b : G} {l p h : Bool} (v : Inv b l p h) (j : Nat) (hj : j < 64) : bg b.ready j = (if 0 = j then p && !h else false) := by
  rw [ready_bit _ _ hj, v.en, bg_setb _ _ _ _ (by omega) hj]
  by_cases e : 0 = j
  · subst e; rw [v.st, v.hd]; simp
  · rw [if_neg e, if_neg e, bg_zero]; simp
theorem Inv.some {b : G} {l : Bool} (v : Inv b l true false) : Low b.ready 0 := low_of (by omega) (by rw [v.bit 0 (by omega)]; simp) (fun j hj => by omega)
theorem Inv.none {b : G} {l p h : Bool} (v : Inv b l p h) (hn : (p && !h) = false) : b.ready = 0#64 := eq_zero_of (fun j hj => by rw [v.bit j hj, hn]; simp)

theorem cells_three {w : World} {b off k : Nat} {cs : List Value} {x : OpG} (hl : cs.length = 3) (hr : ROp x cs) (h : ∀ j, j < 3 → w.cell? ⟨b, off + k * 3 + j, none⟩ = cs[j]?) :
    w.cell? ⟨b, off + k * 3, none⟩ = Option.some (.int .i64 x.k) ∧ w.cell? ⟨b, off + k * 3 + 1, none⟩ = Option.some (.int .i64 x.e) ∧ w.cell? ⟨b, off + k * 3 + 2, none⟩ = Option.some (.bool x.on) := by
  unfold ROp at hr
  subst hr
  exact ⟨h 0 (by omega), h 1 (by omega), h 2 (by omega)⟩

end Go.Proofs.YtolbecinjajejaaDoor
