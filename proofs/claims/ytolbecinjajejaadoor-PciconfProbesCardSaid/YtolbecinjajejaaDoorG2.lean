/- The block of events: what its small functions and its methods do, by bit vectors. -/
import Derived.Test.YtolbecinjajejaaDoorG1
set_option linter.unusedVariables false
set_option linter.unusedSimpArgs false
namespace Go.Proofs.YtolbecinjajejaaDoor
open Go.RowKit Go.My

/-- Go's table, as it lies in a world. -/
def Tab (w : World) : Prop := 0 < w.heap.size ∧ ∀ i, i < 64 → w.cell? ⟨0, i, none⟩ = some (.int .u8 (tabL.getD i 0))
theorem Tab.keep {S : Nat → Prop} {w w1 : World} (h : Tab w) (k : Keep S w w1) (hn : ¬ S 0) : Tab w1 :=
  ⟨Nat.lt_of_lt_of_le h.1 k.size, fun i hi => (k.cell (p := ⟨0, i, none⟩) h.1 hn).trans (h.2 i hi)⟩

/-- A bit of a word. -/
def bg (x : BitVec 64) (i : Nat) : Bool := x.getLsbD i
theorem bg_setb (x : BitVec 64) (i j : Nat) (on : Bool) (hi : i < 64) (hj : j < 64) : bg (setb x i on) j = if i = j then on else bg x j := setb_get x i j on hi hj
/-- The smallest bit that is set. -/
def Low (x : BitVec 64) (k : Nat) : Prop := k < 64 ∧ x.getLsbD k = true ∧ ∀ j, j < k → x.getLsbD j = false
theorem Low.uniq {x : BitVec 64} {k k' : Nat} (h : Low x k) (h' : Low x k') : k = k' := by
  rcases Nat.lt_trichotomy k k' with e | e | e
  · have := h'.2.2 k e; rw [h.2.1] at this; cases this
  · exact e
  · have := h.2.2 k' e; rw [h'.2.1] at this; cases this

set_option maxHeartbeats 1000000 in
theorem tz_any (x : BitVec 64) (k : Nat) (w : World) (hl : Low x k) (ht : Tab w) :
    Calls Tryd.prog 38 #[.int .u64 (un x)] w fun e w' => e = .returned (.int .i64 k) ∧ w = w' := by
  obtain ⟨hk, h1, h2⟩ := hl
  have hx : (un x == 0) = false := by
    rw [beq_eq_false_iff_ne]
    intro h
    have : x = 0#64 := un_inj (by simpa [un] using h)
    subst this
    simp at h1
  obtain ⟨hi, htab⟩ := idxT_ok k hk
  have hidx := idx_eq x k hk h1 h2
  generalize hD : IntKind.u64.wrap (bits .and .u64 (un x) (IntKind.u64.wrap (-un x)) * 285870213051353865) / 288230376151711744 = D at hidx
  have hc : w.cell? ⟨0, D.toNat, none⟩ = some (.int .u8 (k : Int)) := by
    rw [hidx, Int.toNat_natCast, ht.2 _ hi, htab]
  have hD0 : 0 ≤ D := by omega
  have hD1 : D < 64 := by omega
  clear hidx htab ht h1 h2 hi
  subst hD
  go_enter Tryd.func38, Tryd.ntmps38
  go_wp2
  go_ret
  exact ⟨rfl, rfl⟩

set_option maxHeartbeats 1000000 in
theorem set_any (g o i : Nat) (x : BitVec 64) (on : Bool) (w : World) (c : w.cell? ⟨g, o, none⟩ = some (.int .u64 (un x))) (f : w.frozen? ⟨g, o, none⟩ = false) (hi : i < 64) :
    Calls Tryd.prog 34 #[.pointer (some ⟨g, o, none⟩), .int .i64 i, .bool on] w fun e w' => e = .returned (.tuple #[]) ∧ Keep (My.One g) w w' ∧ (∀ cs t, Blk w g cs t → Blk w' g (cs.setIfInBounds o (.int .u64 (un (setb x i on)))) t) := by
  have h1 := un_nonneg x
  have h2 := un_lt x
  cases on
  · go_enter Tryd.func34, Tryd.ntmps34
    go_wp2
    go_region
    all_goals
      go_wp2
      go_end0
      refine ⟨rfl, ?_, ?_⟩
      · repeat (first | exact Keep.refl _ _ | apply Keep.drew | apply Keep.drewN | apply Keep.setOne)
      · intro cs t hb
        rw [setb_off]
        exact hb.set o _
  · go_enter Tryd.func34, Tryd.ntmps34
    go_wp2
    go_region
    all_goals
      go_wp2
      go_region
    all_goals
      go_wp2
      go_end0
      refine ⟨rfl, ?_, ?_⟩
      · repeat (first | exact Keep.refl _ _ | apply Keep.drew | apply Keep.drewN | apply Keep.setOne)
      · intro cs t hb
        rw [setb_off, setb_on]
        have := (hb.set o (.int .u64 (un (setb x i false)))).set o (.int .u64 (un (setb x i true)))
        rw [Array.setIfInBounds_setIfInBounds] at this
        exact this

set_option maxHeartbeats 1000000 in
theorem has_any (i : Nat) (x : BitVec 64) (w : World) (hi : i < 64) :
    Calls Tryd.prog 36 #[.int .u64 (un x), .int .i64 i] w fun e w' => e = .returned (.bool (bg x i)) ∧ w = w' := by
  have h1 := un_nonneg x
  have h2 := un_lt x
  go_enter Tryd.func36, Tryd.ntmps36
  go_wp2
  go_ret
  exact ⟨by unfold bg; rw [← has_bit]; rfl, rfl⟩

/-- A block's state: its number of events; levels, lines, status, enable, wake, handled. -/
structure G where
  n : Nat
  lv : BitVec 64
  ln : BitVec 64
  st : BitVec 64
  en : BitVec 64
  wk : BitVec 64
  hd : BitVec 64
def G.cells (b : G) : Array Value := #[.int .i64 b.n, .int .u64 (un b.lv), .int .u64 (un b.ln), .int .u64 (un b.st), .int .u64 (un b.en), .int .u64 (un b.wk), .int .u64 (un b.hd)]
def IsG (w : World) (g : Nat) (b : G) : Prop := Blk w g b.cells 70
def G.ready (b : G) : BitVec 64 := (b.st &&& b.en) &&& ~~~b.hd
/-- There is an event of this number. -/
def G.ev (b : G) (i : Int) : Bool := decide (0 ≤ i) && decide (i < b.n)

theorem IsG.c0 {w : World} {g : Nat} {b : G} (h : IsG w g b) : w.cell? ⟨g, 0, none⟩ = some (.int .i64 b.n) := (Blk.cell h 0).trans rfl
theorem IsG.c1 {w : World} {g : Nat} {b : G} (h : IsG w g b) : w.cell? ⟨g, 1, none⟩ = some (.int .u64 (un b.lv)) := (Blk.cell h 1).trans rfl
theorem IsG.c2 {w : World} {g : Nat} {b : G} (h : IsG w g b) : w.cell? ⟨g, 2, none⟩ = some (.int .u64 (un b.ln)) := (Blk.cell h 2).trans rfl
theorem IsG.c3 {w : World} {g : Nat} {b : G} (h : IsG w g b) : w.cell? ⟨g, 3, none⟩ = some (.int .u64 (un b.st)) := (Blk.cell h 3).trans rfl
theorem IsG.c4 {w : World} {g : Nat} {b : G} (h : IsG w g b) : w.cell? ⟨g, 4, none⟩ = some (.int .u64 (un b.en)) := (Blk.cell h 4).trans rfl
theorem IsG.c5 {w : World} {g : Nat} {b : G} (h : IsG w g b) : w.cell? ⟨g, 5, none⟩ = some (.int .u64 (un b.wk)) := (Blk.cell h 5).trans rfl
theorem IsG.c6 {w : World} {g : Nat} {b : G} (h : IsG w g b) : w.cell? ⟨g, 6, none⟩ = some (.int .u64 (un b.hd)) := (Blk.cell h 6).trans rfl
theorem IsG.keep {S : Nat → Prop} {w w1 : World} {g : Nat} {b : G} (h : IsG w g b) (k : Keep S w w1) (hn : ¬ S g) : IsG w1 g b := Blk.keep h k hn

/-- set at one of the words. -/
theorem setW {o : Nat} {f : G → BitVec 64} {put : G → BitVec 64 → G} (ho : ∀ w g b, IsG w g b → w.cell? ⟨g, o, none⟩ = some (.int .u64 (un (f b))))
    (hp : ∀ (b : G) (y : BitVec 64), b.cells.setIfInBounds o (.int .u64 (un y)) = (put b y).cells)
    (g i : Nat) (b : G) (on : Bool) (w : World) (h : IsG w g b) (hi : i < 64) :
    Calls Tryd.prog 34 #[.pointer (some ⟨g, o, none⟩), .int .i64 i, .bool on] w fun e w' => e = .returned (.tuple #[]) ∧ Keep (My.One g) w w' ∧ IsG w' g (put b (setb (f b) i on)) :=
  (set_any g o i (f b) on w (ho w g b h) (Blk.free h o) hi).mono fun e w' ⟨h1, h2, h3⟩ => ⟨h1, h2, by have := h3 _ _ h; rw [hp] at this; exact this⟩
theorem setLv (g i : Nat) (b : G) (on : Bool) (w : World) (h : IsG w g b) (hi : i < 64) :
    Calls Tryd.prog 34 #[.pointer (some ⟨g, 1, none⟩), .int .i64 i, .bool on] w fun e w' => e = .returned (.tuple #[]) ∧ Keep (My.One g) w w' ∧ IsG w' g { b with lv := setb b.lv i on } :=
  @setW 1 G.lv (fun b y => { b with lv := y }) (fun _ _ _ h => h.c1) (fun _ _ => rfl) g i b on w h hi
theorem setLn (g i : Nat) (b : G) (on : Bool) (w : World) (h : IsG w g b) (hi : i < 64) :
    Calls Tryd.prog 34 #[.pointer (some ⟨g, 2, none⟩), .int .i64 i, .bool on] w fun e w' => e = .returned (.tuple #[]) ∧ Keep (My.One g) w w' ∧ IsG w' g { b with ln := setb b.ln i on } :=
  @setW 2 G.ln (fun b y => { b with ln := y }) (fun _ _ _ h => h.c2) (fun _ _ => rfl) g i b on w h hi
theorem setSt (g i : Nat) (b : G) (on : Bool) (w : World) (h : IsG w g b) (hi : i < 64) :
    Calls Tryd.prog 34 #[.pointer (some ⟨g, 3, none⟩), .int .i64 i, .bool on] w fun e w' => e = .returned (.tuple #[]) ∧ Keep (My.One g) w w' ∧ IsG w' g { b with st := setb b.st i on } :=
  @setW 3 G.st (fun b y => { b with st := y }) (fun _ _ _ h => h.c3) (fun _ _ => rfl) g i b on w h hi
theorem setEn (g i : Nat) (b : G) (on : Bool) (w : World) (h : IsG w g b) (hi : i < 64) :
    Calls Tryd.prog 34 #[.pointer (some ⟨g, 4, none⟩), .int .i64 i, .bool on] w fun e w' => e = .returned (.tuple #[]) ∧ Keep (My.One g) w w' ∧ IsG w' g { b with en := setb b.en i on } :=
  @setW 4 G.en (fun b y => { b with en := y }) (fun _ _ _ h => h.c4) (fun _ _ => rfl) g i b on w h hi
theorem setWk (g i : Nat) (b : G) (on : Bool) (w : World) (h : IsG w g b) (hi : i < 64) :
    Calls Tryd.prog 34 #[.pointer (some ⟨g, 5, none⟩), .int .i64 i, .bool on] w fun e w' => e = .returned (.tuple #[]) ∧ Keep (My.One g) w w' ∧ IsG w' g { b with wk := setb b.wk i on } :=
  @setW 5 G.wk (fun b y => { b with wk := y }) (fun _ _ _ h => h.c5) (fun _ _ => rfl) g i b on w h hi
theorem setHd (g i : Nat) (b : G) (on : Bool) (w : World) (h : IsG w g b) (hi : i < 64) :
    Calls Tryd.prog 34 #[.pointer (some ⟨g, 6, none⟩), .int .i64 i, .bool on] w fun e w' => e = .returned (.tuple #[]) ∧ Keep (My.One g) w w' ∧ IsG w' g { b with hd := setb b.hd i on } :=
  @setW 6 G.hd (fun b y => { b with hd := y }) (fun _ _ _ h => h.c6) (fun _ _ => rfl) g i b on w h hi

set_option maxHeartbeats 1000000 in
theorem event_any (g : Nat) (b : G) (i : Int) (w : World) (h : IsG w g b) :
    Calls Tryd.prog 35 #[.pointer (some ⟨g, 0, none⟩), .int .i64 i] w fun e w' => e = .returned (.bool (b.ev i)) ∧ w = w' := by
  have c0 := h.c0
  clear h
  have HV : Hid (b.ev i = (decide (0 ≤ i) && decide (i < b.n))) := rfl
  by_cases hi : 0 ≤ i
  · go_enter Tryd.func35, Tryd.ntmps35
    go_wp2
    go_ret
    exact ⟨by rw [HV.out]; simp [hi], rfl⟩
  · go_enter Tryd.func35, Tryd.ntmps35
    go_wp2
    go_ret
    exact ⟨by rw [HV.out, show decide (0 ≤ i) = false by simp; omega]; rfl, rfl⟩

set_option maxHeartbeats 1000000 in
theorem ready_any (g : Nat) (b : G) (w : World) (h : IsG w g b) :
    Calls Tryd.prog 37 #[.pointer (some ⟨g, 0, none⟩)] w fun e w' => e = .returned (.int .u64 (un b.ready)) ∧ ∃ m, w' = w.drewN m := by
  have c3 := h.c3
  have c4 := h.c4
  have c6 := h.c6
  have HV : Hid (un b.ready = bits .andNot .u64 (bits .and .u64 (un b.st) (un b.en)) (un b.hd)) := by rw [bits_and, bits_andNot]; rfl
  clear h
  go_enter Tryd.func37, Tryd.ntmps37
  go_wp2
  go_quiet (fail)
  go_wp2
  go_ret
  exact ⟨by rw [HV.out]; rfl, _, rfl⟩
theorem ev_nat (b : G) (i : Nat) (h : i < b.n) : b.ev (i : Int) = true := by simp [G.ev, h]
end Go.Proofs.YtolbecinjajejaaDoor
