/- some: an arbitrary function mapped to another. Printed by genD7.py. -/
import Derived.Test.YtolbecinjajejaaDoorD6
import Derived.Test.YtolbecinjajejaaDoorD3
import Derived.Test.YtolbecinjajejaaDoorL5
import Derived.IntWalk
import Derived.Deep.DeepCutAuto
import Derived.Deep.CutBlock
set_option linter.unusedVariables false
set_option linter.unusedSimpArgs false
namespace Go.Proofs.YtolbecinjajejaaDoor
open Go.RowKit Go.My

theorem own_keep {w w1 : World} {base e sz : Nat} {v : Value} {n : Nat} {xs : List Value} (h : w.ownsRow base e sz v n xs) (k : Keep Non w w1) : w1.ownsRow base e sz v n xs := by
  refine ⟨h.1, h.2.imp id ?_⟩
  rintro ⟨g, cap, cur, h1, h2, h3, h4⟩
  exact ⟨g, cap, cur, h1, h2, k.blk h3 (fun h => h), h4⟩
theorem f_cells {w : World} {g : Nat} {G : Fh} {v : Value} (h : Blk w g (fhL G v) 50) :
    w.cell? ⟨g, 0, none⟩ = some (.int .i64 G.parent) ∧ w.cell? ⟨g, 1, none⟩ = some (.int .i64 G.slot) ∧ w.cell? ⟨g, 2, none⟩ = some (.int .i64 G.vendor) ∧ w.cell? ⟨g, 3, none⟩ = some (.int .i64 G.device) ∧
    w.cell? ⟨g, 4, none⟩ = some (.bool G.bridge) ∧ w.cell? ⟨g, 5, none⟩ = some (.bool G.pref) ∧ w.cell? ⟨g, 6, none⟩ = some (.bool G.hot) ∧ w.cell? ⟨g, 7, none⟩ = some (.int .i64 G.spare) ∧
    w.cell? ⟨g, 8, none⟩ = some (.int .i64 G.pin) ∧ w.cell? ⟨g, 9, none⟩ = some (.int .i64 G.vectors) ∧ w.cell? ⟨g, 10, none⟩ = some v :=
  ⟨h.cell 0, h.cell 1, h.cell 2, h.cell 3, h.cell 4, h.cell 5, h.cell 6, h.cell 7, h.cell 8, h.cell 9, h.cell 10⟩
theorem encB_one1 (x : Br) : ∀ u ∈ encB x, u.oneCell' = true := by
  intro u hu
  simp only [encB, List.mem_cons, List.not_mem_nil, or_false] at hu
  rcases hu with rfl | rfl <;> rfl
theorem reads_new (w : World) (k n : Int) : Reads (w.alloc (.cells #[.int .i64 k, .int .i64 n] 67)) (w.heap.size + 1) 2 (some ⟨w.heap.size, 0, none⟩) 1 (encB ⟨k, n⟩) := by
  refine ⟨rfl, fun _ => ⟨_, rfl, Nat.lt_succ_self _, fun j u hu => ?_⟩⟩
  have hj : j < 2 := (List.getElem?_eq_some_iff.1 hu).1
  rw [add_plain, Nat.zero_add, (Blk.new w #[.int .i64 k, .int .i64 n] 67).cell, ← hu]
  rcases (by omega : j = 0 ∨ j = 1) with rfl | rfl <;> rfl
/-- The state of some: the argument's block, the result's block, the block of g, g's registers. -/
structure SSt (w : World) (a g : Nat) (fc zc : Array Value) (G : Fh) (A : Option Addr) (n c : Nat) (bs : List Br) (wr : World) : Prop where
  k : Keep Non w wr
  b : Blk wr a fc 50
  z : Blk wr (a + 1) zc 50
  gg : Blk wr g (fhL G (.slice A n c)) 50
  own : wr.ownsRow (g + 1) 67 2 (.slice A n c) bs.length (bs.flatMap encB)
  len : bs.length = n
  lt : w.heap.size ≤ a ∧ a + 1 < g
section
variable {w : World} {a g : Nat} {fc zc : Array Value} {G : Fh} {A : Option Addr} {n c : Nat} {bs : List Br} {wr w1 : World}
theorem SSt.keep (h : SSt w a g fc zc G A n c bs wr) (k : Keep Non wr w1) : SSt w a g fc zc G A n c bs w1 :=
  ⟨h.k.tr k, h.b.keep k (fun h => h), h.z.keep k (fun h => h), h.gg.keep k (fun h => h), own_keep h.own k, h.len, h.lt⟩
theorem SSt.drew (h : SSt w a g fc zc G A n c bs wr) : SSt w a g fc zc G A n c bs wr.drew := h.keep (Keep.drew (Keep.refl _ _))
theorem SSt.alloc (h : SSt w a g fc zc G A n c bs wr) (o : Obj) : SSt w a g fc zc G A n c bs (wr.alloc o) := h.keep ((Keep.refl _ _).alloc o)
theorem set11_eq (F F' : Fh) (V V' : Value) : ((((((((((((fhL F V).setIfInBounds 0 (.int .i64 F'.parent)).setIfInBounds 1 (.int .i64 F'.slot)).setIfInBounds 2 (.int .i64 F'.vendor)).setIfInBounds 3 (.int .i64 F'.device)).setIfInBounds 4 (.bool F'.bridge)).setIfInBounds 5 (.bool F'.pref)).setIfInBounds 6 (.bool F'.hot)).setIfInBounds 7 (.int .i64 F'.spare)).setIfInBounds 8 (.int .i64 F'.pin)).setIfInBounds 9 (.int .i64 F'.vectors)).setIfInBounds 10 V') = fhL F' V' := by simp [fhL]
theorem blk11 {w : World} {q : Nat} {F : Fh} {V : Value} (h : Blk w q (fhL F V) 50) (F' : Fh) (V' : Value) : Blk (((((((((((w.setCell ⟨q, 0, none⟩ (.int .i64 F'.parent)).setCell ⟨q, 1, none⟩ (.int .i64 F'.slot)).setCell ⟨q, 2, none⟩ (.int .i64 F'.vendor)).setCell ⟨q, 3, none⟩ (.int .i64 F'.device)).setCell ⟨q, 4, none⟩ (.bool F'.bridge)).setCell ⟨q, 5, none⟩ (.bool F'.pref)).setCell ⟨q, 6, none⟩ (.bool F'.hot)).setCell ⟨q, 7, none⟩ (.int .i64 F'.spare)).setCell ⟨q, 8, none⟩ (.int .i64 F'.pin)).setCell ⟨q, 9, none⟩ (.int .i64 F'.vectors)).setCell ⟨q, 10, none⟩ V') q (fhL F' V') 50 := by
  rw [← set11_eq F F' V V']
  exact ((((((((((h.set 0 _).set 1 _).set 2 _).set 3 _).set 4 _).set 5 _).set 6 _).set 7 _).set 8 _).set 9 _).set 10 _
theorem keep11 (q : Nat) (w : World) (x0 x1 x2 x3 x4 x5 x6 x7 x8 x9 x10 : Value) : Keep (My.One q) w (((((((((((w.setCell ⟨q, 0, none⟩ x0).setCell ⟨q, 1, none⟩ x1).setCell ⟨q, 2, none⟩ x2).setCell ⟨q, 3, none⟩ x3).setCell ⟨q, 4, none⟩ x4).setCell ⟨q, 5, none⟩ x5).setCell ⟨q, 6, none⟩ x6).setCell ⟨q, 7, none⟩ x7).setCell ⟨q, 8, none⟩ x8).setCell ⟨q, 9, none⟩ x9).setCell ⟨q, 10, none⟩ x10) :=
  (((((((((((Keep.refl (My.One q) w).setOne 0 x0).setOne 1 x1).setOne 2 x2).setOne 3 x3).setOne 4 x4).setOne 5 x5).setOne 6 x6).setOne 7 x7).setOne 8 x8).setOne 9 x9).setOne 10 x10
theorem SSt.stored (h : SSt w a g fc zc G A n c bs wr) (x0 x1 x2 x3 x4 x5 x6 x7 x8 x9 x10 : Value) : Keep Non w (((((((((((wr.setCell ⟨a + 1, 0, none⟩ x0).setCell ⟨a + 1, 1, none⟩ x1).setCell ⟨a + 1, 2, none⟩ x2).setCell ⟨a + 1, 3, none⟩ x3).setCell ⟨a + 1, 4, none⟩ x4).setCell ⟨a + 1, 5, none⟩ x5).setCell ⟨a + 1, 6, none⟩ x6).setCell ⟨a + 1, 7, none⟩ x7).setCell ⟨a + 1, 8, none⟩ x8).setCell ⟨a + 1, 9, none⟩ x9).setCell ⟨a + 1, 10, none⟩ x10) :=
  h.k.trans (keep11 _ _ _ _ _ _ _ _ _ _ _ _ _) (fun q hq e => by have := h.lt; simp only [My.One] at e; omega)
theorem SSt.stored_row (h : SSt w a g fc zc G A n c bs wr) (x0 x1 x2 x3 x4 x5 x6 x7 x8 x9 x10 : Value) : RowE encB 2 (fun k => w.heap.size ≤ k) (((((((((((wr.setCell ⟨a + 1, 0, none⟩ x0).setCell ⟨a + 1, 1, none⟩ x1).setCell ⟨a + 1, 2, none⟩ x2).setCell ⟨a + 1, 3, none⟩ x3).setCell ⟨a + 1, 4, none⟩ x4).setCell ⟨a + 1, 5, none⟩ x5).setCell ⟨a + 1, 6, none⟩ x6).setCell ⟨a + 1, 7, none⟩ x7).setCell ⟨a + 1, 8, none⟩ x8).setCell ⟨a + 1, 9, none⟩ x9).setCell ⟨a + 1, 10, none⟩ x10) (.slice A n c) bs :=
  ((RowE.of_own encB_len (by omega) h.own).keep (keep11 _ _ _ _ _ _ _ _ _ _ _ _ _) (fun q hq _ e => by have := h.lt; simp only [My.One] at e; omega)).mono (fun q _ hq => by have := h.lt; omega)
/-- A register is appended and the slice stored. -/
theorem SSt.app (h : SSt w a g fc zc G A n c bs wr) {v' : Value} {x : Br} (hown : w1.ownsRow (g + 1) 67 2 v' (bs.length + 1) (bs.flatMap encB ++ encB x)) (hg : wr.grownBy w1 (Value.slice A n c).ownBlock) :
    ∃ A' n' c', v' = .slice A' n' c' ∧ Blk w1 g (fhL G (.slice A n c)) 50 ∧ SSt w a g fc zc G A' n' c' (bs ++ [x]) (w1.setCell ⟨g, 10, none⟩ v') := by
  have hfar : ∀ k, (Value.slice A n c).ownBlock = some k → g + 1 ≤ k := fun k hk => (h.own.lt k hk).1
  have K1 : Keep (fun k => g + 1 ≤ k) wr w1 := Keep.grown (Keep.refl _ _) hg (fun k hk _ => hfar k hk)
  have hlen : v' = .slice none 0 0 ∨ ∃ A' c', v' = .slice A' (bs.length + 1) c' := by
    rcases hown.2 with ⟨h1, h2⟩ | ⟨g1, cp, _, h1, _⟩
    · omega
    · exact .inr ⟨_, _, h1⟩
  have hv : ∃ A' c', v' = .slice A' (bs.length + 1) c' := by
    rcases hown.2 with ⟨h1, h2⟩ | ⟨g1, cp, _, h1, _⟩
    · omega
    · exact ⟨_, _, h1⟩
  obtain ⟨A', c', rfl⟩ := hv
  have hG1 := h.gg.keep K1 (by omega)
  have hl := h.lt
  have hgl := h.gg.lt
  have hw0 := h.k.size
  refine ⟨A', bs.length + 1, c', rfl, hG1, ?_, ?_, ?_, ?_, ?_, by simp, hl⟩
  · refine Keep.set (Keep.trans h.k K1 (fun q hq hs => by have := h.b.lt; omega)) (fun hq => ?_) _
    show False
    have : g < w.heap.size := hq
    omega
  · exact (h.b.keep K1 (by omega)).far (p := ⟨g, 10, none⟩) (by show a ≠ g; omega) _
  · exact (h.z.keep K1 (by omega)).far (p := ⟨g, 10, none⟩) (by show a + 1 ≠ g; omega) _
  · exact hG1.set' (i := 10) rfl
  · have h1 : (bs ++ [x]).length = bs.length + 1 := by simp
    have h2 : (bs ++ [x]).flatMap encB = bs.flatMap encB ++ encB x := by simp [List.flatMap_append]
    rw [h1, h2]
    refine ⟨hown.1, hown.2.imp id ?_⟩
    rintro ⟨g1, cap, cur, e1, e2, e3, e4⟩
    exact ⟨g1, cap, cur, e1, e2, (Below.heap_setCell _ ⟨g, 10, none⟩ _ g1 (by show g1 ≠ g; omega)).trans e3, e4⟩
end

set_option maxHeartbeats 16000000 in
set_option maxRecDepth 100000 in
theorem some_any (f : Fh) (v : Value) (bs : List Br) (O : Nat → Prop) (w : World) (h : Bars O w v bs) :
    Calls Tryd.prog 25 #[.agg (fhL f v)] w fun e w' => ∃ (f' : Fh) (v' : Value) (bs' : List Br), e = .returned (.agg (fhL f' v')) ∧ Keep Non w w' ∧ RowE encB 2 (fun k => O k ∨ w.heap.size ≤ k) w' v' bs' := by
  have hh := h
  obtain ⟨A, c, rfl, hl, hm, h0⟩ := h
  have HX : Hid (Bars O w (.slice A bs.length c) bs) := hh
  clear h0 hh
  unfold maxLen at hm
  obtain ⟨f0, f1, f2, f3, f4, f5, f6, f7, f8, f9⟩ := f
  unfold fhL
  obtain ⟨i0, hi0, hz0, hz1, hz2⟩ := info_parts info61
  have HMOD : Hid (∀ a n w, 0 < n → n < 9223372036854775808 → Calls Tryd.prog 9 #[.int .i64 a, .int .i64 n] w fun e w' => e = .returned (.int .i64 (md a n)) ∧ w = w') := fun a n w h0 h1 => mod_any a n w h0 h1
  have HB0 : Hid (Blk ((w.alloc (.cells #[Value.int IntKind.i64 f0, Value.int IntKind.i64 f1, Value.int IntKind.i64 f2, Value.int IntKind.i64 f3, Value.bool f4, Value.bool f5, Value.bool f6, Value.int IntKind.i64 f7, Value.int IntKind.i64 f8, Value.int IntKind.i64 f9, .slice A bs.length c] 50)).alloc (.cells #[Value.int IntKind.i64 0, Value.int IntKind.i64 0, Value.int IntKind.i64 0, Value.int IntKind.i64 0, Value.bool false, Value.bool false, Value.bool false, Value.int IntKind.i64 0, Value.int IntKind.i64 0, Value.int IntKind.i64 0, Value.slice none 0 0] 50)) w.heap.size #[Value.int IntKind.i64 f0, Value.int IntKind.i64 f1, Value.int IntKind.i64 f2, Value.int IntKind.i64 f3, Value.bool f4, Value.bool f5, Value.bool f6, Value.int IntKind.i64 f7, Value.int IntKind.i64 f8, Value.int IntKind.i64 f9, .slice A bs.length c] 50) := (Blk.new _ _ _).alloc _
  have HK0 : Hid (Keep Non w ((w.alloc (.cells #[Value.int IntKind.i64 f0, Value.int IntKind.i64 f1, Value.int IntKind.i64 f2, Value.int IntKind.i64 f3, Value.bool f4, Value.bool f5, Value.bool f6, Value.int IntKind.i64 f7, Value.int IntKind.i64 f8, Value.int IntKind.i64 f9, .slice A bs.length c] 50)).alloc (.cells #[Value.int IntKind.i64 0, Value.int IntKind.i64 0, Value.int IntKind.i64 0, Value.int IntKind.i64 0, Value.bool false, Value.bool false, Value.bool false, Value.int IntKind.i64 0, Value.int IntKind.i64 0, Value.int IntKind.i64 0, Value.slice none 0 0] 50))) := ((Keep.refl _ _).alloc _).alloc _
  have HZ0 : Hid (Blk ((w.alloc (.cells #[Value.int IntKind.i64 f0, Value.int IntKind.i64 f1, Value.int IntKind.i64 f2, Value.int IntKind.i64 f3, Value.bool f4, Value.bool f5, Value.bool f6, Value.int IntKind.i64 f7, Value.int IntKind.i64 f8, Value.int IntKind.i64 f9, .slice A bs.length c] 50)).alloc (.cells #[Value.int IntKind.i64 0, Value.int IntKind.i64 0, Value.int IntKind.i64 0, Value.int IntKind.i64 0, Value.bool false, Value.bool false, Value.bool false, Value.int IntKind.i64 0, Value.int IntKind.i64 0, Value.int IntKind.i64 0, Value.slice none 0 0] 50)) (w.heap.size + 1) #[Value.int IntKind.i64 0, Value.int IntKind.i64 0, Value.int IntKind.i64 0, Value.int IntKind.i64 0, Value.bool false, Value.bool false, Value.bool false, Value.int IntKind.i64 0, Value.int IntKind.i64 0, Value.int IntKind.i64 0, Value.slice none 0 0] 50) := Blk.new' (by simp)
  go_enter Tryd.func25, Tryd.ntmps25
  go_wp2_with fail
  refine (HMOD.out _ _ _ (by omega) (by omega)).mono ?_
  rintro e w' ⟨rfl, rfl⟩
  have hm := md_range f1 9 (by omega)
  generalize md f1 9 = m at *
  by_cases h8 : m = 8
  · subst h8
    go_wp2
    exact bodyPost_ret (v := .agg #[Value.int IntKind.i64 f0, Value.int IntKind.i64 f1, Value.int IntKind.i64 f2, Value.int IntKind.i64 f3, Value.bool f4, Value.bool f5, Value.bool f6, Value.int IntKind.i64 f7, Value.int IntKind.i64 f8, Value.int IntKind.i64 f9, .slice A bs.length c]) (by simp [results, Tryd.results25, go_sem]; done) rfl ⟨⟨f0, f1, f2, f3, f4, f5, f6, f7, f8, f9⟩, .slice A bs.length c, bs, rfl, ((Keep.refl _ _).alloc _).alloc _, RowE.mono (RowE.keepN (show RowE encB 2 O w (.slice A bs.length c) bs from HX.out) (((Keep.refl Non _).alloc _).alloc _)) (fun _ _ h => .inl h)⟩
  · have h8' : (m == 8) = false := by simpa using h8
    go_upto_region 3 with fail
    have hm9 := md_range f9 5 (by omega)
    have hw : IntKind.i64.wrap (1 + md f2 65534) = 1 + md f2 65534 := by have := md_range f2 65534 (by omega); exact IntWalk.i64_in _ (by omega)
    have HW := Lib.hid hw
    clear hw
    generalize hq : md f9 5 = q at *
    have HQ := Lib.hid hq
    clear hq hm h8
    have c1 := blk_c HB0.out 1 _ rfl
    have c2 := blk_c HB0.out 2 _ rfl
    have c3 := blk_c HB0.out 3 _ rfl
    have c4 := blk_c HB0.out 4 _ rfl
    have c8 := blk_c HB0.out 8 _ rfl
    have c9 := blk_c HB0.out 9 _ rfl
    have HM9 : Hid (∀ w, Calls Tryd.prog 9 #[.int .i64 f9, .int .i64 5] w fun e w' => e = .returned (.int .i64 q) ∧ w = w') := fun w => by have := HMOD.out f9 5 w (by omega) (by omega); rw [HQ.out] at this; exact this
    generalize (w.alloc (.cells #[Value.int IntKind.i64 f0, Value.int IntKind.i64 f1, Value.int IntKind.i64 f2, Value.int IntKind.i64 f3, Value.bool f4, Value.bool f5, Value.bool f6, Value.int IntKind.i64 f7, Value.int IntKind.i64 f8, Value.int IntKind.i64 f9, .slice A bs.length c] 50)).alloc (.cells #[Value.int IntKind.i64 0, Value.int IntKind.i64 0, Value.int IntKind.i64 0, Value.int IntKind.i64 0, Value.bool false, Value.bool false, Value.bool false, Value.int IntKind.i64 0, Value.int IntKind.i64 0, Value.int IntKind.i64 0, Value.slice none 0 0] 50) = W at *
    have hlt := HZ0.out.lt
    generalize ha : w.heap.size = a at *
    have HA := Lib.hid ha
    clear ha
    have hw := HW.out
    go_cut [3] (fun s wx => ∃ (g : Nat) (p1 p2 p3 p8 p9 : Int), s = .pointer (some ⟨g, 0, none⟩) ∧ a + 1 < g ∧ Hid (Blk wx (a + 1) #[Value.int IntKind.i64 0, Value.int IntKind.i64 0, Value.int IntKind.i64 0, Value.int IntKind.i64 0, Value.bool false, Value.bool false, Value.bool false, Value.int IntKind.i64 0, Value.int IntKind.i64 0, Value.int IntKind.i64 0, Value.slice none 0 0] 50) ∧ Hid (Keep Non w wx) ∧ Hid (Blk wx a #[Value.int IntKind.i64 f0, Value.int IntKind.i64 f1, Value.int IntKind.i64 f2, Value.int IntKind.i64 f3, Value.bool f4, Value.bool f5, Value.bool f6, Value.int IntKind.i64 f7, Value.int IntKind.i64 f8, Value.int IntKind.i64 f9, .slice A bs.length c] 50) ∧ Hid (Blk wx g #[.int .i64 0, .int .i64 p1, .int .i64 p2, .int .i64 p3, .bool f4, .bool false, .bool false, .int .i64 0, .int .i64 p8, .int .i64 p9, .slice none 0 0] 50))
    case first =>
      refine wp_region_held_drew (S := (fun w' : World => w'.cell? ⟨a, 1, none⟩ = some (.int .i64 f1) ∧ w'.cell? ⟨a, 2, none⟩ = some (.int .i64 f2) ∧ w'.cell? ⟨a, 3, none⟩ = some (.int .i64 f3) ∧ w'.cell? ⟨a, 4, none⟩ = some (.bool f4) ∧ w'.cell? ⟨a, 8, none⟩ = some (.int .i64 f8) ∧ w'.cell? ⟨a, 9, none⟩ = some (.int .i64 f9))) (by kernel_rfl) ?_ (fun hHeld => ?_)
      · ((try dsimp only); (refine ⟨?_, ?_, ?_, ?_, ?_, ?_⟩ <;> go_keep))
      refine take_first (i := 0) (oi := { dst := some 12, op := Go.Op.fieldAddr 50 (Go.Operand.tmp 1) 1, type := 0, pos := "law.go:27", after := #[], guard := none }) (v := ?_) rfl (by kernel_rfl) (by kernel_rfl) (by kernel_rfl) (fun _ _ _ h => h) ⟨by rfl, fun w hSw => .inl ?_⟩ (by assumption) ?_
      rotate_left
      · ((try dsimp only at hSw); go_simp; (try with_reducible rfl))
      try simp only [Act.put, List.setIfInBounds_toArray, List.set_cons_zero, List.set_cons_succ]
      refine take_first (i := 1) (oi := { dst := some 13, op := Go.Op.load 3 (Go.Operand.tmp 12), type := 3, pos := "law.go:27", after := #[{ on := 0, ground := Go.Ground.data }], guard := none }) (v := ?_) rfl (by kernel_rfl) (by kernel_rfl) (by kernel_rfl) (fun _ _ _ h => h) ⟨by rfl, fun w hSw => .inl ?_⟩ (by assumption) ?_
      rotate_left
      · ((try dsimp only at hSw); go_simp; (try with_reducible rfl))
      try simp only [Act.put, List.setIfInBounds_toArray, List.set_cons_zero, List.set_cons_succ]
      refine take_first (i := 2) (oi := { dst := some 14, op := Go.Op.call { callee := Go.Callee.value (Go.Operand.func 9), args := #[Go.Operand.tmp 13, Go.Operand.const (Go.Value.int Go.IntKind.i64 32)], argTypes := #[3, 3] }, type := 3, pos := "law.go:27", after := #[{ on := 1, ground := Go.Ground.data }], guard := none }) (v := (.int .i64 (md f1 32))) rfl (by kernel_rfl) (by kernel_rfl) (by kernel_rfl) (fun _ _ _ h => h) ⟨by rfl, fun w hSw => .inr ⟨9, #[.int .i64 f1, .int .i64 32], ?_, HMOD.out f1 32 w (by decide) (by decide)⟩⟩ (by assumption) ?_
      · first | rfl | go_simp | (go_simp; rfl)
      try simp only [Act.put, List.setIfInBounds_toArray, List.set_cons_zero, List.set_cons_succ]
      refine take_first (i := 3) (oi := { dst := some 15, op := Go.Op.fieldAddr 50 (Go.Operand.tmp 1) 2, type := 0, pos := "law.go:27", after := #[], guard := none }) (v := ?_) rfl (by kernel_rfl) (by kernel_rfl) (by kernel_rfl) (fun _ _ _ h => h) ⟨by rfl, fun w hSw => .inl ?_⟩ (by assumption) ?_
      rotate_left
      · ((try dsimp only at hSw); go_simp; (try with_reducible rfl))
      try simp only [Act.put, List.setIfInBounds_toArray, List.set_cons_zero, List.set_cons_succ]
      refine take_first (i := 4) (oi := { dst := some 16, op := Go.Op.load 3 (Go.Operand.tmp 15), type := 3, pos := "law.go:27", after := #[{ on := 3, ground := Go.Ground.data }], guard := none }) (v := ?_) rfl (by kernel_rfl) (by kernel_rfl) (by kernel_rfl) (fun _ _ _ h => h) ⟨by rfl, fun w hSw => .inl ?_⟩ (by assumption) ?_
      rotate_left
      · ((try dsimp only at hSw); go_simp; (try with_reducible rfl))
      try simp only [Act.put, List.setIfInBounds_toArray, List.set_cons_zero, List.set_cons_succ]
      refine take_first (i := 5) (oi := { dst := some 17, op := Go.Op.call { callee := Go.Callee.value (Go.Operand.func 9), args := #[Go.Operand.tmp 16, Go.Operand.const (Go.Value.int Go.IntKind.i64 65534)], argTypes := #[3, 3] }, type := 3, pos := "law.go:27", after := #[{ on := 4, ground := Go.Ground.data }, { on := 2, ground := Go.Ground.chain }], guard := none }) (v := (.int .i64 (md f2 65534))) rfl (by kernel_rfl) (by kernel_rfl) (by kernel_rfl) (fun _ _ _ h => h) ⟨by rfl, fun w hSw => .inr ⟨9, #[.int .i64 f2, .int .i64 65534], ?_, HMOD.out f2 65534 w (by decide) (by decide)⟩⟩ (by assumption) ?_
      · first | rfl | go_simp | (go_simp; rfl)
      try simp only [Act.put, List.setIfInBounds_toArray, List.set_cons_zero, List.set_cons_succ]
      refine take_first (i := 6) (oi := { dst := some 18, op := Go.Op.binOp Go.BinOp.add 3 (Go.Operand.const (Go.Value.int Go.IntKind.i64 1)) (Go.Operand.tmp 17) 3, type := 3, pos := "law.go:27", after := #[{ on := 5, ground := Go.Ground.data }], guard := none }) (v := ?_) rfl (by kernel_rfl) (by kernel_rfl) (by kernel_rfl) (fun _ _ _ h => h) ⟨by rfl, fun w hSw => .inl ?_⟩ (by assumption) ?_
      rotate_left
      · ((try dsimp only at hSw); go_simp; (try with_reducible rfl))
      try simp only [Act.put, List.setIfInBounds_toArray, List.set_cons_zero, List.set_cons_succ]
      refine take_first (i := 7) (oi := { dst := some 19, op := Go.Op.fieldAddr 50 (Go.Operand.tmp 1) 3, type := 0, pos := "law.go:27", after := #[], guard := none }) (v := ?_) rfl (by kernel_rfl) (by kernel_rfl) (by kernel_rfl) (fun _ _ _ h => h) ⟨by rfl, fun w hSw => .inl ?_⟩ (by assumption) ?_
      rotate_left
      · ((try dsimp only at hSw); go_simp; (try with_reducible rfl))
      try simp only [Act.put, List.setIfInBounds_toArray, List.set_cons_zero, List.set_cons_succ]
      refine take_first (i := 8) (oi := { dst := some 20, op := Go.Op.load 3 (Go.Operand.tmp 19), type := 3, pos := "law.go:27", after := #[{ on := 7, ground := Go.Ground.data }], guard := none }) (v := ?_) rfl (by kernel_rfl) (by kernel_rfl) (by kernel_rfl) (fun _ _ _ h => h) ⟨by rfl, fun w hSw => .inl ?_⟩ (by assumption) ?_
      rotate_left
      · ((try dsimp only at hSw); go_simp; (try with_reducible rfl))
      try simp only [Act.put, List.setIfInBounds_toArray, List.set_cons_zero, List.set_cons_succ]
      refine take_first (i := 9) (oi := { dst := some 21, op := Go.Op.call { callee := Go.Callee.value (Go.Operand.func 9), args := #[Go.Operand.tmp 20, Go.Operand.const (Go.Value.int Go.IntKind.i64 65536)], argTypes := #[3, 3] }, type := 3, pos := "law.go:27", after := #[{ on := 8, ground := Go.Ground.data }, { on := 5, ground := Go.Ground.chain }], guard := none }) (v := (.int .i64 (md f3 65536))) rfl (by kernel_rfl) (by kernel_rfl) (by kernel_rfl) (fun _ _ _ h => h) ⟨by rfl, fun w hSw => .inr ⟨9, #[.int .i64 f3, .int .i64 65536], ?_, HMOD.out f3 65536 w (by decide) (by decide)⟩⟩ (by assumption) ?_
      · first | rfl | go_simp | (go_simp; rfl)
      try simp only [Act.put, List.setIfInBounds_toArray, List.set_cons_zero, List.set_cons_succ]
      refine take_first (i := 10) (oi := { dst := some 22, op := Go.Op.fieldAddr 50 (Go.Operand.tmp 1) 4, type := 0, pos := "law.go:27", after := #[], guard := none }) (v := ?_) rfl (by kernel_rfl) (by kernel_rfl) (by kernel_rfl) (fun _ _ _ h => h) ⟨by rfl, fun w hSw => .inl ?_⟩ (by assumption) ?_
      rotate_left
      · ((try dsimp only at hSw); go_simp; (try with_reducible rfl))
      try simp only [Act.put, List.setIfInBounds_toArray, List.set_cons_zero, List.set_cons_succ]
      refine take_first (i := 11) (oi := { dst := some 23, op := Go.Op.load 4 (Go.Operand.tmp 22), type := 4, pos := "law.go:27", after := #[{ on := 10, ground := Go.Ground.data }], guard := none }) (v := ?_) rfl (by kernel_rfl) (by kernel_rfl) (by kernel_rfl) (fun _ _ _ h => h) ⟨by rfl, fun w hSw => .inl ?_⟩ (by assumption) ?_
      rotate_left
      · ((try dsimp only at hSw); go_simp; (try with_reducible rfl))
      try simp only [Act.put, List.setIfInBounds_toArray, List.set_cons_zero, List.set_cons_succ]
      refine take_first (i := 12) (oi := { dst := some 24, op := Go.Op.fieldAddr 50 (Go.Operand.tmp 1) 8, type := 0, pos := "law.go:27", after := #[], guard := none }) (v := ?_) rfl (by kernel_rfl) (by kernel_rfl) (by kernel_rfl) (fun _ _ _ h => h) ⟨by rfl, fun w hSw => .inl ?_⟩ (by assumption) ?_
      rotate_left
      · ((try dsimp only at hSw); go_simp; (try with_reducible rfl))
      try simp only [Act.put, List.setIfInBounds_toArray, List.set_cons_zero, List.set_cons_succ]
      refine take_first (i := 13) (oi := { dst := some 25, op := Go.Op.load 3 (Go.Operand.tmp 24), type := 3, pos := "law.go:27", after := #[{ on := 12, ground := Go.Ground.data }], guard := none }) (v := ?_) rfl (by kernel_rfl) (by kernel_rfl) (by kernel_rfl) (fun _ _ _ h => h) ⟨by rfl, fun w hSw => .inl ?_⟩ (by assumption) ?_
      rotate_left
      · ((try dsimp only at hSw); go_simp; (try with_reducible rfl))
      try simp only [Act.put, List.setIfInBounds_toArray, List.set_cons_zero, List.set_cons_succ]
      refine take_first (i := 14) (oi := { dst := some 26, op := Go.Op.call { callee := Go.Callee.value (Go.Operand.func 9), args := #[Go.Operand.tmp 25, Go.Operand.const (Go.Value.int Go.IntKind.i64 5)], argTypes := #[3, 3] }, type := 3, pos := "law.go:27", after := #[{ on := 13, ground := Go.Ground.data }, { on := 9, ground := Go.Ground.chain }], guard := none }) (v := (.int .i64 (md f8 5))) rfl (by kernel_rfl) (by kernel_rfl) (by kernel_rfl) (fun _ _ _ h => h) ⟨by rfl, fun w hSw => .inr ⟨9, #[.int .i64 f8, .int .i64 5], ?_, HMOD.out f8 5 w (by decide) (by decide)⟩⟩ (by assumption) ?_
      · first | rfl | go_simp | (go_simp; rfl)
      try simp only [Act.put, List.setIfInBounds_toArray, List.set_cons_zero, List.set_cons_succ]
      refine take_first (i := 16) (oi := { dst := some 28, op := Go.Op.fieldAddr 50 (Go.Operand.tmp 1) 9, type := 0, pos := "law.go:27", after := #[], guard := none }) (v := ?_) rfl (by kernel_rfl) (by kernel_rfl) (by kernel_rfl) (fun _ _ _ h => h) ⟨by rfl, fun w hSw => .inl ?_⟩ (by assumption) ?_
      rotate_left
      · ((try dsimp only at hSw); go_simp; (try with_reducible rfl))
      try simp only [Act.put, List.setIfInBounds_toArray, List.set_cons_zero, List.set_cons_succ]
      refine take_first (i := 17) (oi := { dst := some 29, op := Go.Op.load 3 (Go.Operand.tmp 28), type := 3, pos := "law.go:27", after := #[{ on := 16, ground := Go.Ground.data }], guard := none }) (v := ?_) rfl (by kernel_rfl) (by kernel_rfl) (by kernel_rfl) (fun _ _ _ h => h) ⟨by rfl, fun w hSw => .inl ?_⟩ (by assumption) ?_
      rotate_left
      · ((try dsimp only at hSw); go_simp; (try with_reducible rfl))
      try simp only [Act.put, List.setIfInBounds_toArray, List.set_cons_zero, List.set_cons_succ]
      rcases (by omega : q = 0 ∨ q = 1 ∨ q = 2 ∨ q = 3 ∨ q = 4) with rfl | rfl | rfl | rfl | rfl
      · refine take_first (i := 18) (oi := { dst := some 30, op := Go.Op.call { callee := Go.Callee.value (Go.Operand.func 9), args := #[Go.Operand.tmp 29, Go.Operand.const (Go.Value.int Go.IntKind.i64 5)], argTypes := #[3, 3] }, type := 3, pos := "law.go:27", after := #[{ on := 17, ground := Go.Ground.data }, { on := 14, ground := Go.Ground.chain }], guard := none }) (v := (.int .i64 0)) rfl (by kernel_rfl) (by kernel_rfl) (by kernel_rfl) (fun _ _ _ h => h) ⟨by rfl, fun w hSw => .inr ⟨9, #[.int .i64 f9, .int .i64 5], ?_, HM9.out w⟩⟩ (by assumption) ?_
        · first | rfl | go_simp | (go_simp; rfl)
        try simp only [Act.put, List.setIfInBounds_toArray, List.set_cons_zero, List.set_cons_succ]
        refine wpAnyH_ready (rs := [15, 22]) (by kernel_rfl) (by simp) (AllReadyH.cons (o := { dst := some 27, op := Go.Op.buildSlice 82 5 #[(0, Go.Operand.const (Go.Value.int Go.IntKind.i64 0)), (1, Go.Operand.const (Go.Value.int Go.IntKind.i64 1)), (2, Go.Operand.const (Go.Value.int Go.IntKind.i64 2)), (3, Go.Operand.const (Go.Value.int Go.IntKind.i64 4)), (4, Go.Operand.const (Go.Value.int Go.IntKind.i64 32))], type := 82, pos := "law.go:27", after := #[], guard := none }) rfl (fun K hK => ?_) (AllReadyH.cons (o := { dst := some 3, op := Go.Op.alloc 50, type := 0, pos := "law.go:27", after := #[], guard := none }) rfl (fun K hK => ?_) AllReadyH.nil))
        · go_simp
          refine hK.out _ _ ?_ (fun hHeld => ?_)
          · ((try dsimp only); (refine ⟨?_, ?_, ?_, ?_, ?_, ?_⟩ <;> go_keep))
          clear hK K
          try simp only [Act.put, List.setIfInBounds_toArray, List.set_cons_zero, List.set_cons_succ]
          refine take_first (i := 19) (oi := { dst := some 31, op := Go.Op.indexAddr 82 (Go.Operand.tmp 27) (Go.Operand.tmp 30), type := 0, pos := "law.go:27", after := #[{ on := 15, ground := Go.Ground.data }, { on := 18, ground := Go.Ground.data }], guard := none }) (v := ?_) rfl (by kernel_rfl) (by kernel_rfl) (by kernel_rfl) (fun _ _ _ h => h) ⟨by rfl, fun w hSw => .inl ?_⟩ (by assumption) ?_
          rotate_left
          · ((try dsimp only at hSw); go_simp; (try with_reducible rfl))
          try simp only [Act.put, List.setIfInBounds_toArray, List.set_cons_zero, List.set_cons_succ]
          refine wpAnyH_ready (rs := [20, 22]) (by kernel_rfl) (by simp) (AllReadyH.cons (o := { dst := some 32, op := Go.Op.load 3 (Go.Operand.tmp 31), type := 3, pos := "law.go:27", after := #[{ on := 19, ground := Go.Ground.data }], guard := none }) rfl (fun K hK => ?_) (AllReadyH.cons (o := { dst := some 3, op := Go.Op.alloc 50, type := 0, pos := "law.go:27", after := #[], guard := none }) rfl (fun K hK => ?_) AllReadyH.nil))
          · go_simp
            refine hK.out _ _ ?_ (fun hHeld => ?_)
            · ((try dsimp only); (refine ⟨?_, ?_, ?_, ?_, ?_, ?_⟩ <;> go_keep))
            clear hK K
            try simp only [Act.put, List.setIfInBounds_toArray, List.set_cons_zero, List.set_cons_succ]
            refine take_first (i := 21) (oi := { dst := some 33, op := Go.Op.build 50 #[(1, Go.Operand.tmp 14), (2, Go.Operand.tmp 18), (3, Go.Operand.tmp 21), (4, Go.Operand.tmp 23), (8, Go.Operand.tmp 26), (9, Go.Operand.tmp 32)], type := 50, pos := "law.go:27", after := #[{ on := 2, ground := Go.Ground.data }, { on := 6, ground := Go.Ground.data }, { on := 9, ground := Go.Ground.data }, { on := 11, ground := Go.Ground.data }, { on := 14, ground := Go.Ground.data }, { on := 20, ground := Go.Ground.data }], guard := none }) (v := ?_) rfl (by kernel_rfl) (by kernel_rfl) (by kernel_rfl) (fun _ _ _ h => h) ⟨by rfl, fun w hSw => .inl ?_⟩ (by assumption) ?_
            rotate_left
            · ((try dsimp only at hSw); go_simp; (try with_reducible rfl))
            try simp only [Act.put, List.setIfInBounds_toArray, List.set_cons_zero, List.set_cons_succ]
            refine wpAnyH_ready (rs := [22]) (by kernel_rfl) (by simp) (AllReadyH.cons (o := { dst := some 3, op := Go.Op.alloc 50, type := 0, pos := "law.go:27", after := #[], guard := none }) rfl (fun K hK => ?_) AllReadyH.nil)
            go_simp
            refine hK.out _ _ ?_ (fun hHeld => ?_)
            · ((try dsimp only); (refine ⟨?_, ?_, ?_, ?_, ?_, ?_⟩ <;> go_keep))
            clear hK K
            try simp only [Act.put, List.setIfInBounds_toArray, List.set_cons_zero, List.set_cons_succ]
            refine wpAnyH_ready (rs := [23]) (by kernel_rfl) (by simp) (AllReadyH.cons (o := { dst := none, op := Go.Op.store 50 (Go.Operand.tmp 3) (Go.Operand.tmp 33), type := 0, pos := "law.go:27", after := #[{ on := 22, ground := Go.Ground.data }, { on := 21, ground := Go.Ground.data }, { on := 18, ground := Go.Ground.chain }, { on := 0, ground := Go.Ground.phase }, { on := 1, ground := Go.Ground.phase }, { on := 2, ground := Go.Ground.phase }, { on := 3, ground := Go.Ground.phase }, { on := 4, ground := Go.Ground.phase }, { on := 5, ground := Go.Ground.phase }, { on := 6, ground := Go.Ground.phase }, { on := 7, ground := Go.Ground.phase }, { on := 8, ground := Go.Ground.phase }, { on := 9, ground := Go.Ground.phase }, { on := 10, ground := Go.Ground.phase }, { on := 11, ground := Go.Ground.phase }, { on := 12, ground := Go.Ground.phase }, { on := 13, ground := Go.Ground.phase }, { on := 14, ground := Go.Ground.phase }, { on := 15, ground := Go.Ground.phase }, { on := 16, ground := Go.Ground.phase }, { on := 17, ground := Go.Ground.phase }, { on := 18, ground := Go.Ground.phase }, { on := 19, ground := Go.Ground.phase }, { on := 20, ground := Go.Ground.phase }, { on := 21, ground := Go.Ground.phase }, { on := 22, ground := Go.Ground.phase }], guard := none }) rfl (fun K hK => ?_) AllReadyH.nil)
            go_simp
            refine hK.out _ _ ?_ (fun hHeld => ?_)
            · ((try dsimp only); (refine ⟨?_, ?_, ?_, ?_, ?_, ?_⟩ <;> go_keep))
            clear hK K
            try simp only [Act.put, List.setIfInBounds_toArray, List.set_cons_zero, List.set_cons_succ]
            refine wpAnyH_done (by kernel_rfl) ?_ _
            go_wp2_with fail
            go_meet
            first | exact ⟨W.heap.size, _, _, _, _, _, rfl, hlt, Lib.hid ((HZ0.out.alloc _).alloc _).drew, Lib.hid ((((HK0.out.alloc _).alloc _)).drew), Lib.hid ((((HB0.out.alloc _).alloc _)).drew), Lib.hid (((Blk.new _ _ _).alloc _).drew)⟩ | exact ⟨W.heap.size + 1, _, _, _, _, _, rfl, by omega, Lib.hid ((HZ0.out.alloc _).alloc _).drew, Lib.hid ((((HK0.out.alloc _).alloc _)).drew), Lib.hid ((((HB0.out.alloc _).alloc _)).drew), Lib.hid (Blk.drew (Blk.new' (by simp)))⟩
          · go_simp
            refine hK.out _ _ ?_ (fun hHeld => ?_)
            · ((try dsimp only); (refine ⟨?_, ?_, ?_, ?_, ?_, ?_⟩ <;> go_keep))
            clear hK K
            try simp only [Act.put, List.setIfInBounds_toArray, List.set_cons_zero, List.set_cons_succ]
            refine wpAnyH_ready (rs := [20]) (by kernel_rfl) (by simp) (AllReadyH.cons (o := { dst := some 32, op := Go.Op.load 3 (Go.Operand.tmp 31), type := 3, pos := "law.go:27", after := #[{ on := 19, ground := Go.Ground.data }], guard := none }) rfl (fun K hK => ?_) AllReadyH.nil)
            go_simp
            refine hK.out _ _ ?_ (fun hHeld => ?_)
            · ((try dsimp only); (refine ⟨?_, ?_, ?_, ?_, ?_, ?_⟩ <;> go_keep))
            clear hK K
            try simp only [Act.put, List.setIfInBounds_toArray, List.set_cons_zero, List.set_cons_succ]
            refine take_first (i := 21) (oi := { dst := some 33, op := Go.Op.build 50 #[(1, Go.Operand.tmp 14), (2, Go.Operand.tmp 18), (3, Go.Operand.tmp 21), (4, Go.Operand.tmp 23), (8, Go.Operand.tmp 26), (9, Go.Operand.tmp 32)], type := 50, pos := "law.go:27", after := #[{ on := 2, ground := Go.Ground.data }, { on := 6, ground := Go.Ground.data }, { on := 9, ground := Go.Ground.data }, { on := 11, ground := Go.Ground.data }, { on := 14, ground := Go.Ground.data }, { on := 20, ground := Go.Ground.data }], guard := none }) (v := ?_) rfl (by kernel_rfl) (by kernel_rfl) (by kernel_rfl) (fun _ _ _ h => h) ⟨by rfl, fun w hSw => .inl ?_⟩ (by assumption) ?_
            rotate_left
            · ((try dsimp only at hSw); go_simp; (try with_reducible rfl))
            try simp only [Act.put, List.setIfInBounds_toArray, List.set_cons_zero, List.set_cons_succ]
            refine wpAnyH_ready (rs := [23]) (by kernel_rfl) (by simp) (AllReadyH.cons (o := { dst := none, op := Go.Op.store 50 (Go.Operand.tmp 3) (Go.Operand.tmp 33), type := 0, pos := "law.go:27", after := #[{ on := 22, ground := Go.Ground.data }, { on := 21, ground := Go.Ground.data }, { on := 18, ground := Go.Ground.chain }, { on := 0, ground := Go.Ground.phase }, { on := 1, ground := Go.Ground.phase }, { on := 2, ground := Go.Ground.phase }, { on := 3, ground := Go.Ground.phase }, { on := 4, ground := Go.Ground.phase }, { on := 5, ground := Go.Ground.phase }, { on := 6, ground := Go.Ground.phase }, { on := 7, ground := Go.Ground.phase }, { on := 8, ground := Go.Ground.phase }, { on := 9, ground := Go.Ground.phase }, { on := 10, ground := Go.Ground.phase }, { on := 11, ground := Go.Ground.phase }, { on := 12, ground := Go.Ground.phase }, { on := 13, ground := Go.Ground.phase }, { on := 14, ground := Go.Ground.phase }, { on := 15, ground := Go.Ground.phase }, { on := 16, ground := Go.Ground.phase }, { on := 17, ground := Go.Ground.phase }, { on := 18, ground := Go.Ground.phase }, { on := 19, ground := Go.Ground.phase }, { on := 20, ground := Go.Ground.phase }, { on := 21, ground := Go.Ground.phase }, { on := 22, ground := Go.Ground.phase }], guard := none }) rfl (fun K hK => ?_) AllReadyH.nil)
            go_simp
            refine hK.out _ _ ?_ (fun hHeld => ?_)
            · ((try dsimp only); (refine ⟨?_, ?_, ?_, ?_, ?_, ?_⟩ <;> go_keep))
            clear hK K
            try simp only [Act.put, List.setIfInBounds_toArray, List.set_cons_zero, List.set_cons_succ]
            refine wpAnyH_done (by kernel_rfl) ?_ _
            go_wp2_with fail
            go_meet
            first | exact ⟨W.heap.size, _, _, _, _, _, rfl, hlt, Lib.hid ((HZ0.out.alloc _).alloc _).drew, Lib.hid ((((HK0.out.alloc _).alloc _)).drew), Lib.hid ((((HB0.out.alloc _).alloc _)).drew), Lib.hid (((Blk.new _ _ _).alloc _).drew)⟩ | exact ⟨W.heap.size + 1, _, _, _, _, _, rfl, by omega, Lib.hid ((HZ0.out.alloc _).alloc _).drew, Lib.hid ((((HK0.out.alloc _).alloc _)).drew), Lib.hid ((((HB0.out.alloc _).alloc _)).drew), Lib.hid (Blk.drew (Blk.new' (by simp)))⟩
        · go_simp
          refine hK.out _ _ ?_ (fun hHeld => ?_)
          · ((try dsimp only); (refine ⟨?_, ?_, ?_, ?_, ?_, ?_⟩ <;> go_keep))
          clear hK K
          try simp only [Act.put, List.setIfInBounds_toArray, List.set_cons_zero, List.set_cons_succ]
          refine wpAnyH_ready (rs := [15]) (by kernel_rfl) (by simp) (AllReadyH.cons (o := { dst := some 27, op := Go.Op.buildSlice 82 5 #[(0, Go.Operand.const (Go.Value.int Go.IntKind.i64 0)), (1, Go.Operand.const (Go.Value.int Go.IntKind.i64 1)), (2, Go.Operand.const (Go.Value.int Go.IntKind.i64 2)), (3, Go.Operand.const (Go.Value.int Go.IntKind.i64 4)), (4, Go.Operand.const (Go.Value.int Go.IntKind.i64 32))], type := 82, pos := "law.go:27", after := #[], guard := none }) rfl (fun K hK => ?_) AllReadyH.nil)
          go_simp
          refine hK.out _ _ ?_ (fun hHeld => ?_)
          · ((try dsimp only); (refine ⟨?_, ?_, ?_, ?_, ?_, ?_⟩ <;> go_keep))
          clear hK K
          try simp only [Act.put, List.setIfInBounds_toArray, List.set_cons_zero, List.set_cons_succ]
          refine take_first (i := 19) (oi := { dst := some 31, op := Go.Op.indexAddr 82 (Go.Operand.tmp 27) (Go.Operand.tmp 30), type := 0, pos := "law.go:27", after := #[{ on := 15, ground := Go.Ground.data }, { on := 18, ground := Go.Ground.data }], guard := none }) (v := ?_) rfl (by kernel_rfl) (by kernel_rfl) (by kernel_rfl) (fun _ _ _ h => h) ⟨by rfl, fun w hSw => .inl ?_⟩ (by assumption) ?_
          rotate_left
          · ((try dsimp only at hSw); go_simp; (try with_reducible rfl))
          try simp only [Act.put, List.setIfInBounds_toArray, List.set_cons_zero, List.set_cons_succ]
          refine wpAnyH_ready (rs := [20]) (by kernel_rfl) (by simp) (AllReadyH.cons (o := { dst := some 32, op := Go.Op.load 3 (Go.Operand.tmp 31), type := 3, pos := "law.go:27", after := #[{ on := 19, ground := Go.Ground.data }], guard := none }) rfl (fun K hK => ?_) AllReadyH.nil)
          go_simp
          refine hK.out _ _ ?_ (fun hHeld => ?_)
          · ((try dsimp only); (refine ⟨?_, ?_, ?_, ?_, ?_, ?_⟩ <;> go_keep))
          clear hK K
          try simp only [Act.put, List.setIfInBounds_toArray, List.set_cons_zero, List.set_cons_succ]
          refine take_first (i := 21) (oi := { dst := some 33, op := Go.Op.build 50 #[(1, Go.Operand.tmp 14), (2, Go.Operand.tmp 18), (3, Go.Operand.tmp 21), (4, Go.Operand.tmp 23), (8, Go.Operand.tmp 26), (9, Go.Operand.tmp 32)], type := 50, pos := "law.go:27", after := #[{ on := 2, ground := Go.Ground.data }, { on := 6, ground := Go.Ground.data }, { on := 9, ground := Go.Ground.data }, { on := 11, ground := Go.Ground.data }, { on := 14, ground := Go.Ground.data }, { on := 20, ground := Go.Ground.data }], guard := none }) (v := ?_) rfl (by kernel_rfl) (by kernel_rfl) (by kernel_rfl) (fun _ _ _ h => h) ⟨by rfl, fun w hSw => .inl ?_⟩ (by assumption) ?_
          rotate_left
          · ((try dsimp only at hSw); go_simp; (try with_reducible rfl))
          try simp only [Act.put, List.setIfInBounds_toArray, List.set_cons_zero, List.set_cons_succ]
          refine wpAnyH_ready (rs := [23]) (by kernel_rfl) (by simp) (AllReadyH.cons (o := { dst := none, op := Go.Op.store 50 (Go.Operand.tmp 3) (Go.Operand.tmp 33), type := 0, pos := "law.go:27", after := #[{ on := 22, ground := Go.Ground.data }, { on := 21, ground := Go.Ground.data }, { on := 18, ground := Go.Ground.chain }, { on := 0, ground := Go.Ground.phase }, { on := 1, ground := Go.Ground.phase }, { on := 2, ground := Go.Ground.phase }, { on := 3, ground := Go.Ground.phase }, { on := 4, ground := Go.Ground.phase }, { on := 5, ground := Go.Ground.phase }, { on := 6, ground := Go.Ground.phase }, { on := 7, ground := Go.Ground.phase }, { on := 8, ground := Go.Ground.phase }, { on := 9, ground := Go.Ground.phase }, { on := 10, ground := Go.Ground.phase }, { on := 11, ground := Go.Ground.phase }, { on := 12, ground := Go.Ground.phase }, { on := 13, ground := Go.Ground.phase }, { on := 14, ground := Go.Ground.phase }, { on := 15, ground := Go.Ground.phase }, { on := 16, ground := Go.Ground.phase }, { on := 17, ground := Go.Ground.phase }, { on := 18, ground := Go.Ground.phase }, { on := 19, ground := Go.Ground.phase }, { on := 20, ground := Go.Ground.phase }, { on := 21, ground := Go.Ground.phase }, { on := 22, ground := Go.Ground.phase }], guard := none }) rfl (fun K hK => ?_) AllReadyH.nil)
          go_simp
          refine hK.out _ _ ?_ (fun hHeld => ?_)
          · ((try dsimp only); (refine ⟨?_, ?_, ?_, ?_, ?_, ?_⟩ <;> go_keep))
          clear hK K
          try simp only [Act.put, List.setIfInBounds_toArray, List.set_cons_zero, List.set_cons_succ]
          refine wpAnyH_done (by kernel_rfl) ?_ _
          go_wp2_with fail
          go_meet
          first | exact ⟨W.heap.size, _, _, _, _, _, rfl, hlt, Lib.hid ((HZ0.out.alloc _).alloc _).drew, Lib.hid ((((HK0.out.alloc _).alloc _)).drew), Lib.hid ((((HB0.out.alloc _).alloc _)).drew), Lib.hid (((Blk.new _ _ _).alloc _).drew)⟩ | exact ⟨W.heap.size + 1, _, _, _, _, _, rfl, by omega, Lib.hid ((HZ0.out.alloc _).alloc _).drew, Lib.hid ((((HK0.out.alloc _).alloc _)).drew), Lib.hid ((((HB0.out.alloc _).alloc _)).drew), Lib.hid (Blk.drew (Blk.new' (by simp)))⟩
      · refine take_first (i := 18) (oi := { dst := some 30, op := Go.Op.call { callee := Go.Callee.value (Go.Operand.func 9), args := #[Go.Operand.tmp 29, Go.Operand.const (Go.Value.int Go.IntKind.i64 5)], argTypes := #[3, 3] }, type := 3, pos := "law.go:27", after := #[{ on := 17, ground := Go.Ground.data }, { on := 14, ground := Go.Ground.chain }], guard := none }) (v := (.int .i64 1)) rfl (by kernel_rfl) (by kernel_rfl) (by kernel_rfl) (fun _ _ _ h => h) ⟨by rfl, fun w hSw => .inr ⟨9, #[.int .i64 f9, .int .i64 5], ?_, HM9.out w⟩⟩ (by assumption) ?_
        · first | rfl | go_simp | (go_simp; rfl)
        try simp only [Act.put, List.setIfInBounds_toArray, List.set_cons_zero, List.set_cons_succ]
        refine wpAnyH_ready (rs := [15, 22]) (by kernel_rfl) (by simp) (AllReadyH.cons (o := { dst := some 27, op := Go.Op.buildSlice 82 5 #[(0, Go.Operand.const (Go.Value.int Go.IntKind.i64 0)), (1, Go.Operand.const (Go.Value.int Go.IntKind.i64 1)), (2, Go.Operand.const (Go.Value.int Go.IntKind.i64 2)), (3, Go.Operand.const (Go.Value.int Go.IntKind.i64 4)), (4, Go.Operand.const (Go.Value.int Go.IntKind.i64 32))], type := 82, pos := "law.go:27", after := #[], guard := none }) rfl (fun K hK => ?_) (AllReadyH.cons (o := { dst := some 3, op := Go.Op.alloc 50, type := 0, pos := "law.go:27", after := #[], guard := none }) rfl (fun K hK => ?_) AllReadyH.nil))
        · go_simp
          refine hK.out _ _ ?_ (fun hHeld => ?_)
          · ((try dsimp only); (refine ⟨?_, ?_, ?_, ?_, ?_, ?_⟩ <;> go_keep))
          clear hK K
          try simp only [Act.put, List.setIfInBounds_toArray, List.set_cons_zero, List.set_cons_succ]
          refine take_first (i := 19) (oi := { dst := some 31, op := Go.Op.indexAddr 82 (Go.Operand.tmp 27) (Go.Operand.tmp 30), type := 0, pos := "law.go:27", after := #[{ on := 15, ground := Go.Ground.data }, { on := 18, ground := Go.Ground.data }], guard := none }) (v := ?_) rfl (by kernel_rfl) (by kernel_rfl) (by kernel_rfl) (fun _ _ _ h => h) ⟨by rfl, fun w hSw => .inl ?_⟩ (by assumption) ?_
          rotate_left
          · ((try dsimp only at hSw); go_simp; (try with_reducible rfl))
          try simp only [Act.put, List.setIfInBounds_toArray, List.set_cons_zero, List.set_cons_succ]
          refine wpAnyH_ready (rs := [20, 22]) (by kernel_rfl) (by simp) (AllReadyH.cons (o := { dst := some 32, op := Go.Op.load 3 (Go.Operand.tmp 31), type := 3, pos := "law.go:27", after := #[{ on := 19, ground := Go.Ground.data }], guard := none }) rfl (fun K hK => ?_) (AllReadyH.cons (o := { dst := some 3, op := Go.Op.alloc 50, type := 0, pos := "law.go:27", after := #[], guard := none }) rfl (fun K hK => ?_) AllReadyH.nil))
          · go_simp
            refine hK.out _ _ ?_ (fun hHeld => ?_)
            · ((try dsimp only); (refine ⟨?_, ?_, ?_, ?_, ?_, ?_⟩ <;> go_keep))
            clear hK K
            try simp only [Act.put, List.setIfInBounds_toArray, List.set_cons_zero, List.set_cons_succ]
            refine take_first (i := 21) (oi := { dst := some 33, op := Go.Op.build 50 #[(1, Go.Operand.tmp 14), (2, Go.Operand.tmp 18), (3, Go.Operand.tmp 21), (4, Go.Operand.tmp 23), (8, Go.Operand.tmp 26), (9, Go.Operand.tmp 32)], type := 50, pos := "law.go:27", after := #[{ on := 2, ground := Go.Ground.data }, { on := 6, ground := Go.Ground.data }, { on := 9, ground := Go.Ground.data }, { on := 11, ground := Go.Ground.data }, { on := 14, ground := Go.Ground.data }, { on := 20, ground := Go.Ground.data }], guard := none }) (v := ?_) rfl (by kernel_rfl) (by kernel_rfl) (by kernel_rfl) (fun _ _ _ h => h) ⟨by rfl, fun w hSw => .inl ?_⟩ (by assumption) ?_
            rotate_left
            · ((try dsimp only at hSw); go_simp; (try with_reducible rfl))
            try simp only [Act.put, List.setIfInBounds_toArray, List.set_cons_zero, List.set_cons_succ]
            refine wpAnyH_ready (rs := [22]) (by kernel_rfl) (by simp) (AllReadyH.cons (o := { dst := some 3, op := Go.Op.alloc 50, type := 0, pos := "law.go:27", after := #[], guard := none }) rfl (fun K hK => ?_) AllReadyH.nil)
            go_simp
            refine hK.out _ _ ?_ (fun hHeld => ?_)
            · ((try dsimp only); (refine ⟨?_, ?_, ?_, ?_, ?_, ?_⟩ <;> go_keep))
            clear hK K
            try simp only [Act.put, List.setIfInBounds_toArray, List.set_cons_zero, List.set_cons_succ]
            refine wpAnyH_ready (rs := [23]) (by kernel_rfl) (by simp) (AllReadyH.cons (o := { dst := none, op := Go.Op.store 50 (Go.Operand.tmp 3) (Go.Operand.tmp 33), type := 0, pos := "law.go:27", after := #[{ on := 22, ground := Go.Ground.data }, { on := 21, ground := Go.Ground.data }, { on := 18, ground := Go.Ground.chain }, { on := 0, ground := Go.Ground.phase }, { on := 1, ground := Go.Ground.phase }, { on := 2, ground := Go.Ground.phase }, { on := 3, ground := Go.Ground.phase }, { on := 4, ground := Go.Ground.phase }, { on := 5, ground := Go.Ground.phase }, { on := 6, ground := Go.Ground.phase }, { on := 7, ground := Go.Ground.phase }, { on := 8, ground := Go.Ground.phase }, { on := 9, ground := Go.Ground.phase }, { on := 10, ground := Go.Ground.phase }, { on := 11, ground := Go.Ground.phase }, { on := 12, ground := Go.Ground.phase }, { on := 13, ground := Go.Ground.phase }, { on := 14, ground := Go.Ground.phase }, { on := 15, ground := Go.Ground.phase }, { on := 16, ground := Go.Ground.phase }, { on := 17, ground := Go.Ground.phase }, { on := 18, ground := Go.Ground.phase }, { on := 19, ground := Go.Ground.phase }, { on := 20, ground := Go.Ground.phase }, { on := 21, ground := Go.Ground.phase }, { on := 22, ground := Go.Ground.phase }], guard := none }) rfl (fun K hK => ?_) AllReadyH.nil)
            go_simp
            refine hK.out _ _ ?_ (fun hHeld => ?_)
            · ((try dsimp only); (refine ⟨?_, ?_, ?_, ?_, ?_, ?_⟩ <;> go_keep))
            clear hK K
            try simp only [Act.put, List.setIfInBounds_toArray, List.set_cons_zero, List.set_cons_succ]
            refine wpAnyH_done (by kernel_rfl) ?_ _
            go_wp2_with fail
            go_meet
            first | exact ⟨W.heap.size, _, _, _, _, _, rfl, hlt, Lib.hid ((HZ0.out.alloc _).alloc _).drew, Lib.hid ((((HK0.out.alloc _).alloc _)).drew), Lib.hid ((((HB0.out.alloc _).alloc _)).drew), Lib.hid (((Blk.new _ _ _).alloc _).drew)⟩ | exact ⟨W.heap.size + 1, _, _, _, _, _, rfl, by omega, Lib.hid ((HZ0.out.alloc _).alloc _).drew, Lib.hid ((((HK0.out.alloc _).alloc _)).drew), Lib.hid ((((HB0.out.alloc _).alloc _)).drew), Lib.hid (Blk.drew (Blk.new' (by simp)))⟩
          · go_simp
            refine hK.out _ _ ?_ (fun hHeld => ?_)
            · ((try dsimp only); (refine ⟨?_, ?_, ?_, ?_, ?_, ?_⟩ <;> go_keep))
            clear hK K
            try simp only [Act.put, List.setIfInBounds_toArray, List.set_cons_zero, List.set_cons_succ]
            refine wpAnyH_ready (rs := [20]) (by kernel_rfl) (by simp) (AllReadyH.cons (o := { dst := some 32, op := Go.Op.load 3 (Go.Operand.tmp 31), type := 3, pos := "law.go:27", after := #[{ on := 19, ground := Go.Ground.data }], guard := none }) rfl (fun K hK => ?_) AllReadyH.nil)
            go_simp
            refine hK.out _ _ ?_ (fun hHeld => ?_)
            · ((try dsimp only); (refine ⟨?_, ?_, ?_, ?_, ?_, ?_⟩ <;> go_keep))
            clear hK K
            try simp only [Act.put, List.setIfInBounds_toArray, List.set_cons_zero, List.set_cons_succ]
            refine take_first (i := 21) (oi := { dst := some 33, op := Go.Op.build 50 #[(1, Go.Operand.tmp 14), (2, Go.Operand.tmp 18), (3, Go.Operand.tmp 21), (4, Go.Operand.tmp 23), (8, Go.Operand.tmp 26), (9, Go.Operand.tmp 32)], type := 50, pos := "law.go:27", after := #[{ on := 2, ground := Go.Ground.data }, { on := 6, ground := Go.Ground.data }, { on := 9, ground := Go.Ground.data }, { on := 11, ground := Go.Ground.data }, { on := 14, ground := Go.Ground.data }, { on := 20, ground := Go.Ground.data }], guard := none }) (v := ?_) rfl (by kernel_rfl) (by kernel_rfl) (by kernel_rfl) (fun _ _ _ h => h) ⟨by rfl, fun w hSw => .inl ?_⟩ (by assumption) ?_
            rotate_left
            · ((try dsimp only at hSw); go_simp; (try with_reducible rfl))
            try simp only [Act.put, List.setIfInBounds_toArray, List.set_cons_zero, List.set_cons_succ]
            refine wpAnyH_ready (rs := [23]) (by kernel_rfl) (by simp) (AllReadyH.cons (o := { dst := none, op := Go.Op.store 50 (Go.Operand.tmp 3) (Go.Operand.tmp 33), type := 0, pos := "law.go:27", after := #[{ on := 22, ground := Go.Ground.data }, { on := 21, ground := Go.Ground.data }, { on := 18, ground := Go.Ground.chain }, { on := 0, ground := Go.Ground.phase }, { on := 1, ground := Go.Ground.phase }, { on := 2, ground := Go.Ground.phase }, { on := 3, ground := Go.Ground.phase }, { on := 4, ground := Go.Ground.phase }, { on := 5, ground := Go.Ground.phase }, { on := 6, ground := Go.Ground.phase }, { on := 7, ground := Go.Ground.phase }, { on := 8, ground := Go.Ground.phase }, { on := 9, ground := Go.Ground.phase }, { on := 10, ground := Go.Ground.phase }, { on := 11, ground := Go.Ground.phase }, { on := 12, ground := Go.Ground.phase }, { on := 13, ground := Go.Ground.phase }, { on := 14, ground := Go.Ground.phase }, { on := 15, ground := Go.Ground.phase }, { on := 16, ground := Go.Ground.phase }, { on := 17, ground := Go.Ground.phase }, { on := 18, ground := Go.Ground.phase }, { on := 19, ground := Go.Ground.phase }, { on := 20, ground := Go.Ground.phase }, { on := 21, ground := Go.Ground.phase }, { on := 22, ground := Go.Ground.phase }], guard := none }) rfl (fun K hK => ?_) AllReadyH.nil)
            go_simp
            refine hK.out _ _ ?_ (fun hHeld => ?_)
            · ((try dsimp only); (refine ⟨?_, ?_, ?_, ?_, ?_, ?_⟩ <;> go_keep))
            clear hK K
            try simp only [Act.put, List.setIfInBounds_toArray, List.set_cons_zero, List.set_cons_succ]
            refine wpAnyH_done (by kernel_rfl) ?_ _
            go_wp2_with fail
            go_meet
            first | exact ⟨W.heap.size, _, _, _, _, _, rfl, hlt, Lib.hid ((HZ0.out.alloc _).alloc _).drew, Lib.hid ((((HK0.out.alloc _).alloc _)).drew), Lib.hid ((((HB0.out.alloc _).alloc _)).drew), Lib.hid (((Blk.new _ _ _).alloc _).drew)⟩ | exact ⟨W.heap.size + 1, _, _, _, _, _, rfl, by omega, Lib.hid ((HZ0.out.alloc _).alloc _).drew, Lib.hid ((((HK0.out.alloc _).alloc _)).drew), Lib.hid ((((HB0.out.alloc _).alloc _)).drew), Lib.hid (Blk.drew (Blk.new' (by simp)))⟩
        · go_simp
          refine hK.out _ _ ?_ (fun hHeld => ?_)
          · ((try dsimp only); (refine ⟨?_, ?_, ?_, ?_, ?_, ?_⟩ <;> go_keep))
          clear hK K
          try simp only [Act.put, List.setIfInBounds_toArray, List.set_cons_zero, List.set_cons_succ]
          refine wpAnyH_ready (rs := [15]) (by kernel_rfl) (by simp) (AllReadyH.cons (o := { dst := some 27, op := Go.Op.buildSlice 82 5 #[(0, Go.Operand.const (Go.Value.int Go.IntKind.i64 0)), (1, Go.Operand.const (Go.Value.int Go.IntKind.i64 1)), (2, Go.Operand.const (Go.Value.int Go.IntKind.i64 2)), (3, Go.Operand.const (Go.Value.int Go.IntKind.i64 4)), (4, Go.Operand.const (Go.Value.int Go.IntKind.i64 32))], type := 82, pos := "law.go:27", after := #[], guard := none }) rfl (fun K hK => ?_) AllReadyH.nil)
          go_simp
          refine hK.out _ _ ?_ (fun hHeld => ?_)
          · ((try dsimp only); (refine ⟨?_, ?_, ?_, ?_, ?_, ?_⟩ <;> go_keep))
          clear hK K
          try simp only [Act.put, List.setIfInBounds_toArray, List.set_cons_zero, List.set_cons_succ]
          refine take_first (i := 19) (oi := { dst := some 31, op := Go.Op.indexAddr 82 (Go.Operand.tmp 27) (Go.Operand.tmp 30), type := 0, pos := "law.go:27", after := #[{ on := 15, ground := Go.Ground.data }, { on := 18, ground := Go.Ground.data }], guard := none }) (v := ?_) rfl (by kernel_rfl) (by kernel_rfl) (by kernel_rfl) (fun _ _ _ h => h) ⟨by rfl, fun w hSw => .inl ?_⟩ (by assumption) ?_
          rotate_left
          · ((try dsimp only at hSw); go_simp; (try with_reducible rfl))
          try simp only [Act.put, List.setIfInBounds_toArray, List.set_cons_zero, List.set_cons_succ]
          refine wpAnyH_ready (rs := [20]) (by kernel_rfl) (by simp) (AllReadyH.cons (o := { dst := some 32, op := Go.Op.load 3 (Go.Operand.tmp 31), type := 3, pos := "law.go:27", after := #[{ on := 19, ground := Go.Ground.data }], guard := none }) rfl (fun K hK => ?_) AllReadyH.nil)
          go_simp
          refine hK.out _ _ ?_ (fun hHeld => ?_)
          · ((try dsimp only); (refine ⟨?_, ?_, ?_, ?_, ?_, ?_⟩ <;> go_keep))
          clear hK K
          try simp only [Act.put, List.setIfInBounds_toArray, List.set_cons_zero, List.set_cons_succ]
          refine take_first (i := 21) (oi := { dst := some 33, op := Go.Op.build 50 #[(1, Go.Operand.tmp 14), (2, Go.Operand.tmp 18), (3, Go.Operand.tmp 21), (4, Go.Operand.tmp 23), (8, Go.Operand.tmp 26), (9, Go.Operand.tmp 32)], type := 50, pos := "law.go:27", after := #[{ on := 2, ground := Go.Ground.data }, { on := 6, ground := Go.Ground.data }, { on := 9, ground := Go.Ground.data }, { on := 11, ground := Go.Ground.data }, { on := 14, ground := Go.Ground.data }, { on := 20, ground := Go.Ground.data }], guard := none }) (v := ?_) rfl (by kernel_rfl) (by kernel_rfl) (by kernel_rfl) (fun _ _ _ h => h) ⟨by rfl, fun w hSw => .inl ?_⟩ (by assumption) ?_
          rotate_left
          · ((try dsimp only at hSw); go_simp; (try with_reducible rfl))
          try simp only [Act.put, List.setIfInBounds_toArray, List.set_cons_zero, List.set_cons_succ]
          refine wpAnyH_ready (rs := [23]) (by kernel_rfl) (by simp) (AllReadyH.cons (o := { dst := none, op := Go.Op.store 50 (Go.Operand.tmp 3) (Go.Operand.tmp 33), type := 0, pos := "law.go:27", after := #[{ on := 22, ground := Go.Ground.data }, { on := 21, ground := Go.Ground.data }, { on := 18, ground := Go.Ground.chain }, { on := 0, ground := Go.Ground.phase }, { on := 1, ground := Go.Ground.phase }, { on := 2, ground := Go.Ground.phase }, { on := 3, ground := Go.Ground.phase }, { on := 4, ground := Go.Ground.phase }, { on := 5, ground := Go.Ground.phase }, { on := 6, ground := Go.Ground.phase }, { on := 7, ground := Go.Ground.phase }, { on := 8, ground := Go.Ground.phase }, { on := 9, ground := Go.Ground.phase }, { on := 10, ground := Go.Ground.phase }, { on := 11, ground := Go.Ground.phase }, { on := 12, ground := Go.Ground.phase }, { on := 13, ground := Go.Ground.phase }, { on := 14, ground := Go.Ground.phase }, { on := 15, ground := Go.Ground.phase }, { on := 16, ground := Go.Ground.phase }, { on := 17, ground := Go.Ground.phase }, { on := 18, ground := Go.Ground.phase }, { on := 19, ground := Go.Ground.phase }, { on := 20, ground := Go.Ground.phase }, { on := 21, ground := Go.Ground.phase }, { on := 22, ground := Go.Ground.phase }], guard := none }) rfl (fun K hK => ?_) AllReadyH.nil)
          go_simp
          refine hK.out _ _ ?_ (fun hHeld => ?_)
          · ((try dsimp only); (refine ⟨?_, ?_, ?_, ?_, ?_, ?_⟩ <;> go_keep))
          clear hK K
          try simp only [Act.put, List.setIfInBounds_toArray, List.set_cons_zero, List.set_cons_succ]
          refine wpAnyH_done (by kernel_rfl) ?_ _
          go_wp2_with fail
          go_meet
          first | exact ⟨W.heap.size, _, _, _, _, _, rfl, hlt, Lib.hid ((HZ0.out.alloc _).alloc _).drew, Lib.hid ((((HK0.out.alloc _).alloc _)).drew), Lib.hid ((((HB0.out.alloc _).alloc _)).drew), Lib.hid (((Blk.new _ _ _).alloc _).drew)⟩ | exact ⟨W.heap.size + 1, _, _, _, _, _, rfl, by omega, Lib.hid ((HZ0.out.alloc _).alloc _).drew, Lib.hid ((((HK0.out.alloc _).alloc _)).drew), Lib.hid ((((HB0.out.alloc _).alloc _)).drew), Lib.hid (Blk.drew (Blk.new' (by simp)))⟩
      · refine take_first (i := 18) (oi := { dst := some 30, op := Go.Op.call { callee := Go.Callee.value (Go.Operand.func 9), args := #[Go.Operand.tmp 29, Go.Operand.const (Go.Value.int Go.IntKind.i64 5)], argTypes := #[3, 3] }, type := 3, pos := "law.go:27", after := #[{ on := 17, ground := Go.Ground.data }, { on := 14, ground := Go.Ground.chain }], guard := none }) (v := (.int .i64 2)) rfl (by kernel_rfl) (by kernel_rfl) (by kernel_rfl) (fun _ _ _ h => h) ⟨by rfl, fun w hSw => .inr ⟨9, #[.int .i64 f9, .int .i64 5], ?_, HM9.out w⟩⟩ (by assumption) ?_
        · first | rfl | go_simp | (go_simp; rfl)
        try simp only [Act.put, List.setIfInBounds_toArray, List.set_cons_zero, List.set_cons_succ]
        refine wpAnyH_ready (rs := [15, 22]) (by kernel_rfl) (by simp) (AllReadyH.cons (o := { dst := some 27, op := Go.Op.buildSlice 82 5 #[(0, Go.Operand.const (Go.Value.int Go.IntKind.i64 0)), (1, Go.Operand.const (Go.Value.int Go.IntKind.i64 1)), (2, Go.Operand.const (Go.Value.int Go.IntKind.i64 2)), (3, Go.Operand.const (Go.Value.int Go.IntKind.i64 4)), (4, Go.Operand.const (Go.Value.int Go.IntKind.i64 32))], type := 82, pos := "law.go:27", after := #[], guard := none }) rfl (fun K hK => ?_) (AllReadyH.cons (o := { dst := some 3, op := Go.Op.alloc 50, type := 0, pos := "law.go:27", after := #[], guard := none }) rfl (fun K hK => ?_) AllReadyH.nil))
        · go_simp
          refine hK.out _ _ ?_ (fun hHeld => ?_)
          · ((try dsimp only); (refine ⟨?_, ?_, ?_, ?_, ?_, ?_⟩ <;> go_keep))
          clear hK K
          try simp only [Act.put, List.setIfInBounds_toArray, List.set_cons_zero, List.set_cons_succ]
          refine take_first (i := 19) (oi := { dst := some 31, op := Go.Op.indexAddr 82 (Go.Operand.tmp 27) (Go.Operand.tmp 30), type := 0, pos := "law.go:27", after := #[{ on := 15, ground := Go.Ground.data }, { on := 18, ground := Go.Ground.data }], guard := none }) (v := ?_) rfl (by kernel_rfl) (by kernel_rfl) (by kernel_rfl) (fun _ _ _ h => h) ⟨by rfl, fun w hSw => .inl ?_⟩ (by assumption) ?_
          rotate_left
          · ((try dsimp only at hSw); go_simp; (try with_reducible rfl))
          try simp only [Act.put, List.setIfInBounds_toArray, List.set_cons_zero, List.set_cons_succ]
          refine wpAnyH_ready (rs := [20, 22]) (by kernel_rfl) (by simp) (AllReadyH.cons (o := { dst := some 32, op := Go.Op.load 3 (Go.Operand.tmp 31), type := 3, pos := "law.go:27", after := #[{ on := 19, ground := Go.Ground.data }], guard := none }) rfl (fun K hK => ?_) (AllReadyH.cons (o := { dst := some 3, op := Go.Op.alloc 50, type := 0, pos := "law.go:27", after := #[], guard := none }) rfl (fun K hK => ?_) AllReadyH.nil))
          · go_simp
            refine hK.out _ _ ?_ (fun hHeld => ?_)
            · ((try dsimp only); (refine ⟨?_, ?_, ?_, ?_, ?_, ?_⟩ <;> go_keep))
            clear hK K
            try simp only [Act.put, List.setIfInBounds_toArray, List.set_cons_zero, List.set_cons_succ]
            refine take_first (i := 21) (oi := { dst := some 33, op := Go.Op.build 50 #[(1, Go.Operand.tmp 14), (2, Go.Operand.tmp 18), (3, Go.Operand.tmp 21), (4, Go.Operand.tmp 23), (8, Go.Operand.tmp 26), (9, Go.Operand.tmp 32)], type := 50, pos := "law.go:27", after := #[{ on := 2, ground := Go.Ground.data }, { on := 6, ground := Go.Ground.data }, { on := 9, ground := Go.Ground.data }, { on := 11, ground := Go.Ground.data }, { on := 14, ground := Go.Ground.data }, { on := 20, ground := Go.Ground.data }], guard := none }) (v := ?_) rfl (by kernel_rfl) (by kernel_rfl) (by kernel_rfl) (fun _ _ _ h => h) ⟨by rfl, fun w hSw => .inl ?_⟩ (by assumption) ?_
            rotate_left
            · ((try dsimp only at hSw); go_simp; (try with_reducible rfl))
            try simp only [Act.put, List.setIfInBounds_toArray, List.set_cons_zero, List.set_cons_succ]
            refine wpAnyH_ready (rs := [22]) (by kernel_rfl) (by simp) (AllReadyH.cons (o := { dst := some 3, op := Go.Op.alloc 50, type := 0, pos := "law.go:27", after := #[], guard := none }) rfl (fun K hK => ?_) AllReadyH.nil)
            go_simp
            refine hK.out _ _ ?_ (fun hHeld => ?_)
            · ((try dsimp only); (refine ⟨?_, ?_, ?_, ?_, ?_, ?_⟩ <;> go_keep))
            clear hK K
            try simp only [Act.put, List.setIfInBounds_toArray, List.set_cons_zero, List.set_cons_succ]
            refine wpAnyH_ready (rs := [23]) (by kernel_rfl) (by simp) (AllReadyH.cons (o := { dst := none, op := Go.Op.store 50 (Go.Operand.tmp 3) (Go.Operand.tmp 33), type := 0, pos := "law.go:27", after := #[{ on := 22, ground := Go.Ground.data }, { on := 21, ground := Go.Ground.data }, { on := 18, ground := Go.Ground.chain }, { on := 0, ground := Go.Ground.phase }, { on := 1, ground := Go.Ground.phase }, { on := 2, ground := Go.Ground.phase }, { on := 3, ground := Go.Ground.phase }, { on := 4, ground := Go.Ground.phase }, { on := 5, ground := Go.Ground.phase }, { on := 6, ground := Go.Ground.phase }, { on := 7, ground := Go.Ground.phase }, { on := 8, ground := Go.Ground.phase }, { on := 9, ground := Go.Ground.phase }, { on := 10, ground := Go.Ground.phase }, { on := 11, ground := Go.Ground.phase }, { on := 12, ground := Go.Ground.phase }, { on := 13, ground := Go.Ground.phase }, { on := 14, ground := Go.Ground.phase }, { on := 15, ground := Go.Ground.phase }, { on := 16, ground := Go.Ground.phase }, { on := 17, ground := Go.Ground.phase }, { on := 18, ground := Go.Ground.phase }, { on := 19, ground := Go.Ground.phase }, { on := 20, ground := Go.Ground.phase }, { on := 21, ground := Go.Ground.phase }, { on := 22, ground := Go.Ground.phase }], guard := none }) rfl (fun K hK => ?_) AllReadyH.nil)
            go_simp
            refine hK.out _ _ ?_ (fun hHeld => ?_)
            · ((try dsimp only); (refine ⟨?_, ?_, ?_, ?_, ?_, ?_⟩ <;> go_keep))
            clear hK K
            try simp only [Act.put, List.setIfInBounds_toArray, List.set_cons_zero, List.set_cons_succ]
            refine wpAnyH_done (by kernel_rfl) ?_ _
            go_wp2_with fail
            go_meet
            first | exact ⟨W.heap.size, _, _, _, _, _, rfl, hlt, Lib.hid ((HZ0.out.alloc _).alloc _).drew, Lib.hid ((((HK0.out.alloc _).alloc _)).drew), Lib.hid ((((HB0.out.alloc _).alloc _)).drew), Lib.hid (((Blk.new _ _ _).alloc _).drew)⟩ | exact ⟨W.heap.size + 1, _, _, _, _, _, rfl, by omega, Lib.hid ((HZ0.out.alloc _).alloc _).drew, Lib.hid ((((HK0.out.alloc _).alloc _)).drew), Lib.hid ((((HB0.out.alloc _).alloc _)).drew), Lib.hid (Blk.drew (Blk.new' (by simp)))⟩
          · go_simp
            refine hK.out _ _ ?_ (fun hHeld => ?_)
            · ((try dsimp only); (refine ⟨?_, ?_, ?_, ?_, ?_, ?_⟩ <;> go_keep))
            clear hK K
            try simp only [Act.put, List.setIfInBounds_toArray, List.set_cons_zero, List.set_cons_succ]
            refine wpAnyH_ready (rs := [20]) (by kernel_rfl) (by simp) (AllReadyH.cons (o := { dst := some 32, op := Go.Op.load 3 (Go.Operand.tmp 31), type := 3, pos := "law.go:27", after := #[{ on := 19, ground := Go.Ground.data }], guard := none }) rfl (fun K hK => ?_) AllReadyH.nil)
            go_simp
            refine hK.out _ _ ?_ (fun hHeld => ?_)
            · ((try dsimp only); (refine ⟨?_, ?_, ?_, ?_, ?_, ?_⟩ <;> go_keep))
            clear hK K
            try simp only [Act.put, List.setIfInBounds_toArray, List.set_cons_zero, List.set_cons_succ]
            refine take_first (i := 21) (oi := { dst := some 33, op := Go.Op.build 50 #[(1, Go.Operand.tmp 14), (2, Go.Operand.tmp 18), (3, Go.Operand.tmp 21), (4, Go.Operand.tmp 23), (8, Go.Operand.tmp 26), (9, Go.Operand.tmp 32)], type := 50, pos := "law.go:27", after := #[{ on := 2, ground := Go.Ground.data }, { on := 6, ground := Go.Ground.data }, { on := 9, ground := Go.Ground.data }, { on := 11, ground := Go.Ground.data }, { on := 14, ground := Go.Ground.data }, { on := 20, ground := Go.Ground.data }], guard := none }) (v := ?_) rfl (by kernel_rfl) (by kernel_rfl) (by kernel_rfl) (fun _ _ _ h => h) ⟨by rfl, fun w hSw => .inl ?_⟩ (by assumption) ?_
            rotate_left
            · ((try dsimp only at hSw); go_simp; (try with_reducible rfl))
            try simp only [Act.put, List.setIfInBounds_toArray, List.set_cons_zero, List.set_cons_succ]
            refine wpAnyH_ready (rs := [23]) (by kernel_rfl) (by simp) (AllReadyH.cons (o := { dst := none, op := Go.Op.store 50 (Go.Operand.tmp 3) (Go.Operand.tmp 33), type := 0, pos := "law.go:27", after := #[{ on := 22, ground := Go.Ground.data }, { on := 21, ground := Go.Ground.data }, { on := 18, ground := Go.Ground.chain }, { on := 0, ground := Go.Ground.phase }, { on := 1, ground := Go.Ground.phase }, { on := 2, ground := Go.Ground.phase }, { on := 3, ground := Go.Ground.phase }, { on := 4, ground := Go.Ground.phase }, { on := 5, ground := Go.Ground.phase }, { on := 6, ground := Go.Ground.phase }, { on := 7, ground := Go.Ground.phase }, { on := 8, ground := Go.Ground.phase }, { on := 9, ground := Go.Ground.phase }, { on := 10, ground := Go.Ground.phase }, { on := 11, ground := Go.Ground.phase }, { on := 12, ground := Go.Ground.phase }, { on := 13, ground := Go.Ground.phase }, { on := 14, ground := Go.Ground.phase }, { on := 15, ground := Go.Ground.phase }, { on := 16, ground := Go.Ground.phase }, { on := 17, ground := Go.Ground.phase }, { on := 18, ground := Go.Ground.phase }, { on := 19, ground := Go.Ground.phase }, { on := 20, ground := Go.Ground.phase }, { on := 21, ground := Go.Ground.phase }, { on := 22, ground := Go.Ground.phase }], guard := none }) rfl (fun K hK => ?_) AllReadyH.nil)
            go_simp
            refine hK.out _ _ ?_ (fun hHeld => ?_)
            · ((try dsimp only); (refine ⟨?_, ?_, ?_, ?_, ?_, ?_⟩ <;> go_keep))
            clear hK K
            try simp only [Act.put, List.setIfInBounds_toArray, List.set_cons_zero, List.set_cons_succ]
            refine wpAnyH_done (by kernel_rfl) ?_ _
            go_wp2_with fail
            go_meet
            first | exact ⟨W.heap.size, _, _, _, _, _, rfl, hlt, Lib.hid ((HZ0.out.alloc _).alloc _).drew, Lib.hid ((((HK0.out.alloc _).alloc _)).drew), Lib.hid ((((HB0.out.alloc _).alloc _)).drew), Lib.hid (((Blk.new _ _ _).alloc _).drew)⟩ | exact ⟨W.heap.size + 1, _, _, _, _, _, rfl, by omega, Lib.hid ((HZ0.out.alloc _).alloc _).drew, Lib.hid ((((HK0.out.alloc _).alloc _)).drew), Lib.hid ((((HB0.out.alloc _).alloc _)).drew), Lib.hid (Blk.drew (Blk.new' (by simp)))⟩
        · go_simp
          refine hK.out _ _ ?_ (fun hHeld => ?_)
          · ((try dsimp only); (refine ⟨?_, ?_, ?_, ?_, ?_, ?_⟩ <;> go_keep))
          clear hK K
          try simp only [Act.put, List.setIfInBounds_toArray, List.set_cons_zero, List.set_cons_succ]
          refine wpAnyH_ready (rs := [15]) (by kernel_rfl) (by simp) (AllReadyH.cons (o := { dst := some 27, op := Go.Op.buildSlice 82 5 #[(0, Go.Operand.const (Go.Value.int Go.IntKind.i64 0)), (1, Go.Operand.const (Go.Value.int Go.IntKind.i64 1)), (2, Go.Operand.const (Go.Value.int Go.IntKind.i64 2)), (3, Go.Operand.const (Go.Value.int Go.IntKind.i64 4)), (4, Go.Operand.const (Go.Value.int Go.IntKind.i64 32))], type := 82, pos := "law.go:27", after := #[], guard := none }) rfl (fun K hK => ?_) AllReadyH.nil)
          go_simp
          refine hK.out _ _ ?_ (fun hHeld => ?_)
          · ((try dsimp only); (refine ⟨?_, ?_, ?_, ?_, ?_, ?_⟩ <;> go_keep))
          clear hK K
          try simp only [Act.put, List.setIfInBounds_toArray, List.set_cons_zero, List.set_cons_succ]
          refine take_first (i := 19) (oi := { dst := some 31, op := Go.Op.indexAddr 82 (Go.Operand.tmp 27) (Go.Operand.tmp 30), type := 0, pos := "law.go:27", after := #[{ on := 15, ground := Go.Ground.data }, { on := 18, ground := Go.Ground.data }], guard := none }) (v := ?_) rfl (by kernel_rfl) (by kernel_rfl) (by kernel_rfl) (fun _ _ _ h => h) ⟨by rfl, fun w hSw => .inl ?_⟩ (by assumption) ?_
          rotate_left
          · ((try dsimp only at hSw); go_simp; (try with_reducible rfl))
          try simp only [Act.put, List.setIfInBounds_toArray, List.set_cons_zero, List.set_cons_succ]
          refine wpAnyH_ready (rs := [20]) (by kernel_rfl) (by simp) (AllReadyH.cons (o := { dst := some 32, op := Go.Op.load 3 (Go.Operand.tmp 31), type := 3, pos := "law.go:27", after := #[{ on := 19, ground := Go.Ground.data }], guard := none }) rfl (fun K hK => ?_) AllReadyH.nil)
          go_simp
          refine hK.out _ _ ?_ (fun hHeld => ?_)
          · ((try dsimp only); (refine ⟨?_, ?_, ?_, ?_, ?_, ?_⟩ <;> go_keep))
          clear hK K
          try simp only [Act.put, List.setIfInBounds_toArray, List.set_cons_zero, List.set_cons_succ]
          refine take_first (i := 21) (oi := { dst := some 33, op := Go.Op.build 50 #[(1, Go.Operand.tmp 14), (2, Go.Operand.tmp 18), (3, Go.Operand.tmp 21), (4, Go.Operand.tmp 23), (8, Go.Operand.tmp 26), (9, Go.Operand.tmp 32)], type := 50, pos := "law.go:27", after := #[{ on := 2, ground := Go.Ground.data }, { on := 6, ground := Go.Ground.data }, { on := 9, ground := Go.Ground.data }, { on := 11, ground := Go.Ground.data }, { on := 14, ground := Go.Ground.data }, { on := 20, ground := Go.Ground.data }], guard := none }) (v := ?_) rfl (by kernel_rfl) (by kernel_rfl) (by kernel_rfl) (fun _ _ _ h => h) ⟨by rfl, fun w hSw => .inl ?_⟩ (by assumption) ?_
          rotate_left
          · ((try dsimp only at hSw); go_simp; (try with_reducible rfl))
          try simp only [Act.put, List.setIfInBounds_toArray, List.set_cons_zero, List.set_cons_succ]
          refine wpAnyH_ready (rs := [23]) (by kernel_rfl) (by simp) (AllReadyH.cons (o := { dst := none, op := Go.Op.store 50 (Go.Operand.tmp 3) (Go.Operand.tmp 33), type := 0, pos := "law.go:27", after := #[{ on := 22, ground := Go.Ground.data }, { on := 21, ground := Go.Ground.data }, { on := 18, ground := Go.Ground.chain }, { on := 0, ground := Go.Ground.phase }, { on := 1, ground := Go.Ground.phase }, { on := 2, ground := Go.Ground.phase }, { on := 3, ground := Go.Ground.phase }, { on := 4, ground := Go.Ground.phase }, { on := 5, ground := Go.Ground.phase }, { on := 6, ground := Go.Ground.phase }, { on := 7, ground := Go.Ground.phase }, { on := 8, ground := Go.Ground.phase }, { on := 9, ground := Go.Ground.phase }, { on := 10, ground := Go.Ground.phase }, { on := 11, ground := Go.Ground.phase }, { on := 12, ground := Go.Ground.phase }, { on := 13, ground := Go.Ground.phase }, { on := 14, ground := Go.Ground.phase }, { on := 15, ground := Go.Ground.phase }, { on := 16, ground := Go.Ground.phase }, { on := 17, ground := Go.Ground.phase }, { on := 18, ground := Go.Ground.phase }, { on := 19, ground := Go.Ground.phase }, { on := 20, ground := Go.Ground.phase }, { on := 21, ground := Go.Ground.phase }, { on := 22, ground := Go.Ground.phase }], guard := none }) rfl (fun K hK => ?_) AllReadyH.nil)
          go_simp
          refine hK.out _ _ ?_ (fun hHeld => ?_)
          · ((try dsimp only); (refine ⟨?_, ?_, ?_, ?_, ?_, ?_⟩ <;> go_keep))
          clear hK K
          try simp only [Act.put, List.setIfInBounds_toArray, List.set_cons_zero, List.set_cons_succ]
          refine wpAnyH_done (by kernel_rfl) ?_ _
          go_wp2_with fail
          go_meet
          first | exact ⟨W.heap.size, _, _, _, _, _, rfl, hlt, Lib.hid ((HZ0.out.alloc _).alloc _).drew, Lib.hid ((((HK0.out.alloc _).alloc _)).drew), Lib.hid ((((HB0.out.alloc _).alloc _)).drew), Lib.hid (((Blk.new _ _ _).alloc _).drew)⟩ | exact ⟨W.heap.size + 1, _, _, _, _, _, rfl, by omega, Lib.hid ((HZ0.out.alloc _).alloc _).drew, Lib.hid ((((HK0.out.alloc _).alloc _)).drew), Lib.hid ((((HB0.out.alloc _).alloc _)).drew), Lib.hid (Blk.drew (Blk.new' (by simp)))⟩
      · refine take_first (i := 18) (oi := { dst := some 30, op := Go.Op.call { callee := Go.Callee.value (Go.Operand.func 9), args := #[Go.Operand.tmp 29, Go.Operand.const (Go.Value.int Go.IntKind.i64 5)], argTypes := #[3, 3] }, type := 3, pos := "law.go:27", after := #[{ on := 17, ground := Go.Ground.data }, { on := 14, ground := Go.Ground.chain }], guard := none }) (v := (.int .i64 3)) rfl (by kernel_rfl) (by kernel_rfl) (by kernel_rfl) (fun _ _ _ h => h) ⟨by rfl, fun w hSw => .inr ⟨9, #[.int .i64 f9, .int .i64 5], ?_, HM9.out w⟩⟩ (by assumption) ?_
        · first | rfl | go_simp | (go_simp; rfl)
        try simp only [Act.put, List.setIfInBounds_toArray, List.set_cons_zero, List.set_cons_succ]
        refine wpAnyH_ready (rs := [15, 22]) (by kernel_rfl) (by simp) (AllReadyH.cons (o := { dst := some 27, op := Go.Op.buildSlice 82 5 #[(0, Go.Operand.const (Go.Value.int Go.IntKind.i64 0)), (1, Go.Operand.const (Go.Value.int Go.IntKind.i64 1)), (2, Go.Operand.const (Go.Value.int Go.IntKind.i64 2)), (3, Go.Operand.const (Go.Value.int Go.IntKind.i64 4)), (4, Go.Operand.const (Go.Value.int Go.IntKind.i64 32))], type := 82, pos := "law.go:27", after := #[], guard := none }) rfl (fun K hK => ?_) (AllReadyH.cons (o := { dst := some 3, op := Go.Op.alloc 50, type := 0, pos := "law.go:27", after := #[], guard := none }) rfl (fun K hK => ?_) AllReadyH.nil))
        · go_simp
          refine hK.out _ _ ?_ (fun hHeld => ?_)
          · ((try dsimp only); (refine ⟨?_, ?_, ?_, ?_, ?_, ?_⟩ <;> go_keep))
          clear hK K
          try simp only [Act.put, List.setIfInBounds_toArray, List.set_cons_zero, List.set_cons_succ]
          refine take_first (i := 19) (oi := { dst := some 31, op := Go.Op.indexAddr 82 (Go.Operand.tmp 27) (Go.Operand.tmp 30), type := 0, pos := "law.go:27", after := #[{ on := 15, ground := Go.Ground.data }, { on := 18, ground := Go.Ground.data }], guard := none }) (v := ?_) rfl (by kernel_rfl) (by kernel_rfl) (by kernel_rfl) (fun _ _ _ h => h) ⟨by rfl, fun w hSw => .inl ?_⟩ (by assumption) ?_
          rotate_left
          · ((try dsimp only at hSw); go_simp; (try with_reducible rfl))
          try simp only [Act.put, List.setIfInBounds_toArray, List.set_cons_zero, List.set_cons_succ]
          refine wpAnyH_ready (rs := [20, 22]) (by kernel_rfl) (by simp) (AllReadyH.cons (o := { dst := some 32, op := Go.Op.load 3 (Go.Operand.tmp 31), type := 3, pos := "law.go:27", after := #[{ on := 19, ground := Go.Ground.data }], guard := none }) rfl (fun K hK => ?_) (AllReadyH.cons (o := { dst := some 3, op := Go.Op.alloc 50, type := 0, pos := "law.go:27", after := #[], guard := none }) rfl (fun K hK => ?_) AllReadyH.nil))
          · go_simp
            refine hK.out _ _ ?_ (fun hHeld => ?_)
            · ((try dsimp only); (refine ⟨?_, ?_, ?_, ?_, ?_, ?_⟩ <;> go_keep))
            clear hK K
            try simp only [Act.put, List.setIfInBounds_toArray, List.set_cons_zero, List.set_cons_succ]
            refine take_first (i := 21) (oi := { dst := some 33, op := Go.Op.build 50 #[(1, Go.Operand.tmp 14), (2, Go.Operand.tmp 18), (3, Go.Operand.tmp 21), (4, Go.Operand.tmp 23), (8, Go.Operand.tmp 26), (9, Go.Operand.tmp 32)], type := 50, pos := "law.go:27", after := #[{ on := 2, ground := Go.Ground.data }, { on := 6, ground := Go.Ground.data }, { on := 9, ground := Go.Ground.data }, { on := 11, ground := Go.Ground.data }, { on := 14, ground := Go.Ground.data }, { on := 20, ground := Go.Ground.data }], guard := none }) (v := ?_) rfl (by kernel_rfl) (by kernel_rfl) (by kernel_rfl) (fun _ _ _ h => h) ⟨by rfl, fun w hSw => .inl ?_⟩ (by assumption) ?_
            rotate_left
            · ((try dsimp only at hSw); go_simp; (try with_reducible rfl))
            try simp only [Act.put, List.setIfInBounds_toArray, List.set_cons_zero, List.set_cons_succ]
            refine wpAnyH_ready (rs := [22]) (by kernel_rfl) (by simp) (AllReadyH.cons (o := { dst := some 3, op := Go.Op.alloc 50, type := 0, pos := "law.go:27", after := #[], guard := none }) rfl (fun K hK => ?_) AllReadyH.nil)
            go_simp
            refine hK.out _ _ ?_ (fun hHeld => ?_)
            · ((try dsimp only); (refine ⟨?_, ?_, ?_, ?_, ?_, ?_⟩ <;> go_keep))
            clear hK K
            try simp only [Act.put, List.setIfInBounds_toArray, List.set_cons_zero, List.set_cons_succ]
            refine wpAnyH_ready (rs := [23]) (by kernel_rfl) (by simp) (AllReadyH.cons (o := { dst := none, op := Go.Op.store 50 (Go.Operand.tmp 3) (Go.Operand.tmp 33), type := 0, pos := "law.go:27", after := #[{ on := 22, ground := Go.Ground.data }, { on := 21, ground := Go.Ground.data }, { on := 18, ground := Go.Ground.chain }, { on := 0, ground := Go.Ground.phase }, { on := 1, ground := Go.Ground.phase }, { on := 2, ground := Go.Ground.phase }, { on := 3, ground := Go.Ground.phase }, { on := 4, ground := Go.Ground.phase }, { on := 5, ground := Go.Ground.phase }, { on := 6, ground := Go.Ground.phase }, { on := 7, ground := Go.Ground.phase }, { on := 8, ground := Go.Ground.phase }, { on := 9, ground := Go.Ground.phase }, { on := 10, ground := Go.Ground.phase }, { on := 11, ground := Go.Ground.phase }, { on := 12, ground := Go.Ground.phase }, { on := 13, ground := Go.Ground.phase }, { on := 14, ground := Go.Ground.phase }, { on := 15, ground := Go.Ground.phase }, { on := 16, ground := Go.Ground.phase }, { on := 17, ground := Go.Ground.phase }, { on := 18, ground := Go.Ground.phase }, { on := 19, ground := Go.Ground.phase }, { on := 20, ground := Go.Ground.phase }, { on := 21, ground := Go.Ground.phase }, { on := 22, ground := Go.Ground.phase }], guard := none }) rfl (fun K hK => ?_) AllReadyH.nil)
            go_simp
            refine hK.out _ _ ?_ (fun hHeld => ?_)
            · ((try dsimp only); (refine ⟨?_, ?_, ?_, ?_, ?_, ?_⟩ <;> go_keep))
            clear hK K
            try simp only [Act.put, List.setIfInBounds_toArray, List.set_cons_zero, List.set_cons_succ]
            refine wpAnyH_done (by kernel_rfl) ?_ _
            go_wp2_with fail
            go_meet
            first | exact ⟨W.heap.size, _, _, _, _, _, rfl, hlt, Lib.hid ((HZ0.out.alloc _).alloc _).drew, Lib.hid ((((HK0.out.alloc _).alloc _)).drew), Lib.hid ((((HB0.out.alloc _).alloc _)).drew), Lib.hid (((Blk.new _ _ _).alloc _).drew)⟩ | exact ⟨W.heap.size + 1, _, _, _, _, _, rfl, by omega, Lib.hid ((HZ0.out.alloc _).alloc _).drew, Lib.hid ((((HK0.out.alloc _).alloc _)).drew), Lib.hid ((((HB0.out.alloc _).alloc _)).drew), Lib.hid (Blk.drew (Blk.new' (by simp)))⟩
          · go_simp
            refine hK.out _ _ ?_ (fun hHeld => ?_)
            · ((try dsimp only); (refine ⟨?_, ?_, ?_, ?_, ?_, ?_⟩ <;> go_keep))
            clear hK K
            try simp only [Act.put, List.setIfInBounds_toArray, List.set_cons_zero, List.set_cons_succ]
            refine wpAnyH_ready (rs := [20]) (by kernel_rfl) (by simp) (AllReadyH.cons (o := { dst := some 32, op := Go.Op.load 3 (Go.Operand.tmp 31), type := 3, pos := "law.go:27", after := #[{ on := 19, ground := Go.Ground.data }], guard := none }) rfl (fun K hK => ?_) AllReadyH.nil)
            go_simp
            refine hK.out _ _ ?_ (fun hHeld => ?_)
            · ((try dsimp only); (refine ⟨?_, ?_, ?_, ?_, ?_, ?_⟩ <;> go_keep))
            clear hK K
            try simp only [Act.put, List.setIfInBounds_toArray, List.set_cons_zero, List.set_cons_succ]
            refine take_first (i := 21) (oi := { dst := some 33, op := Go.Op.build 50 #[(1, Go.Operand.tmp 14), (2, Go.Operand.tmp 18), (3, Go.Operand.tmp 21), (4, Go.Operand.tmp 23), (8, Go.Operand.tmp 26), (9, Go.Operand.tmp 32)], type := 50, pos := "law.go:27", after := #[{ on := 2, ground := Go.Ground.data }, { on := 6, ground := Go.Ground.data }, { on := 9, ground := Go.Ground.data }, { on := 11, ground := Go.Ground.data }, { on := 14, ground := Go.Ground.data }, { on := 20, ground := Go.Ground.data }], guard := none }) (v := ?_) rfl (by kernel_rfl) (by kernel_rfl) (by kernel_rfl) (fun _ _ _ h => h) ⟨by rfl, fun w hSw => .inl ?_⟩ (by assumption) ?_
            rotate_left
            · ((try dsimp only at hSw); go_simp; (try with_reducible rfl))
            try simp only [Act.put, List.setIfInBounds_toArray, List.set_cons_zero, List.set_cons_succ]
            refine wpAnyH_ready (rs := [23]) (by kernel_rfl) (by simp) (AllReadyH.cons (o := { dst := none, op := Go.Op.store 50 (Go.Operand.tmp 3) (Go.Operand.tmp 33), type := 0, pos := "law.go:27", after := #[{ on := 22, ground := Go.Ground.data }, { on := 21, ground := Go.Ground.data }, { on := 18, ground := Go.Ground.chain }, { on := 0, ground := Go.Ground.phase }, { on := 1, ground := Go.Ground.phase }, { on := 2, ground := Go.Ground.phase }, { on := 3, ground := Go.Ground.phase }, { on := 4, ground := Go.Ground.phase }, { on := 5, ground := Go.Ground.phase }, { on := 6, ground := Go.Ground.phase }, { on := 7, ground := Go.Ground.phase }, { on := 8, ground := Go.Ground.phase }, { on := 9, ground := Go.Ground.phase }, { on := 10, ground := Go.Ground.phase }, { on := 11, ground := Go.Ground.phase }, { on := 12, ground := Go.Ground.phase }, { on := 13, ground := Go.Ground.phase }, { on := 14, ground := Go.Ground.phase }, { on := 15, ground := Go.Ground.phase }, { on := 16, ground := Go.Ground.phase }, { on := 17, ground := Go.Ground.phase }, { on := 18, ground := Go.Ground.phase }, { on := 19, ground := Go.Ground.phase }, { on := 20, ground := Go.Ground.phase }, { on := 21, ground := Go.Ground.phase }, { on := 22, ground := Go.Ground.phase }], guard := none }) rfl (fun K hK => ?_) AllReadyH.nil)
            go_simp
            refine hK.out _ _ ?_ (fun hHeld => ?_)
            · ((try dsimp only); (refine ⟨?_, ?_, ?_, ?_, ?_, ?_⟩ <;> go_keep))
            clear hK K
            try simp only [Act.put, List.setIfInBounds_toArray, List.set_cons_zero, List.set_cons_succ]
            refine wpAnyH_done (by kernel_rfl) ?_ _
            go_wp2_with fail
            go_meet
            first | exact ⟨W.heap.size, _, _, _, _, _, rfl, hlt, Lib.hid ((HZ0.out.alloc _).alloc _).drew, Lib.hid ((((HK0.out.alloc _).alloc _)).drew), Lib.hid ((((HB0.out.alloc _).alloc _)).drew), Lib.hid (((Blk.new _ _ _).alloc _).drew)⟩ | exact ⟨W.heap.size + 1, _, _, _, _, _, rfl, by omega, Lib.hid ((HZ0.out.alloc _).alloc _).drew, Lib.hid ((((HK0.out.alloc _).alloc _)).drew), Lib.hid ((((HB0.out.alloc _).alloc _)).drew), Lib.hid (Blk.drew (Blk.new' (by simp)))⟩
        · go_simp
          refine hK.out _ _ ?_ (fun hHeld => ?_)
          · ((try dsimp only); (refine ⟨?_, ?_, ?_, ?_, ?_, ?_⟩ <;> go_keep))
          clear hK K
          try simp only [Act.put, List.setIfInBounds_toArray, List.set_cons_zero, List.set_cons_succ]
          refine wpAnyH_ready (rs := [15]) (by kernel_rfl) (by simp) (AllReadyH.cons (o := { dst := some 27, op := Go.Op.buildSlice 82 5 #[(0, Go.Operand.const (Go.Value.int Go.IntKind.i64 0)), (1, Go.Operand.const (Go.Value.int Go.IntKind.i64 1)), (2, Go.Operand.const (Go.Value.int Go.IntKind.i64 2)), (3, Go.Operand.const (Go.Value.int Go.IntKind.i64 4)), (4, Go.Operand.const (Go.Value.int Go.IntKind.i64 32))], type := 82, pos := "law.go:27", after := #[], guard := none }) rfl (fun K hK => ?_) AllReadyH.nil)
          go_simp
          refine hK.out _ _ ?_ (fun hHeld => ?_)
          · ((try dsimp only); (refine ⟨?_, ?_, ?_, ?_, ?_, ?_⟩ <;> go_keep))
          clear hK K
          try simp only [Act.put, List.setIfInBounds_toArray, List.set_cons_zero, List.set_cons_succ]
          refine take_first (i := 19) (oi := { dst := some 31, op := Go.Op.indexAddr 82 (Go.Operand.tmp 27) (Go.Operand.tmp 30), type := 0, pos := "law.go:27", after := #[{ on := 15, ground := Go.Ground.data }, { on := 18, ground := Go.Ground.data }], guard := none }) (v := ?_) rfl (by kernel_rfl) (by kernel_rfl) (by kernel_rfl) (fun _ _ _ h => h) ⟨by rfl, fun w hSw => .inl ?_⟩ (by assumption) ?_
          rotate_left
          · ((try dsimp only at hSw); go_simp; (try with_reducible rfl))
          try simp only [Act.put, List.setIfInBounds_toArray, List.set_cons_zero, List.set_cons_succ]
          refine wpAnyH_ready (rs := [20]) (by kernel_rfl) (by simp) (AllReadyH.cons (o := { dst := some 32, op := Go.Op.load 3 (Go.Operand.tmp 31), type := 3, pos := "law.go:27", after := #[{ on := 19, ground := Go.Ground.data }], guard := none }) rfl (fun K hK => ?_) AllReadyH.nil)
          go_simp
          refine hK.out _ _ ?_ (fun hHeld => ?_)
          · ((try dsimp only); (refine ⟨?_, ?_, ?_, ?_, ?_, ?_⟩ <;> go_keep))
          clear hK K
          try simp only [Act.put, List.setIfInBounds_toArray, List.set_cons_zero, List.set_cons_succ]
          refine take_first (i := 21) (oi := { dst := some 33, op := Go.Op.build 50 #[(1, Go.Operand.tmp 14), (2, Go.Operand.tmp 18), (3, Go.Operand.tmp 21), (4, Go.Operand.tmp 23), (8, Go.Operand.tmp 26), (9, Go.Operand.tmp 32)], type := 50, pos := "law.go:27", after := #[{ on := 2, ground := Go.Ground.data }, { on := 6, ground := Go.Ground.data }, { on := 9, ground := Go.Ground.data }, { on := 11, ground := Go.Ground.data }, { on := 14, ground := Go.Ground.data }, { on := 20, ground := Go.Ground.data }], guard := none }) (v := ?_) rfl (by kernel_rfl) (by kernel_rfl) (by kernel_rfl) (fun _ _ _ h => h) ⟨by rfl, fun w hSw => .inl ?_⟩ (by assumption) ?_
          rotate_left
          · ((try dsimp only at hSw); go_simp; (try with_reducible rfl))
          try simp only [Act.put, List.setIfInBounds_toArray, List.set_cons_zero, List.set_cons_succ]
          refine wpAnyH_ready (rs := [23]) (by kernel_rfl) (by simp) (AllReadyH.cons (o := { dst := none, op := Go.Op.store 50 (Go.Operand.tmp 3) (Go.Operand.tmp 33), type := 0, pos := "law.go:27", after := #[{ on := 22, ground := Go.Ground.data }, { on := 21, ground := Go.Ground.data }, { on := 18, ground := Go.Ground.chain }, { on := 0, ground := Go.Ground.phase }, { on := 1, ground := Go.Ground.phase }, { on := 2, ground := Go.Ground.phase }, { on := 3, ground := Go.Ground.phase }, { on := 4, ground := Go.Ground.phase }, { on := 5, ground := Go.Ground.phase }, { on := 6, ground := Go.Ground.phase }, { on := 7, ground := Go.Ground.phase }, { on := 8, ground := Go.Ground.phase }, { on := 9, ground := Go.Ground.phase }, { on := 10, ground := Go.Ground.phase }, { on := 11, ground := Go.Ground.phase }, { on := 12, ground := Go.Ground.phase }, { on := 13, ground := Go.Ground.phase }, { on := 14, ground := Go.Ground.phase }, { on := 15, ground := Go.Ground.phase }, { on := 16, ground := Go.Ground.phase }, { on := 17, ground := Go.Ground.phase }, { on := 18, ground := Go.Ground.phase }, { on := 19, ground := Go.Ground.phase }, { on := 20, ground := Go.Ground.phase }, { on := 21, ground := Go.Ground.phase }, { on := 22, ground := Go.Ground.phase }], guard := none }) rfl (fun K hK => ?_) AllReadyH.nil)
          go_simp
          refine hK.out _ _ ?_ (fun hHeld => ?_)
          · ((try dsimp only); (refine ⟨?_, ?_, ?_, ?_, ?_, ?_⟩ <;> go_keep))
          clear hK K
          try simp only [Act.put, List.setIfInBounds_toArray, List.set_cons_zero, List.set_cons_succ]
          refine wpAnyH_done (by kernel_rfl) ?_ _
          go_wp2_with fail
          go_meet
          first | exact ⟨W.heap.size, _, _, _, _, _, rfl, hlt, Lib.hid ((HZ0.out.alloc _).alloc _).drew, Lib.hid ((((HK0.out.alloc _).alloc _)).drew), Lib.hid ((((HB0.out.alloc _).alloc _)).drew), Lib.hid (((Blk.new _ _ _).alloc _).drew)⟩ | exact ⟨W.heap.size + 1, _, _, _, _, _, rfl, by omega, Lib.hid ((HZ0.out.alloc _).alloc _).drew, Lib.hid ((((HK0.out.alloc _).alloc _)).drew), Lib.hid ((((HB0.out.alloc _).alloc _)).drew), Lib.hid (Blk.drew (Blk.new' (by simp)))⟩
      · refine take_first (i := 18) (oi := { dst := some 30, op := Go.Op.call { callee := Go.Callee.value (Go.Operand.func 9), args := #[Go.Operand.tmp 29, Go.Operand.const (Go.Value.int Go.IntKind.i64 5)], argTypes := #[3, 3] }, type := 3, pos := "law.go:27", after := #[{ on := 17, ground := Go.Ground.data }, { on := 14, ground := Go.Ground.chain }], guard := none }) (v := (.int .i64 4)) rfl (by kernel_rfl) (by kernel_rfl) (by kernel_rfl) (fun _ _ _ h => h) ⟨by rfl, fun w hSw => .inr ⟨9, #[.int .i64 f9, .int .i64 5], ?_, HM9.out w⟩⟩ (by assumption) ?_
        · first | rfl | go_simp | (go_simp; rfl)
        try simp only [Act.put, List.setIfInBounds_toArray, List.set_cons_zero, List.set_cons_succ]
        refine wpAnyH_ready (rs := [15, 22]) (by kernel_rfl) (by simp) (AllReadyH.cons (o := { dst := some 27, op := Go.Op.buildSlice 82 5 #[(0, Go.Operand.const (Go.Value.int Go.IntKind.i64 0)), (1, Go.Operand.const (Go.Value.int Go.IntKind.i64 1)), (2, Go.Operand.const (Go.Value.int Go.IntKind.i64 2)), (3, Go.Operand.const (Go.Value.int Go.IntKind.i64 4)), (4, Go.Operand.const (Go.Value.int Go.IntKind.i64 32))], type := 82, pos := "law.go:27", after := #[], guard := none }) rfl (fun K hK => ?_) (AllReadyH.cons (o := { dst := some 3, op := Go.Op.alloc 50, type := 0, pos := "law.go:27", after := #[], guard := none }) rfl (fun K hK => ?_) AllReadyH.nil))
        · go_simp
          refine hK.out _ _ ?_ (fun hHeld => ?_)
          · ((try dsimp only); (refine ⟨?_, ?_, ?_, ?_, ?_, ?_⟩ <;> go_keep))
          clear hK K
          try simp only [Act.put, List.setIfInBounds_toArray, List.set_cons_zero, List.set_cons_succ]
          refine take_first (i := 19) (oi := { dst := some 31, op := Go.Op.indexAddr 82 (Go.Operand.tmp 27) (Go.Operand.tmp 30), type := 0, pos := "law.go:27", after := #[{ on := 15, ground := Go.Ground.data }, { on := 18, ground := Go.Ground.data }], guard := none }) (v := ?_) rfl (by kernel_rfl) (by kernel_rfl) (by kernel_rfl) (fun _ _ _ h => h) ⟨by rfl, fun w hSw => .inl ?_⟩ (by assumption) ?_
          rotate_left
          · ((try dsimp only at hSw); go_simp; (try with_reducible rfl))
          try simp only [Act.put, List.setIfInBounds_toArray, List.set_cons_zero, List.set_cons_succ]
          refine wpAnyH_ready (rs := [20, 22]) (by kernel_rfl) (by simp) (AllReadyH.cons (o := { dst := some 32, op := Go.Op.load 3 (Go.Operand.tmp 31), type := 3, pos := "law.go:27", after := #[{ on := 19, ground := Go.Ground.data }], guard := none }) rfl (fun K hK => ?_) (AllReadyH.cons (o := { dst := some 3, op := Go.Op.alloc 50, type := 0, pos := "law.go:27", after := #[], guard := none }) rfl (fun K hK => ?_) AllReadyH.nil))
          · go_simp
            refine hK.out _ _ ?_ (fun hHeld => ?_)
            · ((try dsimp only); (refine ⟨?_, ?_, ?_, ?_, ?_, ?_⟩ <;> go_keep))
            clear hK K
            try simp only [Act.put, List.setIfInBounds_toArray, List.set_cons_zero, List.set_cons_succ]
            refine take_first (i := 21) (oi := { dst := some 33, op := Go.Op.build 50 #[(1, Go.Operand.tmp 14), (2, Go.Operand.tmp 18), (3, Go.Operand.tmp 21), (4, Go.Operand.tmp 23), (8, Go.Operand.tmp 26), (9, Go.Operand.tmp 32)], type := 50, pos := "law.go:27", after := #[{ on := 2, ground := Go.Ground.data }, { on := 6, ground := Go.Ground.data }, { on := 9, ground := Go.Ground.data }, { on := 11, ground := Go.Ground.data }, { on := 14, ground := Go.Ground.data }, { on := 20, ground := Go.Ground.data }], guard := none }) (v := ?_) rfl (by kernel_rfl) (by kernel_rfl) (by kernel_rfl) (fun _ _ _ h => h) ⟨by rfl, fun w hSw => .inl ?_⟩ (by assumption) ?_
            rotate_left
            · ((try dsimp only at hSw); go_simp; (try with_reducible rfl))
            try simp only [Act.put, List.setIfInBounds_toArray, List.set_cons_zero, List.set_cons_succ]
            refine wpAnyH_ready (rs := [22]) (by kernel_rfl) (by simp) (AllReadyH.cons (o := { dst := some 3, op := Go.Op.alloc 50, type := 0, pos := "law.go:27", after := #[], guard := none }) rfl (fun K hK => ?_) AllReadyH.nil)
            go_simp
            refine hK.out _ _ ?_ (fun hHeld => ?_)
            · ((try dsimp only); (refine ⟨?_, ?_, ?_, ?_, ?_, ?_⟩ <;> go_keep))
            clear hK K
            try simp only [Act.put, List.setIfInBounds_toArray, List.set_cons_zero, List.set_cons_succ]
            refine wpAnyH_ready (rs := [23]) (by kernel_rfl) (by simp) (AllReadyH.cons (o := { dst := none, op := Go.Op.store 50 (Go.Operand.tmp 3) (Go.Operand.tmp 33), type := 0, pos := "law.go:27", after := #[{ on := 22, ground := Go.Ground.data }, { on := 21, ground := Go.Ground.data }, { on := 18, ground := Go.Ground.chain }, { on := 0, ground := Go.Ground.phase }, { on := 1, ground := Go.Ground.phase }, { on := 2, ground := Go.Ground.phase }, { on := 3, ground := Go.Ground.phase }, { on := 4, ground := Go.Ground.phase }, { on := 5, ground := Go.Ground.phase }, { on := 6, ground := Go.Ground.phase }, { on := 7, ground := Go.Ground.phase }, { on := 8, ground := Go.Ground.phase }, { on := 9, ground := Go.Ground.phase }, { on := 10, ground := Go.Ground.phase }, { on := 11, ground := Go.Ground.phase }, { on := 12, ground := Go.Ground.phase }, { on := 13, ground := Go.Ground.phase }, { on := 14, ground := Go.Ground.phase }, { on := 15, ground := Go.Ground.phase }, { on := 16, ground := Go.Ground.phase }, { on := 17, ground := Go.Ground.phase }, { on := 18, ground := Go.Ground.phase }, { on := 19, ground := Go.Ground.phase }, { on := 20, ground := Go.Ground.phase }, { on := 21, ground := Go.Ground.phase }, { on := 22, ground := Go.Ground.phase }], guard := none }) rfl (fun K hK => ?_) AllReadyH.nil)
            go_simp
            refine hK.out _ _ ?_ (fun hHeld => ?_)
            · ((try dsimp only); (refine ⟨?_, ?_, ?_, ?_, ?_, ?_⟩ <;> go_keep))
            clear hK K
            try simp only [Act.put, List.setIfInBounds_toArray, List.set_cons_zero, List.set_cons_succ]
            refine wpAnyH_done (by kernel_rfl) ?_ _
            go_wp2_with fail
            go_meet
            first | exact ⟨W.heap.size, _, _, _, _, _, rfl, hlt, Lib.hid ((HZ0.out.alloc _).alloc _).drew, Lib.hid ((((HK0.out.alloc _).alloc _)).drew), Lib.hid ((((HB0.out.alloc _).alloc _)).drew), Lib.hid (((Blk.new _ _ _).alloc _).drew)⟩ | exact ⟨W.heap.size + 1, _, _, _, _, _, rfl, by omega, Lib.hid ((HZ0.out.alloc _).alloc _).drew, Lib.hid ((((HK0.out.alloc _).alloc _)).drew), Lib.hid ((((HB0.out.alloc _).alloc _)).drew), Lib.hid (Blk.drew (Blk.new' (by simp)))⟩
          · go_simp
            refine hK.out _ _ ?_ (fun hHeld => ?_)
            · ((try dsimp only); (refine ⟨?_, ?_, ?_, ?_, ?_, ?_⟩ <;> go_keep))
            clear hK K
            try simp only [Act.put, List.setIfInBounds_toArray, List.set_cons_zero, List.set_cons_succ]
            refine wpAnyH_ready (rs := [20]) (by kernel_rfl) (by simp) (AllReadyH.cons (o := { dst := some 32, op := Go.Op.load 3 (Go.Operand.tmp 31), type := 3, pos := "law.go:27", after := #[{ on := 19, ground := Go.Ground.data }], guard := none }) rfl (fun K hK => ?_) AllReadyH.nil)
            go_simp
            refine hK.out _ _ ?_ (fun hHeld => ?_)
            · ((try dsimp only); (refine ⟨?_, ?_, ?_, ?_, ?_, ?_⟩ <;> go_keep))
            clear hK K
            try simp only [Act.put, List.setIfInBounds_toArray, List.set_cons_zero, List.set_cons_succ]
            refine take_first (i := 21) (oi := { dst := some 33, op := Go.Op.build 50 #[(1, Go.Operand.tmp 14), (2, Go.Operand.tmp 18), (3, Go.Operand.tmp 21), (4, Go.Operand.tmp 23), (8, Go.Operand.tmp 26), (9, Go.Operand.tmp 32)], type := 50, pos := "law.go:27", after := #[{ on := 2, ground := Go.Ground.data }, { on := 6, ground := Go.Ground.data }, { on := 9, ground := Go.Ground.data }, { on := 11, ground := Go.Ground.data }, { on := 14, ground := Go.Ground.data }, { on := 20, ground := Go.Ground.data }], guard := none }) (v := ?_) rfl (by kernel_rfl) (by kernel_rfl) (by kernel_rfl) (fun _ _ _ h => h) ⟨by rfl, fun w hSw => .inl ?_⟩ (by assumption) ?_
            rotate_left
            · ((try dsimp only at hSw); go_simp; (try with_reducible rfl))
            try simp only [Act.put, List.setIfInBounds_toArray, List.set_cons_zero, List.set_cons_succ]
            refine wpAnyH_ready (rs := [23]) (by kernel_rfl) (by simp) (AllReadyH.cons (o := { dst := none, op := Go.Op.store 50 (Go.Operand.tmp 3) (Go.Operand.tmp 33), type := 0, pos := "law.go:27", after := #[{ on := 22, ground := Go.Ground.data }, { on := 21, ground := Go.Ground.data }, { on := 18, ground := Go.Ground.chain }, { on := 0, ground := Go.Ground.phase }, { on := 1, ground := Go.Ground.phase }, { on := 2, ground := Go.Ground.phase }, { on := 3, ground := Go.Ground.phase }, { on := 4, ground := Go.Ground.phase }, { on := 5, ground := Go.Ground.phase }, { on := 6, ground := Go.Ground.phase }, { on := 7, ground := Go.Ground.phase }, { on := 8, ground := Go.Ground.phase }, { on := 9, ground := Go.Ground.phase }, { on := 10, ground := Go.Ground.phase }, { on := 11, ground := Go.Ground.phase }, { on := 12, ground := Go.Ground.phase }, { on := 13, ground := Go.Ground.phase }, { on := 14, ground := Go.Ground.phase }, { on := 15, ground := Go.Ground.phase }, { on := 16, ground := Go.Ground.phase }, { on := 17, ground := Go.Ground.phase }, { on := 18, ground := Go.Ground.phase }, { on := 19, ground := Go.Ground.phase }, { on := 20, ground := Go.Ground.phase }, { on := 21, ground := Go.Ground.phase }, { on := 22, ground := Go.Ground.phase }], guard := none }) rfl (fun K hK => ?_) AllReadyH.nil)
            go_simp
            refine hK.out _ _ ?_ (fun hHeld => ?_)
            · ((try dsimp only); (refine ⟨?_, ?_, ?_, ?_, ?_, ?_⟩ <;> go_keep))
            clear hK K
            try simp only [Act.put, List.setIfInBounds_toArray, List.set_cons_zero, List.set_cons_succ]
            refine wpAnyH_done (by kernel_rfl) ?_ _
            go_wp2_with fail
            go_meet
            first | exact ⟨W.heap.size, _, _, _, _, _, rfl, hlt, Lib.hid ((HZ0.out.alloc _).alloc _).drew, Lib.hid ((((HK0.out.alloc _).alloc _)).drew), Lib.hid ((((HB0.out.alloc _).alloc _)).drew), Lib.hid (((Blk.new _ _ _).alloc _).drew)⟩ | exact ⟨W.heap.size + 1, _, _, _, _, _, rfl, by omega, Lib.hid ((HZ0.out.alloc _).alloc _).drew, Lib.hid ((((HK0.out.alloc _).alloc _)).drew), Lib.hid ((((HB0.out.alloc _).alloc _)).drew), Lib.hid (Blk.drew (Blk.new' (by simp)))⟩
        · go_simp
          refine hK.out _ _ ?_ (fun hHeld => ?_)
          · ((try dsimp only); (refine ⟨?_, ?_, ?_, ?_, ?_, ?_⟩ <;> go_keep))
          clear hK K
          try simp only [Act.put, List.setIfInBounds_toArray, List.set_cons_zero, List.set_cons_succ]
          refine wpAnyH_ready (rs := [15]) (by kernel_rfl) (by simp) (AllReadyH.cons (o := { dst := some 27, op := Go.Op.buildSlice 82 5 #[(0, Go.Operand.const (Go.Value.int Go.IntKind.i64 0)), (1, Go.Operand.const (Go.Value.int Go.IntKind.i64 1)), (2, Go.Operand.const (Go.Value.int Go.IntKind.i64 2)), (3, Go.Operand.const (Go.Value.int Go.IntKind.i64 4)), (4, Go.Operand.const (Go.Value.int Go.IntKind.i64 32))], type := 82, pos := "law.go:27", after := #[], guard := none }) rfl (fun K hK => ?_) AllReadyH.nil)
          go_simp
          refine hK.out _ _ ?_ (fun hHeld => ?_)
          · ((try dsimp only); (refine ⟨?_, ?_, ?_, ?_, ?_, ?_⟩ <;> go_keep))
          clear hK K
          try simp only [Act.put, List.setIfInBounds_toArray, List.set_cons_zero, List.set_cons_succ]
          refine take_first (i := 19) (oi := { dst := some 31, op := Go.Op.indexAddr 82 (Go.Operand.tmp 27) (Go.Operand.tmp 30), type := 0, pos := "law.go:27", after := #[{ on := 15, ground := Go.Ground.data }, { on := 18, ground := Go.Ground.data }], guard := none }) (v := ?_) rfl (by kernel_rfl) (by kernel_rfl) (by kernel_rfl) (fun _ _ _ h => h) ⟨by rfl, fun w hSw => .inl ?_⟩ (by assumption) ?_
          rotate_left
          · ((try dsimp only at hSw); go_simp; (try with_reducible rfl))
          try simp only [Act.put, List.setIfInBounds_toArray, List.set_cons_zero, List.set_cons_succ]
          refine wpAnyH_ready (rs := [20]) (by kernel_rfl) (by simp) (AllReadyH.cons (o := { dst := some 32, op := Go.Op.load 3 (Go.Operand.tmp 31), type := 3, pos := "law.go:27", after := #[{ on := 19, ground := Go.Ground.data }], guard := none }) rfl (fun K hK => ?_) AllReadyH.nil)
          go_simp
          refine hK.out _ _ ?_ (fun hHeld => ?_)
          · ((try dsimp only); (refine ⟨?_, ?_, ?_, ?_, ?_, ?_⟩ <;> go_keep))
          clear hK K
          try simp only [Act.put, List.setIfInBounds_toArray, List.set_cons_zero, List.set_cons_succ]
          refine take_first (i := 21) (oi := { dst := some 33, op := Go.Op.build 50 #[(1, Go.Operand.tmp 14), (2, Go.Operand.tmp 18), (3, Go.Operand.tmp 21), (4, Go.Operand.tmp 23), (8, Go.Operand.tmp 26), (9, Go.Operand.tmp 32)], type := 50, pos := "law.go:27", after := #[{ on := 2, ground := Go.Ground.data }, { on := 6, ground := Go.Ground.data }, { on := 9, ground := Go.Ground.data }, { on := 11, ground := Go.Ground.data }, { on := 14, ground := Go.Ground.data }, { on := 20, ground := Go.Ground.data }], guard := none }) (v := ?_) rfl (by kernel_rfl) (by kernel_rfl) (by kernel_rfl) (fun _ _ _ h => h) ⟨by rfl, fun w hSw => .inl ?_⟩ (by assumption) ?_
          rotate_left
          · ((try dsimp only at hSw); go_simp; (try with_reducible rfl))
          try simp only [Act.put, List.setIfInBounds_toArray, List.set_cons_zero, List.set_cons_succ]
          refine wpAnyH_ready (rs := [23]) (by kernel_rfl) (by simp) (AllReadyH.cons (o := { dst := none, op := Go.Op.store 50 (Go.Operand.tmp 3) (Go.Operand.tmp 33), type := 0, pos := "law.go:27", after := #[{ on := 22, ground := Go.Ground.data }, { on := 21, ground := Go.Ground.data }, { on := 18, ground := Go.Ground.chain }, { on := 0, ground := Go.Ground.phase }, { on := 1, ground := Go.Ground.phase }, { on := 2, ground := Go.Ground.phase }, { on := 3, ground := Go.Ground.phase }, { on := 4, ground := Go.Ground.phase }, { on := 5, ground := Go.Ground.phase }, { on := 6, ground := Go.Ground.phase }, { on := 7, ground := Go.Ground.phase }, { on := 8, ground := Go.Ground.phase }, { on := 9, ground := Go.Ground.phase }, { on := 10, ground := Go.Ground.phase }, { on := 11, ground := Go.Ground.phase }, { on := 12, ground := Go.Ground.phase }, { on := 13, ground := Go.Ground.phase }, { on := 14, ground := Go.Ground.phase }, { on := 15, ground := Go.Ground.phase }, { on := 16, ground := Go.Ground.phase }, { on := 17, ground := Go.Ground.phase }, { on := 18, ground := Go.Ground.phase }, { on := 19, ground := Go.Ground.phase }, { on := 20, ground := Go.Ground.phase }, { on := 21, ground := Go.Ground.phase }, { on := 22, ground := Go.Ground.phase }], guard := none }) rfl (fun K hK => ?_) AllReadyH.nil)
          go_simp
          refine hK.out _ _ ?_ (fun hHeld => ?_)
          · ((try dsimp only); (refine ⟨?_, ?_, ?_, ?_, ?_, ?_⟩ <;> go_keep))
          clear hK K
          try simp only [Act.put, List.setIfInBounds_toArray, List.set_cons_zero, List.set_cons_succ]
          refine wpAnyH_done (by kernel_rfl) ?_ _
          go_wp2_with fail
          go_meet
          first | exact ⟨W.heap.size, _, _, _, _, _, rfl, hlt, Lib.hid ((HZ0.out.alloc _).alloc _).drew, Lib.hid ((((HK0.out.alloc _).alloc _)).drew), Lib.hid ((((HB0.out.alloc _).alloc _)).drew), Lib.hid (((Blk.new _ _ _).alloc _).drew)⟩ | exact ⟨W.heap.size + 1, _, _, _, _, _, rfl, by omega, Lib.hid ((HZ0.out.alloc _).alloc _).drew, Lib.hid ((((HK0.out.alloc _).alloc _)).drew), Lib.hid ((((HB0.out.alloc _).alloc _)).drew), Lib.hid (Blk.drew (Blk.new' (by simp)))⟩
    case rest =>
      obtain ⟨g, p1, p2, p3, p8, p9, rfl, hag, HZ, HK, HB, HG⟩ := hcut
      clear HZ0 HK0 HB0 c1 c2 c3 c4 c8 c9 HM9 HW hw HQ
      have c4 := blk_c HB.out 4 _ rfl
      have c5 := blk_c HB.out 5 _ rfl
      have c6 := blk_c HB.out 6 _ rfl
      have c7 := blk_c HB.out 7 _ rfl
      have e5 := blk_c HG.out 5 _ rfl
      have e6 := blk_c HG.out 6 _ rfl
      have e7 := blk_c HG.out 7 _ rfl
      have fr5 := HG.out.free 5
      have fr6 := HG.out.free 6
      have fr7 := HG.out.free 7
      have hne : a ≠ g := by omega
      have hne' : g ≠ a := by omega
      have K5 : ∀ (W1 : World) (x y : Value), Keep (My.One g) W1 ((W1.setCell ⟨g, 5, none⟩ x).setCell ⟨g, 6, none⟩ y) := fun W1 x y => ((Keep.refl _ _).setOne 5 x).setOne 6 y
      have K6 : ∀ (W1 : World) (x y : Value), Keep (My.One g) W1 ((W1.setCell ⟨g, 6, none⟩ y).setCell ⟨g, 5, none⟩ x) := fun W1 x y => ((Keep.refl _ _).setOne 6 y).setOne 5 x
      have HK5 := Lib.hid K5
      have HK6 := Lib.hid K6
      clear K5 K6
      have hwg : w.heap.size < g := by have := HA.out; omega
      go_upto_if 35 with fail
      go_cut [] (fun wx => ∃ (p5 p6 : Bool) (p7 : Int), Hid (Blk wx (a + 1) #[Value.int IntKind.i64 0, Value.int IntKind.i64 0, Value.int IntKind.i64 0, Value.int IntKind.i64 0, Value.bool false, Value.bool false, Value.bool false, Value.int IntKind.i64 0, Value.int IntKind.i64 0, Value.int IntKind.i64 0, Value.slice none 0 0] 50) ∧ Hid (Keep Non w wx) ∧ Hid (Blk wx a #[Value.int IntKind.i64 f0, Value.int IntKind.i64 f1, Value.int IntKind.i64 f2, Value.int IntKind.i64 f3, Value.bool f4, Value.bool f5, Value.bool f6, Value.int IntKind.i64 f7, Value.int IntKind.i64 f8, Value.int IntKind.i64 f9, .slice A bs.length c] 50) ∧ Hid (Blk wx g #[.int .i64 0, .int .i64 p1, .int .i64 p2, .int .i64 p3, .bool f4, .bool p5, .bool p6, .int .i64 p7, .int .i64 p8, .int .i64 p9, .slice none 0 0] 50))
      case first =>
        cases f4
        · go_wp2_with fail
          go_meet
          exact ⟨false, false, 0, HZ.out, HK.out, HB.out, HG.out⟩
        · cases f6
          · go_wp2_with fail
            go_region
            all_goals
              go_wp2_with fail
              go_meet
              first
              | exact ⟨f5, false, 0, Lib.hid (HZ.out.keep (HK5.out _ _ _).drew (fun e => by simp only [My.One] at e; omega)), Lib.hid (HK.out.trans (HK5.out _ _ _).drew (fun q hq e => by simp only [My.One] at e; omega)), Lib.hid (HB.out.keep (HK5.out _ _ _).drew (fun e => hne e)), Lib.hid ((HG.out.set' (i := 5) rfl).set' (i := 6) rfl)⟩
              | exact ⟨f5, false, 0, Lib.hid (HZ.out.keep (HK6.out _ _ _).drew (fun e => by simp only [My.One] at e; omega)), Lib.hid (HK.out.trans (HK6.out _ _ _).drew (fun q hq e => by simp only [My.One] at e; omega)), Lib.hid (HB.out.keep (HK6.out _ _ _).drew (fun e => hne e)), Lib.hid ((HG.out.set' (i := 6) rfl).set' (i := 5) rfl)⟩
          · go_wp2_with fail
            go_region
            all_goals
              go_wp2_with fail
              refine (HMOD.out _ _ _ (by omega) (by omega)).mono ?_
              rintro e w' ⟨rfl, rfl⟩
              go_wp2_with fail
              go_meet
              first
              | exact ⟨f5, true, _, Lib.hid (HZ.out.keep ((HK5.out _ _ _).setOne 7 _).drew (fun e => by simp only [My.One] at e; omega)), Lib.hid (HK.out.trans ((HK5.out _ _ _).setOne 7 _).drew (fun q hq e => by simp only [My.One] at e; omega)), Lib.hid (HB.out.keep ((HK5.out _ _ _).setOne 7 _).drew (fun e => hne e)), Lib.hid (((HG.out.set' (i := 5) rfl).set' (i := 6) rfl).set' (i := 7) rfl)⟩
              | exact ⟨f5, true, _, Lib.hid (HZ.out.keep ((HK6.out _ _ _).setOne 7 _).drew (fun e => by simp only [My.One] at e; omega)), Lib.hid (HK.out.trans ((HK6.out _ _ _).setOne 7 _).drew (fun q hq e => by simp only [My.One] at e; omega)), Lib.hid (HB.out.keep ((HK6.out _ _ _).setOne 7 _).drew (fun e => hne e)), Lib.hid (((HG.out.set' (i := 6) rfl).set' (i := 5) rfl).set' (i := 7) rfl)⟩
      case rest =>
        clear c4 c5 c6 c7 e5 e6 e7 fr5 fr6 fr7 HK HB HG HZ HK5 HK6
        obtain ⟨p5, p6, p7, HZ, HK, HB, HG⟩ := hcut
        have HS0 : Hid (SSt w a g #[Value.int IntKind.i64 f0, Value.int IntKind.i64 f1, Value.int IntKind.i64 f2, Value.int IntKind.i64 f3, Value.bool f4, Value.bool f5, Value.bool f6, Value.int IntKind.i64 f7, Value.int IntKind.i64 f8, Value.int IntKind.i64 f9, .slice A bs.length c] #[Value.int IntKind.i64 0, Value.int IntKind.i64 0, Value.int IntKind.i64 0, Value.int IntKind.i64 0, Value.bool false, Value.bool false, Value.bool false, Value.int IntKind.i64 0, Value.int IntKind.i64 0, Value.int IntKind.i64 0, Value.slice none 0 0] ⟨0, p1, p2, p3, f4, p5, p6, p7, p8, p9⟩ none 0 0 [] wc) :=
          ⟨HK.out, HB.out, HZ.out, HG.out, ⟨rfl, .inl ⟨rfl, rfl⟩⟩, rfl, by have := HA.out; omega, hag⟩
        clear HZ HK HB HG
        have HRG : Hid (∀ (v : Value) w, Calls Tryd.prog 33 #[.agg #[.int .i64 0, .int .i64 p1, .int .i64 p2, .int .i64 p3, .bool f4, .bool p5, .bool p6, .int .i64 p7, .int .i64 p8, .int .i64 p9, v]] w fun e w' => e = .returned (.int .i64 (cntB f4)) ∧ Keep Non w w') := fun v w => registers_any ⟨0, p1, p2, p3, f4, p5, p6, p7, p8, p9⟩ v w
        have hcb : cntB f4 = 2 ∨ cntB f4 = 6 := by cases f4 <;> simp [cntB]
        generalize cntB f4 = cnt at *
        have HXw := Lib.hid (show RowE encB 2 O w (.slice A bs.length c) bs from HX.out)
        go_wp2_with fail
        go_loopw [4] (fun i wr => ∃ (k : Nat) (A1 : Option Addr) (n1 c1 : Nat) (bs1 : List Br), i = .int .i64 k ∧ k ≤ bs.length ∧ n1 ≤ 7 ∧ Hid (SSt w a g #[Value.int IntKind.i64 f0, Value.int IntKind.i64 f1, Value.int IntKind.i64 f2, Value.int IntKind.i64 f3, Value.bool f4, Value.bool f5, Value.bool f6, Value.int IntKind.i64 f7, Value.int IntKind.i64 f8, Value.int IntKind.i64 f9, .slice A bs.length c] #[Value.int IntKind.i64 0, Value.int IntKind.i64 0, Value.int IntKind.i64 0, Value.int IntKind.i64 0, Value.bool false, Value.bool false, Value.bool false, Value.int IntKind.i64 0, Value.int IntKind.i64 0, Value.int IntKind.i64 0, Value.slice none 0 0] ⟨0, p1, p2, p3, f4, p5, p6, p7, p8, p9⟩ A1 n1 c1 bs1 wr)) (fun i _ => bs.length - (intOf i).toNat)
        case atStart => exact ⟨0, none, 0, 0, [], rfl, Nat.zero_le _, by omega, HS0.out⟩
        case round =>
          obtain ⟨k, A1, n1, c1, bs1, rfl, hk, hn1, HS⟩ := hrel
          have c10 := blk_c HS.out.b 10 _ rfl
          obtain ⟨e0, e1, e2, e3, e4, e5, e6, e7, e8, e9, e10⟩ := f_cells HS.out.gg
          simp only at e0 e1 e2 e3 e4 e5 e6 e7 e8 e9
          have fin : Hid (∀ wx, SSt w a g #[Value.int IntKind.i64 f0, Value.int IntKind.i64 f1, Value.int IntKind.i64 f2, Value.int IntKind.i64 f3, Value.bool f4, Value.bool f5, Value.bool f6, Value.int IntKind.i64 f7, Value.int IntKind.i64 f8, Value.int IntKind.i64 f9, .slice A bs.length c] #[Value.int IntKind.i64 0, Value.int IntKind.i64 0, Value.int IntKind.i64 0, Value.int IntKind.i64 0, Value.bool false, Value.bool false, Value.bool false, Value.int IntKind.i64 0, Value.int IntKind.i64 0, Value.int IntKind.i64 0, Value.slice none 0 0] ⟨0, p1, p2, p3, f4, p5, p6, p7, p8, p9⟩ A1 n1 c1 bs1 wx → True) := fun _ _ => trivial
          clear fin
          go_upto_region 9 with fail
          go_cut [60] (fun s wx => s = .bool (decide (k < bs.length) && decide ((n1 : Int) < cnt)) ∧ Hid (SSt w a g #[Value.int IntKind.i64 f0, Value.int IntKind.i64 f1, Value.int IntKind.i64 f2, Value.int IntKind.i64 f3, Value.bool f4, Value.bool f5, Value.bool f6, Value.int IntKind.i64 f7, Value.int IntKind.i64 f8, Value.int IntKind.i64 f9, .slice A bs.length c] #[Value.int IntKind.i64 0, Value.int IntKind.i64 0, Value.int IntKind.i64 0, Value.int IntKind.i64 0, Value.bool false, Value.bool false, Value.bool false, Value.int IntKind.i64 0, Value.int IntKind.i64 0, Value.int IntKind.i64 0, Value.slice none 0 0] ⟨0, p1, p2, p3, f4, p5, p6, p7, p8, p9⟩ A1 n1 c1 bs1 wx))
          case first =>
            by_cases hlt : k < bs.length
            · go_region_with (go_at_call 33; refine (HRG.out _ _).mono ?_; rintro e z1 ⟨rfl, hk0⟩; have HS1 := Lib.hid (HS.out.drew.keep hk0); have e10z : z1.cell? ⟨g, 10, none⟩ = some (.slice A1 n1 c1) := (HS1.out.gg.cell 10).trans rfl; clear hk0)
              all_goals
                go_wp2_with fail
                go_meet
                exact ⟨by simp [hlt], HS1.out⟩
            · go_quiet (fail)
              go_wp2_with fail
              go_meet
              exact ⟨by simp [hlt], HS.out.keep (Keep.drewN (Keep.refl _ _) _)⟩
          case rest =>
            clear c10 e10 e0 e1 e2 e3 e4 e5 e6 e7 e8 e9 HS
            obtain ⟨rfl, HS⟩ := hcut
            by_cases hgo : k < bs.length ∧ (n1 : Int) < cnt
            · have hd : (decide (k < bs.length) && decide ((n1 : Int) < cnt)) = true := by simp [hgo]
              rw [hd]
              obtain ⟨hlt, hnc⟩ := hgo
              clear hd
              obtain ⟨bb, off, rfl, hO, q0, q1⟩ := bars_get HXw.out hlt
              have c0 := HS.out.k.cell' q0 (fun h => h)
              have c1' := HS.out.k.cell' q1 (fun h => h)
              generalize at1 _ bs k = x at *
              obtain ⟨xk, xs⟩ := x
              simp only at c0 c1'
              clear q0 q1
              have c10 := blk_c HS.out.b 10 _ rfl
              go_wp2_with fail
              refine (HMOD.out _ _ _ (by omega) (by omega)).mono ?_
              rintro e w' ⟨rfl, rfl⟩
              have hmk := md_range xk 5 (by omega)
              generalize md xk 5 = kk at *
              go_wp2_with fail
              refine (HMOD.out _ _ _ (by omega) (by omega)).mono ?_
              rintro e w' ⟨rfl, rfl⟩
              have hms := md_range xs 48 (by omega)
              generalize md xs 48 = nn at *
              clear c0 c1'
              go_upto_block 2 with fail
              go_cut [6] (fun s wx => (∃ n' : Int, s = .int .i64 n') ∧ (3 ≤ kk → (n1 : Int) + 2 ≤ cnt) ∧ Hid (SSt w a g #[Value.int IntKind.i64 f0, Value.int IntKind.i64 f1, Value.int IntKind.i64 f2, Value.int IntKind.i64 f3, Value.bool f4, Value.bool f5, Value.bool f6, Value.int IntKind.i64 f7, Value.int IntKind.i64 f8, Value.int IntKind.i64 f9, .slice (some ⟨bb, off, none⟩) bs.length c] #[Value.int IntKind.i64 0, Value.int IntKind.i64 0, Value.int IntKind.i64 0, Value.int IntKind.i64 0, Value.bool false, Value.bool false, Value.bool false, Value.int IntKind.i64 0, Value.int IntKind.i64 0, Value.int IntKind.i64 0, Value.slice none 0 0] ⟨0, p1, p2, p3, f4, p5, p6, p7, p8, p9⟩ A1 n1 c1 bs1 wx))
              case first =>
                obtain ⟨e0, e1, e2, e3, e4, e5, e6, e7, e8, e9, e10⟩ := f_cells HS.out.gg
                simp only at e0 e1 e2 e3 e4 e5 e6 e7 e8 e9
                rcases (by omega : kk = 0 ∨ kk = 1 ∨ kk = 2 ∨ kk = 3 ∨ kk = 4) with rfl | rfl | rfl | rfl | rfl
                · go_wp2_with fail
                  go_meet
                  exact ⟨⟨_, rfl⟩, fun h => by omega, HS.out⟩
                · go_wp2_with fail
                  go_meet
                  exact ⟨⟨_, rfl⟩, fun h => by omega, HS.out⟩
                · go_wp2_with fail
                  go_meet
                  exact ⟨⟨_, rfl⟩, fun h => by omega, HS.out⟩
                all_goals
                  go_wp2_with fail
                  have hws : IntKind.i64.wrap ((n1 : Int) + 2) = (n1 : Int) + 2 := IntWalk.i64_in _ (by omega)
                  go_region_with (go_at_call 33; refine (HRG.out _ _).mono ?_; rintro e z1 ⟨rfl, hk0⟩; have HS1 := Lib.hid (HS.out.drew.keep hk0); have e10z : z1.cell? ⟨g, 10, none⟩ = some (.slice A1 n1 c1) := (HS1.out.gg.cell 10).trans rfl; clear hk0)
                  all_goals
                    clear hws
                    by_cases h2 : cnt < (n1 : Int) + 2
                    · go_wp2_with fail
                      exact ⟨⟨k + 1, _, _, _, _, by go_num, by omega, by omega, HS1.out⟩, by simp [intOf]; omega⟩
                    · go_wp2_with fail
                      go_meet
                      exact ⟨⟨_, rfl⟩, fun h => by omega, HS1.out⟩
              case rest =>
                clear HS c10
                obtain ⟨⟨n', rfl⟩, h2, HS⟩ := hcut
                obtain rfl : bs1.length = n1 := HS.out.len
                have e10 : wc.cell? ⟨g, 10, none⟩ = some (.slice A1 bs1.length c1) := (HS.out.gg.cell 10).trans rfl
                have HSa := Lib.hid (HS.out.alloc (.cells #[.int .i64 kk, .int .i64 n'] 67))
                have HRd : Hid (Reads (wc.alloc (.cells #[.int .i64 kk, .int .i64 n'] 67)) (wc.heap.size + 1) 2 (some ⟨wc.heap.size, 0, none⟩) 1 (encB ⟨kk, n'⟩)) := reads_new wc kk n'
                have hgs : g + 1 ≤ wc.heap.size := HS.out.gg.lt
                by_cases h3 : 3 ≤ kk
                · have h2' := h2 h3
                  clear h2
                  go_upto_region 21 with fail
                  go_cut [] (fun wx => ∃ (A2 : Option Addr) (n2 c2 : Nat), n2 = bs1.length + 1 ∧ Hid (SSt w a g #[Value.int IntKind.i64 f0, Value.int IntKind.i64 f1, Value.int IntKind.i64 f2, Value.int IntKind.i64 f3, Value.bool f4, Value.bool f5, Value.bool f6, Value.int IntKind.i64 f7, Value.int IntKind.i64 f8, Value.int IntKind.i64 f9, .slice (some ⟨bb, off, none⟩) bs.length c] #[Value.int IntKind.i64 0, Value.int IntKind.i64 0, Value.int IntKind.i64 0, Value.int IntKind.i64 0, Value.bool false, Value.bool false, Value.bool false, Value.int IntKind.i64 0, Value.int IntKind.i64 0, Value.int IntKind.i64 0, Value.slice none 0 0] ⟨0, p1, p2, p3, f4, p5, p6, p7, p8, p9⟩ A2 n2 c2 (bs1 ++ [⟨kk, n'⟩]) wx))
                  case first =>
                    go_wp2_with (at_builtin; refine wpList_append_any _ rfl _ _ 48 rfl (g + 1) 67 i0 (.agg #[.int .i64 0, .int .i64 0]) 2 16 Tryd.underlying48 hi0 hz0 hz1 hz2 rfl (by decide) (.slice A1 bs1.length c1) bs1.length (bs1.flatMap encB) rfl HSa.out.own _ (some ⟨wc.heap.size, 0, none⟩) 1 1 (encB ⟨kk, n'⟩) rfl HRd.out (encB_one1 _) (by unfold maxLen; omega) (by omega) (by simp; omega) ?_; intro v1 w2 hown hgr hbl; obtain ⟨A2, n2, c2, rfl, hG2, hS2⟩ := HSa.out.app hown hgr; have HS2 := Lib.hid hS2; have f10 := hG2.free 10; have e10b : w2.cell? ⟨g, 10, none⟩ = some (.slice A1 bs1.length c1) := (hG2.cell 10).trans rfl; have hn2 := HS2.out.len; simp only [List.length_append, List.length_cons, List.length_nil] at hn2; have HN2 := Lib.hid hn2; clear hown hgr hbl hG2 hS2 hn2)
                    go_meet
                    exact ⟨A2, n2, c2, by have := HN2.out; omega, HS2.out⟩
                  case rest =>
                    clear HS HSa HRd e10
                    obtain ⟨A2, n2, c2, rfl, HS⟩ := hcut
                    have e10 : wc.cell? ⟨g, 10, none⟩ = some (.slice A2 (bs1.length + 1) c2) := (HS.out.gg.cell 10).trans rfl
                    have HSb := Lib.hid (HS.out.alloc (.cells #[.int .i64 0, .int .i64 0] 67))
                    have HRe : Hid (Reads (wc.alloc (.cells #[.int .i64 0, .int .i64 0] 67)) (wc.heap.size + 1) 2 (some ⟨wc.heap.size, 0, none⟩) 1 (encB ⟨0, 0⟩)) := reads_new wc 0 0
                    have hgs : g + 1 ≤ wc.heap.size := HS.out.gg.lt
                    have hbl : (bs1 ++ [(⟨kk, n'⟩ : Br)]).length = (bs1.length + 1) := HS.out.len
                    have HO2 : Hid ((wc.alloc (.cells #[.int .i64 0, .int .i64 0] 67)).ownsRow (g + 1) 67 2 (.slice A2 (bs1.length + 1) c2) (bs1.length + 1) ((bs1 ++ [(⟨kk, n'⟩ : Br)]).flatMap encB)) := by have h := HSb.out.own; rw [hbl] at h; exact h
                    have HBL := Lib.hid hbl
                    clear hbl
                    go_wp2_with (at_builtin; refine wpList_append_any _ rfl _ _ 48 rfl (g + 1) 67 i0 (.agg #[.int .i64 0, .int .i64 0]) 2 16 Tryd.underlying48 hi0 hz0 hz1 hz2 rfl (by decide) (.slice A2 (bs1.length + 1) c2) (bs1.length + 1) ((bs1 ++ [(⟨kk, n'⟩ : Br)]).flatMap encB) rfl HO2.out _ (some ⟨wc.heap.size, 0, none⟩) 1 1 (encB ⟨0, 0⟩) rfl HRe.out (encB_one1 _) (by unfold maxLen; omega) (by omega) (by simp; omega) ?_; intro v1 w4 hown hgr hbl; obtain ⟨A3, n3, c3, rfl, hG3, hS3⟩ := HSb.out.app (by rw [HBL.out]; exact hown) hgr; have HS3 := Lib.hid hS3; have f10 := hG3.free 10; have e10c : w4.cell? ⟨g, 10, none⟩ = some (.slice A2 (bs1.length + 1) c2) := (hG3.cell 10).trans rfl; have hn3 := HS3.out.len; simp only [List.length_append, List.length_cons, List.length_nil] at hn3; have hbl3 := HBL.out; simp only [List.length_append, List.length_cons, List.length_nil] at hbl3; have HBL3 := Lib.hid hbl3; clear hbl3; have HN3 := Lib.hid hn3; clear hown hgr hbl hG3 hS3 hn3)
                    exact ⟨⟨k + 1, _, _, _, _, by go_num, by omega, by have h1 := HN3.out; have h2 := HBL3.out; omega, HS3.out⟩, by simp [intOf]; omega⟩
                · clear h2
                  go_wp2_with (at_builtin; refine wpList_append_any _ rfl _ _ 48 rfl (g + 1) 67 i0 (.agg #[.int .i64 0, .int .i64 0]) 2 16 Tryd.underlying48 hi0 hz0 hz1 hz2 rfl (by decide) (.slice A1 bs1.length c1) bs1.length (bs1.flatMap encB) rfl HSa.out.own _ (some ⟨wc.heap.size, 0, none⟩) 1 1 (encB ⟨kk, n'⟩) rfl HRd.out (encB_one1 _) (by unfold maxLen; omega) (by omega) (by simp; omega) ?_; intro v1 w2 hown hgr hbl; obtain ⟨A2, n2, c2, rfl, hG2, hS2⟩ := HSa.out.app hown hgr; have HS2 := Lib.hid hS2; have f10 := hG2.free 10; have e10b : w2.cell? ⟨g, 10, none⟩ = some (.slice A1 bs1.length c1) := (hG2.cell 10).trans rfl; have hn2 := HS2.out.len; simp only [List.length_append, List.length_cons, List.length_nil] at hn2; have HN2 := Lib.hid hn2; clear hown hgr hbl hG2 hS2 hn2)
                  exact ⟨⟨k + 1, _, _, _, _, by go_num, by omega, by have := HN2.out; omega, HS2.out⟩, by simp [intOf]; omega⟩
            · have hd : (decide (k < bs.length) && decide ((n1 : Int) < cnt)) = false := by simp; omega
              rw [hd]
              clear hd
              obtain ⟨e0, e1, e2, e3, e4, e5, e6, e7, e8, e9, e10⟩ := f_cells HS.out.gg
              simp only at e0 e1 e2 e3 e4 e5 e6 e7 e8 e9
              have z10 := blk_c HS.out.z 10 _ rfl
              have z0 := blk_c HS.out.z 0 _ rfl
              have z1 := blk_c HS.out.z 1 _ rfl
              have z2 := blk_c HS.out.z 2 _ rfl
              have z3 := blk_c HS.out.z 3 _ rfl
              have z4 := blk_c HS.out.z 4 _ rfl
              have z5 := blk_c HS.out.z 5 _ rfl
              have z6 := blk_c HS.out.z 6 _ rfl
              have z7 := blk_c HS.out.z 7 _ rfl
              have z8 := blk_c HS.out.z 8 _ rfl
              have z9 := blk_c HS.out.z 9 _ rfl
              have zf := fun i => HS.out.z.free i
              go_wp2_with fail
              have HZ2 := blk11 (show Blk wc (a + 1) (fhL ⟨0, 0, 0, 0, false, false, false, 0, 0, 0⟩ (.slice none 0 0)) 50 from HS.out.z) ⟨0, p1, p2, p3, f4, p5, p6, p7, p8, p9⟩ (.slice A1 n1 c1)
              obtain ⟨y0, y1, y2, y3, y4, y5, y6, y7, y8, y9, y10⟩ := f_cells HZ2
              simp only at y0 y1 y2 y3 y4 y5 y6 y7 y8 y9 y10
              exact bodyPost_ret (v := .agg (fhL ⟨0, p1, p2, p3, f4, p5, p6, p7, p8, p9⟩ (.slice A1 n1 c1))) (by simp [results, Tryd.results25, go_sem, fhL, y0, y1, y2, y3, y4, y5, y6, y7, y8, y9, y10]; done) rfl ⟨⟨0, p1, p2, p3, f4, p5, p6, p7, p8, p9⟩, .slice A1 n1 c1, bs1, rfl, HS.out.stored _ _ _ _ _ _ _ _ _ _ _, RowE.mono (HS.out.stored_row _ _ _ _ _ _ _ _ _ _ _) (fun _ _ h => .inr h)⟩
end Go.Proofs.YtolbecinjajejaaDoor
