/- New: the configuration space of a function. -/
import Derived.Test.YtolbecinjajejaaDoorD4
import Derived.Test.YtolbecinjajejaaDoorL4
import Derived.Deep.DeepCutAuto
set_option linter.unusedVariables false
set_option linter.unusedSimpArgs false
namespace Go.Proofs.YtolbecinjajejaaDoor
open Go.RowKit Go.My

def encB (b : Br) : List Value := [.int .i64 b.k, .int .i64 b.s]
theorem encB_len (b : Br) : (encB b).length = 2 := rfl
theorem encB_one (bs : List Br) : ∀ u ∈ bs.flatMap encB, u.oneCell' = true := by
  intro u hu
  obtain ⟨b, _, hb⟩ := List.mem_flatMap.1 hu
  simp only [encB, List.mem_cons, List.not_mem_nil, or_false] at hb
  rcases hb with rfl | rfl <;> rfl
theorem info61 : (Tryd.prog.info? 67).map (fun i => (i.zero, i.size, i.bytes)) = some (some (.agg #[.int .i64 0, .int .i64 0]), 2, 16) := by kernel_rfl
/-- The zero of a device. -/
def Z76 : Array Value := #[.int .i64 0, .int .i64 0, .int .i64 0, .int .i64 0, .bool false, .bool false, .bool false, .int .i64 0, .int .i64 0, .int .i64 0, .slice none 0 0] ++ Array.replicate 512 (.int .u8 0)
theorem Z76_size : Z76.size = 523 := by simp [Z76]
theorem zero76 : (Tryd.prog.info? 85).map (fun i => i.zero) = some (some (.agg Z76)) := by kernel_rfl
theorem run_zero76 (w : World) : Sem.run Tryd.prog (zeroValue 85) w = .ok (.agg Z76) w := by
  have h := zero76
  simp only [Option.map_eq_some_iff] at h
  obtain ⟨i, h1, h2⟩ := h
  simp [zeroValue, typeInfo, h1, h2]
theorem bars_len {f : Fh} {bs : List Br} (h : vFn f bs = true) : bs.length ≤ 6 := by
  unfold vFn vBars at h
  simp only [Bool.and_eq_true, decide_eq_true_eq] at h
  have h1 := h.2.1
  unfold cntB at h1
  split at h1 <;> omega

theorem getD_eq {α : Type} (d : α) (xs : List α) (k : Nat) (h : k < xs.length) : xs[k] = at1 d xs k := at1_eq d xs k h
theorem isD_new (W : World) (f : Fh) (v : Value) : IsD 85 (W.alloc (.cells (((((((((((Z76.setIfInBounds 0 (.int .i64 f.parent)).setIfInBounds 1 (.int .i64 f.slot)).setIfInBounds 2 (.int .i64 f.vendor)).setIfInBounds 3 (.int .i64 f.device)).setIfInBounds 4 (.bool f.bridge)).setIfInBounds 5 (.bool f.pref)).setIfInBounds 6 (.bool f.hot)).setIfInBounds 7 (.int .i64 f.spare)).setIfInBounds 8 (.int .i64 f.pin)).setIfInBounds 9 (.int .i64 f.vectors)).setIfInBounds 10 v) 85)) W.heap.size ⟨f, v, fun _ => 0#8, fun _ => 0#8⟩ := by
  refine ⟨_, Blk.new _ _ _, by simp [Z76_size], fun i hi => ?_, fun j hj => ?_, fun j hj => ?_⟩
  · rcases (by omega : i = 0 ∨ i = 1 ∨ i = 2 ∨ i = 3 ∨ i = 4 ∨ i = 5 ∨ i = 6 ∨ i = 7 ∨ i = 8 ∨ i = 9 ∨ i = 10) with rfl | rfl | rfl | rfl | rfl | rfl | rfl | rfl | rfl | rfl | rfl <;> simp [Array.getElem?_setIfInBounds, Z76_size, fhL]
  · simp only [Array.getElem?_setIfInBounds]
    rw [if_neg (by omega), if_neg (by omega), if_neg (by omega), if_neg (by omega), if_neg (by omega), if_neg (by omega), if_neg (by omega), if_neg (by omega), if_neg (by omega), if_neg (by omega), if_neg (by omega)]
    unfold Z76
    rw [Array.getElem?_append_right (by simp)]
    rw [Array.getElem?_replicate, if_pos (by simp; omega)]
    rfl
  · simp only [Array.getElem?_setIfInBounds]
    rw [if_neg (by omega), if_neg (by omega), if_neg (by omega), if_neg (by omega), if_neg (by omega), if_neg (by omega), if_neg (by omega), if_neg (by omega), if_neg (by omega), if_neg (by omega), if_neg (by omega)]
    unfold Z76
    rw [Array.getElem?_append_right (by simp; omega)]
    rw [Array.getElem?_replicate, if_pos (by simp; omega)]
    rfl
theorem un_ofInt (v : Int) : un (BitVec.ofInt 64 v) = IntKind.u64.wrap v := by
  rw [IntKind.wrap_u64]
  unfold un
  rw [BitVec.toNat_ofInt]
  have : 0 ≤ v % 18446744073709551616 := Int.emod_nonneg _ (by omega)
  simp only [Nat.reducePow]
  omega
theorem allFrom_get {f : Nat → Bool} {n i : Nat} (h : allFrom f n i = true) : ∀ k, i ≤ k → k < i + n → f k = true := by
  induction n generalizing i with
  | zero => intro k h1 h2; omega
  | succ n ih =>
    intro k h1 h2
    simp only [allFrom, Bool.and_eq_true] at h
    by_cases e : k = i
    · subst e; exact h.1
    · exact ih h.2 k (by omega) (by omega)
theorem vFn_ok {f : Fh} {bs : List Br} (h : vFn f bs = true) {k : Nat} (hk : k < bs.length) : okAt bs k = true := by
  unfold vFn vBars at h
  simp only [Bool.and_eq_true, decide_eq_true_eq] at h
  exact allFrom_get h.2.2 k (by omega) (by omega)
theorem okAt_bar {bs : List Br} {k : Nat} (h : okAt bs k = true) : vBar (at1 ⟨0, 0⟩ bs k).k (at1 ⟨0, 0⟩ bs k).s = true := by
  unfold okAt at h
  simp only [Bool.and_eq_true] at h
  exact h.1
/-- The first k registers are laid. -/
def Dv.bars (d : Dv) (bs : List Br) : Nat → Dv
  | 0 => d
  | k + 1 => (d.bars bs k).bar k (at1 ⟨0, 0⟩ bs k).k (at1 ⟨0, 0⟩ bs k).s
/-- The registers that every function has. -/
def cfg0 (f : Fh) (v : Value) : Dv :=
  (((((⟨f, v, fun _ => 0#8, fun _ => 0#8⟩ : Dv).def_ 0 2 (BitVec.ofInt 64 f.vendor) 0#64).def_ 2 2 (BitVec.ofInt 64 f.device) 0#64).def_ 4 2 0#64 7#64).def_ 60 1 0#64 255#64).def_ 61 1 (BitVec.ofInt 64 f.pin) 0#64
/-- A function's configuration space as New makes it. -/
def cfgP (f : Fh) (v : Value) (bs : List Br) : Dv :=
  let d := (cfg0 f v).bars bs bs.length
  if f.bridge then (d.def_ 14 1 1#64 0#64).bridge f.pref else d
theorem Dv.bar_f (d : Dv) (i : Nat) (k s : Int) : (d.bar i k s).f = d.f := by
  unfold Dv.bar; (repeat' split) <;> rfl
theorem Dv.bars_f (d : Dv) (bs : List Br) (k : Nat) : (d.bars bs k).f = d.f := by
  induction k with
  | zero => rfl
  | succ k ih => show (Dv.bar _ _ _ _).f = _; rw [Dv.bar_f, ih]
theorem bars_get {O : Nat → Prop} {w : World} {A : Option Addr} {n c : Nat} {bs : List Br} (h : RowE encB 2 O w (.slice A n c) bs) {i : Nat} (hi : i < bs.length) :
    ∃ b off, A = some ⟨b, off, none⟩ ∧ O b ∧ w.cell? ⟨b, off + i * 2, none⟩ = some (.int .i64 (at1 ⟨0, 0⟩ bs i).k) ∧ w.cell? ⟨b, off + i * 2 + 1, none⟩ = some (.int .i64 (at1 ⟨0, 0⟩ bs i).s) := by
  obtain ⟨A', c', hv, hl, hm, h⟩ := h
  injection hv with e1 e2 e3
  subst e1
  rcases h with rfl | ⟨b, off, h1, h2, _, h3⟩
  · simp at hi
  · obtain ⟨cs, q1, q2, q3⟩ := h3 i hi
    subst q2
    rw [at1_eq ⟨0, 0⟩ bs i hi] at q3
    exact ⟨b, off, h1, h2, q3 0 (by omega), q3 1 (by omega)⟩
theorem bars_n {O : Nat → Prop} {w : World} {A : Option Addr} {n c : Nat} {bs : List Br} (h : RowE encB 2 O w (.slice A n c) bs) : n = bs.length := (RowE.reads encB_len (by omega) h).1
theorem blk_c {w : World} {g : Nat} {cs : Array Value} {t : TypeId} (h : Blk w g cs t) (i : Nat) (u : Value) (hu : cs[i]? = some u) : w.cell? ⟨g, i, none⟩ = some u := (h.cell i).trans hu

set_option maxHeartbeats 8000000 in
set_option maxRecDepth 100000 in
theorem new_ok (f : Fh) (v : Value) (bs : List Br) (O : Nat → Prop) (w : World) (h : Bars O w v bs) (hv : vFn f bs = true) :
    Calls Tryd.prog 28 #[.agg (fhL f v)] w fun e w' => ∃ (g : Nat) (v1 : Value), e = .returned (.tuple #[.pointer (some ⟨g, 0, none⟩), .int .i64 0]) ∧ w.heap.size ≤ g ∧ Keep Non w w' ∧ RowE encB 2 (fun k => w.heap.size ≤ k ∧ k ≠ g) w' v1 bs ∧ IsD 85 w' g (cfgP f v1 bs) := by
  have hlen := bars_len hv
  obtain ⟨i0, hi0, hz0, hz1, hz2⟩ := info_parts info61
  have HVA : ∀ w, Bars O w v bs → Calls Tryd.prog 45 #[.agg (fhL f v)] w fun e w' => e = .returned (.bool true) ∧ Keep Non w w' := fun w h => by have := valid_any f v bs O w h; rw [hv] at this; exact this
  have HOK : Hid (∀ k, k < bs.length → vBar (at1 ⟨0, 0⟩ bs k).k (at1 ⟨0, 0⟩ bs k).s = true) := fun k hk => okAt_bar (vFn_ok hv hk)
  clear hv
  have hh := h
  obtain ⟨A, c, rfl, hl, hm, h0⟩ := h
  have HX : Hid (Bars O w (.slice A bs.length c) bs) := hh
  clear h0 hh
  obtain ⟨f0, f1, f2, f3, f4, f5, f6, f7, f8, f9⟩ := f
  have HV := Lib.hid HVA
  clear HVA
  unfold fhL at *
  simp only at *
  go_enter Tryd.func28, Tryd.ntmps28
  have HB0 := Lib.hid (Blk.new w #[Value.int IntKind.i64 f0, Value.int IntKind.i64 f1, Value.int IntKind.i64 f2, Value.int IntKind.i64 f3, Value.bool f4, Value.bool f5, Value.bool f6, Value.int IntKind.i64 f7, Value.int IntKind.i64 f8, Value.int IntKind.i64 f9, .slice A bs.length c] 50)
  have HK0 : Hid (Keep Non w (w.alloc (.cells #[Value.int IntKind.i64 f0, Value.int IntKind.i64 f1, Value.int IntKind.i64 f2, Value.int IntKind.i64 f3, Value.bool f4, Value.bool f5, Value.bool f6, Value.int IntKind.i64 f7, Value.int IntKind.i64 f8, Value.int IntKind.i64 f9, .slice A bs.length c] 50))) := (Keep.refl _ _).alloc _
  go_wp2_with fail
  refine (HV.out _ (bars_keepN HX.out HK0.out)).mono ?_
  rintro e w1 ⟨rfl, hk⟩
  have HB1 := Lib.hid (HB0.out.keep hk (fun h => h))
  have HK1 := Lib.hid (HK0.out.tr hk)
  clear hk
  have HR1 : Hid (Reads w1 w1.heap.size 2 A bs.length (bs.flatMap encB)) := ((RowE.reads (enc := encB) (sz := 2) encB_len (by omega) (bars_keepN HX.out HK1.out))).2
  go_upto_region 3 with fail
  go_cut [] (fun wx => ∃ (A1 : Option Addr) (n1 c1 : Nat), Hid (Keep Non w wx) ∧ Hid (Blk wx w.heap.size #[Value.int IntKind.i64 f0, Value.int IntKind.i64 f1, Value.int IntKind.i64 f2, Value.int IntKind.i64 f3, Value.bool f4, Value.bool f5, Value.bool f6, Value.int IntKind.i64 f7, Value.int IntKind.i64 f8, Value.int IntKind.i64 f9, .slice A1 n1 c1] 50) ∧ Hid (RowE encB 2 (fun k => w.heap.size < k) wx (.slice A1 n1 c1) bs))
  case first =>
    have c10 := blk_c HB1.out 10 _ rfl
    go_wp2_with (at_builtin; refine wpList_append_any _ rfl _ _ 48 rfl w1.heap.size 67 i0 (.agg #[.int .i64 0, .int .i64 0]) 2 16 Tryd.underlying48 hi0 hz0 hz1 hz2 rfl (by decide) (.slice none 0 0) 0 [] rfl ⟨rfl, .inl ⟨rfl, rfl⟩⟩ _ A bs.length c (bs.flatMap encB) rfl HR1.out (encB_one bs) (by unfold maxLen; omega) (by omega) (Nat.le_refl _) ?_; intro v1 w2 hown hgr hbl; have HOWN := Lib.hid hown; have HK2 := Lib.hid (Keep.grown (Keep.refl Non w1) hgr (fun k h _ => by cases h)); obtain ⟨A1, n1, c1, rfl⟩ : ∃ (A1 : Option Addr) (n1 c1 : Nat), v1 = .slice A1 n1 c1 := by { rcases hown.2 with ⟨h1, _⟩ | ⟨g1, cp, _, h1, _⟩; exact ⟨_, _, _, h1⟩; exact ⟨_, _, _, h1⟩ }; clear hown hgr hbl; have HB2 := Lib.hid (HB1.out.keep HK2.out (fun h => h)); have f10 := HB2.out.free 10; have c10b := blk_c HB2.out 10 _ rfl)
    go_meet
    refine ⟨A1, n1, c1, ?_, ?_, ?_⟩
    · exact Lib.hid ((HK1.out.tr HK2.out).setNew (p := ⟨w.heap.size, 10, none⟩) (Nat.le_refl _) _)
    · exact Lib.hid (HB2.out.set' (i := 10) rfl)
    · have h1 := RowE.of_own encB_len (by omega) HOWN.out
      have h2 : RowE encB 2 (fun k => w.heap.size < k) _ (.slice A1 n1 c1) bs := h1.mono (fun k _ hk => Nat.lt_of_lt_of_le HB1.out.lt hk)
      exact Lib.hid (h2.keep ((Keep.refl (My.One w.heap.size) _).setOne 10 _) (fun g hg _ e => by simp only [My.One] at e; omega))
  case rest =>
    obtain ⟨A1, n1, c1, HK2, HB2, HR2⟩ := hcut
    clear HB0 HK0 HB1 HK1 HR1
    go_upto_region 4 with fail
    go_cut [4] (fun s wx => ∃ g : Nat, s = .pointer (some ⟨g, 0, none⟩) ∧ w.heap.size < g ∧ Hid (Keep Non w wx) ∧ Hid (Blk wx w.heap.size #[Value.int IntKind.i64 f0, Value.int IntKind.i64 f1, Value.int IntKind.i64 f2, Value.int IntKind.i64 f3, Value.bool f4, Value.bool f5, Value.bool f6, Value.int IntKind.i64 f7, Value.int IntKind.i64 f8, Value.int IntKind.i64 f9, .slice A1 n1 c1] 50) ∧ Hid (RowE encB 2 (fun k => w.heap.size < k ∧ k ≠ g) wx (.slice A1 n1 c1) bs) ∧ Hid (IsD 85 wx g ⟨⟨f0, f1, f2, f3, f4, f5, f6, f7, f8, f9⟩, .slice A1 n1 c1, fun _ => 0#8, fun _ => 0#8⟩))
    case first =>
      have c0 := blk_c HB2.out 0 _ rfl
      have c1' := blk_c HB2.out 1 _ rfl
      have c2 := blk_c HB2.out 2 _ rfl
      have c3 := blk_c HB2.out 3 _ rfl
      have c4 := blk_c HB2.out 4 _ rfl
      have c5 := blk_c HB2.out 5 _ rfl
      have c6 := blk_c HB2.out 6 _ rfl
      have c7 := blk_c HB2.out 7 _ rfl
      have c8 := blk_c HB2.out 8 _ rfl
      have c9 := blk_c HB2.out 9 _ rfl
      have c10 := blk_c HB2.out 10 _ rfl
      have hz76 := run_zero76
      have hs76 := Z76_size
      go_wp2_with fail
      go_meet
      refine ⟨wc.heap.size, rfl, HB2.out.lt, Lib.hid (HK2.out.alloc _), Lib.hid (HB2.out.alloc _), ?_, Lib.hid (isD_new wc ⟨f0, f1, f2, f3, f4, f5, f6, f7, f8, f9⟩ (.slice A1 n1 c1))⟩
      exact Lib.hid ((HR2.out.mono (fun k hk h => ⟨h, by omega⟩)).keepN ((Keep.refl Non _).alloc _))
    case rest =>
      clear HK2 HB2 HR2
      obtain ⟨g, rfl, hg, HK, HB, HR, HD⟩ := hcut
      have hag : w.heap.size ≠ g := by omega
      have hn1 := bars_n HR.out
      obtain rfl : n1 = bs.length := hn1

      have HU2 := Lib.hid (un_ofInt f2).symm
      have HU3 := Lib.hid (un_ofInt f3).symm
      have HU8 := Lib.hid (un_ofInt f8).symm
      have c2 := blk_c HB.out 2 _ rfl
      go_wp2_with fail
      refine (define_at g _ _ _ _ 0 2 (BitVec.ofInt 64 f2) 0#64 (by rfl) (by rfl) HU2.out (by rfl) _ _ HD.out (by omega) (by omega)).mono ?_
      rintro e z ⟨rfl, hk, hd⟩
      replace HK := Lib.hid (HK.out.trans hk (fun q hq e => by simp only [My.One] at e; omega))
      replace HB := Lib.hid (HB.out.keep hk (fun e => hag e))
      replace HR := Lib.hid (HR.out.keep hk (fun q hq _ e => hq.2 e))
      replace HD := Lib.hid hd
      clear hk hd
      clear c2
      have c3 := blk_c HB.out 3 _ rfl
      go_wp2_with fail
      refine (define_at g _ _ _ _ 2 2 (BitVec.ofInt 64 f3) 0#64 (by rfl) (by rfl) HU3.out (by rfl) _ _ HD.out (by omega) (by omega)).mono ?_
      rintro e z ⟨rfl, hk, hd⟩
      replace HK := Lib.hid (HK.out.trans hk (fun q hq e => by simp only [My.One] at e; omega))
      replace HB := Lib.hid (HB.out.keep hk (fun e => hag e))
      replace HR := Lib.hid (HR.out.keep hk (fun q hq _ e => hq.2 e))
      replace HD := Lib.hid hd
      clear hk hd
      clear c3
      go_wp2_with fail
      refine (define_at g _ _ _ _ 4 2 0#64 7#64 (by rfl) (by rfl) (by rfl) (by rfl) _ _ HD.out (by omega) (by omega)).mono ?_
      rintro e z ⟨rfl, hk, hd⟩
      replace HK := Lib.hid (HK.out.trans hk (fun q hq e => by simp only [My.One] at e; omega))
      replace HB := Lib.hid (HB.out.keep hk (fun e => hag e))
      replace HR := Lib.hid (HR.out.keep hk (fun q hq _ e => hq.2 e))
      replace HD := Lib.hid hd
      clear hk hd
      go_wp2_with fail
      refine (define_at g _ _ _ _ 60 1 0#64 255#64 (by rfl) (by rfl) (by rfl) (by rfl) _ _ HD.out (by omega) (by omega)).mono ?_
      rintro e z ⟨rfl, hk, hd⟩
      replace HK := Lib.hid (HK.out.trans hk (fun q hq e => by simp only [My.One] at e; omega))
      replace HB := Lib.hid (HB.out.keep hk (fun e => hag e))
      replace HR := Lib.hid (HR.out.keep hk (fun q hq _ e => hq.2 e))
      replace HD := Lib.hid hd
      clear hk hd
      have c8 := blk_c HB.out 8 _ rfl
      go_wp2_with fail
      refine (define_at g _ _ _ _ 61 1 (BitVec.ofInt 64 f8) 0#64 (by rfl) (by rfl) HU8.out (by rfl) _ _ HD.out (by omega) (by omega)).mono ?_
      rintro e z ⟨rfl, hk, hd⟩
      replace HK := Lib.hid (HK.out.trans hk (fun q hq e => by simp only [My.One] at e; omega))
      replace HB := Lib.hid (HB.out.keep hk (fun e => hag e))
      replace HR := Lib.hid (HR.out.keep hk (fun q hq _ e => hq.2 e))
      replace HD := Lib.hid hd
      clear hk hd
      clear c8
      obtain ⟨d0, hd0⟩ : ∃ d0, d0 = cfg0 ⟨f0, f1, f2, f3, f4, f5, f6, f7, f8, f9⟩ (.slice A1 bs.length c1) := ⟨_, rfl⟩
      have HD0 := Lib.hid hd0
      have HD1 := HD
      unfold cfg0 at hd0
      rw [← hd0] at HD1
      have hd0 := HD0.out
      clear HD hd0
      have c10 := blk_c HB.out 10 _ rfl
      go_wp2_with fail
      clear c10
      go_loopw [39] (fun i wr => ∃ k : Nat, i = .int .i64 k ∧ k ≤ bs.length ∧ Hid (Keep Non w wr) ∧ Hid (Blk wr w.heap.size #[Value.int IntKind.i64 f0, Value.int IntKind.i64 f1, Value.int IntKind.i64 f2, Value.int IntKind.i64 f3, Value.bool f4, Value.bool f5, Value.bool f6, Value.int IntKind.i64 f7, Value.int IntKind.i64 f8, Value.int IntKind.i64 f9, .slice A1 bs.length c1] 50) ∧ Hid (RowE encB 2 (fun k => w.heap.size < k ∧ k ≠ g) wr (.slice A1 bs.length c1) bs) ∧ Hid (IsD 85 wr g (d0.bars bs k))) (fun i _ => bs.length - (intOf i).toNat)
      case atStart => exact ⟨0, rfl, Nat.zero_le _, HK.out, HB.out, HR.out, HD1.out⟩
      case round =>
        clear HK HB HR HD1
        obtain ⟨k, rfl, hk, HK, HB, HR, HD⟩ := hrel
        by_cases hlt : k < bs.length
        · have hvb := HOK.out k hlt
          have HST := Lib.hid (show d0.bars bs (k + 1) = (d0.bars bs k).bar k (at1 ⟨0, 0⟩ bs k).k (at1 ⟨0, 0⟩ bs k).s from rfl)
          obtain ⟨bb, off, e', hO, c0, c1⟩ := bars_get HR.out hlt
          generalize at1 _ bs k = x at *
          obtain ⟨xk, xs⟩ := x
          simp only at c0 c1 HST
          have HVB := Lib.hid hvb
          clear hvb
          subst e'
          go_wp2_with fail
          have HDa : Hid (IsD 85 (wr.alloc (.cells #[.int .i64 xk, .int .i64 xs] 67)) g (d0.bars bs k)) := HD.out.keep ((Keep.refl Non _).alloc _) (fun h => h)
          refine (defineBar_any g k xk xs _ _ HDa.out (by omega) HVB.out).mono ?_
          rintro e z ⟨rfl, hk1, hd⟩
          have HK1 := Lib.hid ((HK.out.alloc _).trans hk1 (fun q hq e => by simp only [My.One] at e; omega))
          have HB1 := Lib.hid ((HB.out.alloc _).keep hk1 (fun e => hag e))
          have HR1 := Lib.hid ((HR.out.keepN ((Keep.refl Non _).alloc _)).keep hk1 (fun q hq _ e => hq.2 e))
          rw [← HST.out] at hd
          have HD1 := Lib.hid hd
          clear hk1 hd
          go_wp2
          exact ⟨⟨k + 1, by go_num, by omega, HK1.out, HB1.out, HR1.out, HD1.out⟩, by simp [intOf]; omega⟩
        · obtain rfl : k = bs.length := by omega
          have c4 := blk_c HB.out 4 _ rfl
          cases f4
          · go_wp2
            go_ret2
            exact ⟨g, _, rfl, by omega, HK.out, HR.out.mono (fun k _ h => ⟨by omega, h.2⟩), by have h := HD.out; rw [HD0.out] at h; exact h⟩
          · go_wp2_with fail
            refine (define_at g _ _ _ _ 14 1 1#64 0#64 (by rfl) (by rfl) (by rfl) (by rfl) _ _ HD.out (by omega) (by omega)).mono ?_
            rintro e z ⟨rfl, hk1, hd⟩
            replace HK := Lib.hid (HK.out.trans hk1 (fun q hq e => by simp only [My.One] at e; omega))
            replace HB := Lib.hid (HB.out.keep hk1 (fun e => hag e))
            replace HR := Lib.hid (HR.out.keep hk1 (fun q hq _ e => hq.2 e))
            replace HD := Lib.hid hd
            clear hk1 hd c4
            go_wp2_with fail
            refine (defineBridge_any g _ _ HD.out).mono ?_
            rintro e z ⟨rfl, hk1, hd⟩
            replace HK := Lib.hid (HK.out.trans hk1 (fun q hq e => by simp only [My.One] at e; omega))
            replace HR := Lib.hid (HR.out.keep hk1 (fun q hq _ e => hq.2 e))
            replace HD := Lib.hid hd
            clear hk1 hd
            go_wp2
            go_ret2
            refine ⟨g, _, rfl, by omega, HK.out, HR.out.mono (fun k _ h => ⟨by omega, h.2⟩), ?_⟩
            have h := HD.out
            rw [show (Dv.def_ (d0.bars bs bs.length) 14 1 1#64 0#64).f = d0.f from Dv.bars_f _ _ _, HD0.out] at h
            exact h
end Go.Proofs.YtolbecinjajejaaDoor
