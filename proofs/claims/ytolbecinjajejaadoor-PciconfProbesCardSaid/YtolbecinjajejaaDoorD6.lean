/- awake, access, Mod; New of a function that is not valid. -/
import Derived.Test.YtolbecinjajejaaDoorD5
set_option linter.unusedVariables false
set_option linter.unusedSimpArgs false
namespace Go.Proofs.YtolbecinjajejaaDoor
open Go.RowKit Go.My

set_option maxHeartbeats 4000000 in
theorem new_no (f : Fh) (v : Value) (bs : List Br) (O : Nat → Prop) (w : World) (h : Bars O w v bs) (hv : vFn f bs = false) :
    Calls Tryd.prog 28 #[.agg (fhL f v)] w fun e w' => e = .returned (.tuple #[.pointer none, .int .i64 1]) ∧ Keep Non w w' := by
  have HVA : ∀ w, Bars O w v bs → Calls Tryd.prog 45 #[.agg (fhL f v)] w fun e w' => e = .returned (.bool false) ∧ Keep Non w w' := fun w h => by have := valid_any f v bs O w h; rw [hv] at this; exact this
  clear hv
  have HX := Lib.hid h
  clear h
  obtain ⟨f0, f1, f2, f3, f4, f5, f6, f7, f8, f9⟩ := f
  have HV := Lib.hid HVA
  clear HVA
  unfold fhL at *
  simp only at *
  go_enter Tryd.func28, Tryd.ntmps28
  have HK0 : Hid (Keep Non w (w.alloc (.cells #[Value.int IntKind.i64 f0, Value.int IntKind.i64 f1, Value.int IntKind.i64 f2, Value.int IntKind.i64 f3, Value.bool f4, Value.bool f5, Value.bool f6, Value.int IntKind.i64 f7, Value.int IntKind.i64 f8, Value.int IntKind.i64 f9, v] 50))) := (Keep.refl _ _).alloc _
  go_wp2_with fail
  refine (HV.out _ (bars_keepN HX.out HK0.out)).mono ?_
  rintro e w1 ⟨rfl, hk⟩
  have HK1 := Lib.hid (HK0.out.tr hk)
  clear hk
  go_wp2
  go_ret2
  exact ⟨rfl, HK1.out⟩

theorem write_at (g : Nat) (O N V : Int) (o n : Nat) (v : BitVec 64) (hO : O = o) (hN : N = n) (hV : V = un v) (d : Dv) (w : World) (h : IsD 85 w g d) (hw : wfm o n = true) :
    Calls Tryd.prog 30 #[.pointer (some ⟨g, 0, none⟩), .int .i64 O, .int .i64 N, .int .u64 V] w fun e w' => e = .returned (.tuple #[]) ∧ Keep (My.One g) w w' ∧ IsD 85 w' g (d.wr o n v) := by
  subst hO hN hV
  exact write_ok g o n v d w h hw
theorem read_at (g : Nat) (O N V : Int) (o n : Nat) (hO : O = o) (hN : N = n) (d : Dv) (w : World) (h : IsD 85 w g d) (hw : wfm o n = true) (hV : un (rdw d.by_ o n) = V) :
    Calls Tryd.prog 31 #[.pointer (some ⟨g, 0, none⟩), .int .i64 O, .int .i64 N] w fun e w' => e = .returned (.int .u64 V) ∧ w = w' := by
  subst hO hN hV
  exact read_ok g o n d w h hw

/-- Mod: the number as an unsigned one, taken modulo n. -/
def md (a n : Int) : Int := (IntKind.u64.wrap a) % n
theorem md_range (a n : Int) (h : 0 < n) : 0 ≤ md a n ∧ md a n < n := ⟨Int.emod_nonneg _ (by omega), Int.emod_lt_of_pos _ h⟩
set_option maxHeartbeats 1000000 in
theorem mod_any (a n : Int) (w : World) (h0 : 0 < n) (h1 : n < 9223372036854775808) :
    Calls Tryd.prog 9 #[.int .i64 a, .int .i64 n] w fun e w' => e = .returned (.int .i64 (md a n)) ∧ w = w' := by
  have h2 : (IntKind.u64.wrap n) = n := by rw [IntKind.wrap_u64]; omega
  have h3 := md_range a n h0
  have h5 : 0 ≤ IntKind.u64.wrap a := wrap_u64_nonneg a
  have h4 : wrap64 (IntKind.u64.wrap a % n) = md a n := by unfold md at *; unfold wrap64; omega
  go_enter Tryd.func9, Tryd.ntmps9
  go_wp2
  go_ret
  exact ⟨by simp [h4], rfl⟩

def awF : Fh := ⟨0, 0, 1, 0, false, false, false, 0, 0, 0⟩
def awB : List Br := [⟨2, 12⟩]
theorem awV : vFn awF awB = true := by kernel_rfl
theorem awb0 (v : Value) : ((cfgP awF v awB).wr 16 4 0xFFFFFFFF#64).by_ 16 = 0#8 := by kernel_rfl
theorem awb1 (v : Value) : ((cfgP awF v awB).wr 16 4 0xFFFFFFFF#64).by_ 17 = 0xF0#8 := by kernel_rfl
theorem awb2 (v : Value) : ((cfgP awF v awB).wr 16 4 0xFFFFFFFF#64).by_ 18 = 0xFF#8 := by kernel_rfl
theorem awb3 (v : Value) : ((cfgP awF v awB).wr 16 4 0xFFFFFFFF#64).by_ 19 = 0xFF#8 := by kernel_rfl
theorem awb4 (v : Value) : ((cfgP awF v awB).wr 16 4 0xFFFFFFFF#64).by_ 0 = 1#8 := by kernel_rfl
theorem awb5 (v : Value) : ((cfgP awF v awB).wr 16 4 0xFFFFFFFF#64).by_ 1 = 0#8 := by kernel_rfl
theorem aw1 (v : Value) : un (rdw ((cfgP awF v awB).wr 16 4 0xFFFFFFFF#64).by_ 16 4) = 4294963200 := by
  simp only [rdw, Nat.add_zero, Nat.reduceAdd, awb0, awb1, awb2, awb3]; rfl
theorem aw2 (v : Value) : un (rdw ((cfgP awF v awB).wr 16 4 0xFFFFFFFF#64).by_ 0 2) = 1 := by
  simp only [rdw, Nat.add_zero, Nat.reduceAdd, awb4, awb5]; rfl

set_option maxHeartbeats 4000000 in
theorem awake18 (w : World) : Calls Tryd.prog 26 #[] w fun e w' => e = .returned (.bool true) ∧ Keep Non w w' := by
  have HBl := Lib.hid (Blk.new (w.alloc (Obj.cells #[Value.int IntKind.i64 2, Value.int IntKind.i64 12] 67)) #[Value.int IntKind.i64 0, Value.int IntKind.i64 0, Value.int IntKind.i64 1, Value.int IntKind.i64 0, Value.bool false, Value.bool false, Value.bool false, Value.int IntKind.i64 0, Value.int IntKind.i64 0, Value.int IntKind.i64 0, Value.slice (some { block := w.heap.size, off := 0 }) 1 1] 50)
  have HR0 : Hid (RowE encB 2 (fun k => k = w.heap.size) ((w.alloc (Obj.cells #[Value.int IntKind.i64 2, Value.int IntKind.i64 12] 67)).alloc (Obj.cells #[Value.int IntKind.i64 0, Value.int IntKind.i64 0, Value.int IntKind.i64 1, Value.int IntKind.i64 0, Value.bool false, Value.bool false, Value.bool false, Value.int IntKind.i64 0, Value.int IntKind.i64 0, Value.int IntKind.i64 0, Value.slice (some { block := w.heap.size, off := 0 }) 1 1] 50)) (.slice (some ⟨w.heap.size, 0, none⟩) 1 1) awB) := by
    refine ⟨_, 1, rfl, Nat.le_refl _, by simp [maxLen], .inr ⟨w.heap.size, 0, rfl, rfl, by simp only [World.size_alloc]; omega, fun i hi => ?_⟩⟩
    obtain rfl : i = 0 := by simp [awB] at hi; omega
    refine ⟨encB ⟨2, 12⟩, rfl, rfl, fun j hj => ?_⟩
    have h := ((Blk.new w #[Value.int IntKind.i64 2, Value.int IntKind.i64 12] 67).alloc (Obj.cells #[Value.int IntKind.i64 0, Value.int IntKind.i64 0, Value.int IntKind.i64 1, Value.int IntKind.i64 0, Value.bool false, Value.bool false, Value.bool false, Value.int IntKind.i64 0, Value.int IntKind.i64 0, Value.int IntKind.i64 0, Value.slice (some { block := w.heap.size, off := 0 }) 1 1] 50)).cell (0 + 0 * 2 + j)
    rw [h]
    rcases (by omega : j = 0 ∨ j = 1) with rfl | rfl <;> rfl
  have HK0 : Hid (Keep Non w ((w.alloc (Obj.cells #[Value.int IntKind.i64 2, Value.int IntKind.i64 12] 67)).alloc (Obj.cells #[Value.int IntKind.i64 0, Value.int IntKind.i64 0, Value.int IntKind.i64 1, Value.int IntKind.i64 0, Value.bool false, Value.bool false, Value.bool false, Value.int IntKind.i64 0, Value.int IntKind.i64 0, Value.int IntKind.i64 0, Value.slice (some { block := w.heap.size, off := 0 }) 1 1] 50))) := ((Keep.refl _ _).alloc _).alloc _
  have HBl' : Hid (Blk ((w.alloc (Obj.cells #[Value.int IntKind.i64 2, Value.int IntKind.i64 12] 67)).alloc (Obj.cells #[Value.int IntKind.i64 0, Value.int IntKind.i64 0, Value.int IntKind.i64 1, Value.int IntKind.i64 0, Value.bool false, Value.bool false, Value.bool false, Value.int IntKind.i64 0, Value.int IntKind.i64 0, Value.int IntKind.i64 0, Value.slice (some { block := w.heap.size, off := 0 }) 1 1] 50)) (w.heap.size + 1) #[Value.int IntKind.i64 0, Value.int IntKind.i64 0, Value.int IntKind.i64 1, Value.int IntKind.i64 0, Value.bool false, Value.bool false, Value.bool false, Value.int IntKind.i64 0, Value.int IntKind.i64 0, Value.int IntKind.i64 0, Value.slice (some { block := w.heap.size, off := 0 }) 1 1] 50) := by have h := HBl.out; simp only [World.size_alloc] at h; exact h
  clear HBl
  go_enter Tryd.func26, Tryd.ntmps26
  go_wp2_with fail
  refine (new_ok awF _ awB _ _ HR0.out awV).mono ?_
  rintro e w1 ⟨g, v1, rfl, hg, hk, hr, hd⟩
  have HK1 := Lib.hid (HK0.out.tr hk)
  have HR1 := Lib.hid (HR0.out.keepN hk)
  have HB1 := Lib.hid (HBl'.out.keep hk (fun h => h))
  have HD1 := Lib.hid hd
  have hg' : w.heap.size + 2 ≤ g := by have := hg; simp at this; omega
  clear hk hr hd hg HK0 HR0 HBl'
  go_wp2_with fail
  refine (write_at g _ _ _ 16 4 0xFFFFFFFF#64 rfl rfl rfl _ _ HD1.out rfl).mono ?_
  rintro e w2 ⟨rfl, hk, hd⟩
  have HK2 := Lib.hid (HK1.out.trans hk (fun q hq e => by simp only [My.One] at e; omega))
  have HR2 := Lib.hid (HR1.out.keep hk (fun q hq _ e => by simp only [My.One] at e; omega))
  have HB2 := Lib.hid (HB1.out.keep hk (fun e => by simp only [My.One] at e; omega))
  have HD2 := Lib.hid hd
  clear hk hd
  have c0 := blk_c HB2.out 0 _ rfl
  have c1 := blk_c HB2.out 1 _ rfl
  have c2 := blk_c HB2.out 2 _ rfl
  have c3 := blk_c HB2.out 3 _ rfl
  have c4 := blk_c HB2.out 4 _ rfl
  have c5 := blk_c HB2.out 5 _ rfl
  have c6 := blk_c HB2.out 6 _ rfl
  have c7 := blk_c HB2.out 7 _ rfl
  have c8 := blk_c HB2.out 8 _ rfl
  have c9 := blk_c HB2.out 9 _ rfl
  have c10 := blk_c HB2.out 10 _ rfl
  go_wp2_with fail
  refine (valid_any awF _ awB _ _ HR2.out).mono ?_
  rw [awV]
  rintro e w3 ⟨rfl, hk⟩
  have HK3 := Lib.hid (HK2.out.tr hk)
  have HD3 := Lib.hid (HD2.out.keep hk (fun h => h))
  clear hk c0 c1 c2 c3 c4 c5 c6 c7 c8 c9 c10
  go_wp2_with fail
  refine (read_at g _ _ _ 16 4 rfl rfl _ _ HD3.out rfl (aw1 v1)).mono ?_
  rintro e w4 ⟨rfl, rfl⟩
  go_wp2_with fail
  refine (read_at g _ _ _ 0 2 rfl rfl _ _ HD3.out rfl (aw2 v1)).mono ?_
  rintro e w4 ⟨rfl, rfl⟩
  go_wp2
  go_ret
  exact ⟨rfl, HK3.out⟩
end Go.Proofs.YtolbecinjajejaaDoor
