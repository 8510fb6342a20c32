/- The configuration space of a function: bytes and masks by bit vectors, as a block of cells. -/
import Derived.Test.YtolbecinjajejaaDoorP0
import Derived.Deep.RegionWith
import Derived.BigRegion
set_option linter.unusedVariables false
set_option linter.unusedSimpArgs false
namespace Go.Proofs.YtolbecinjajejaaDoor
open Go.RowKit Go.My

/-- A byte as the walk's number. -/
def bn (b : BitVec 8) : Int := (b.toNat : Int)
theorem bn_nonneg (b : BitVec 8) : 0 ≤ bn b := Int.natCast_nonneg _
theorem bn_lt (b : BitVec 8) : bn b < 256 := by have := b.isLt; unfold bn; omega
theorem bn_inj {a b : BitVec 8} (h : bn a = bn b) : a = b := by unfold bn at h; exact BitVec.eq_of_toNat_eq (by omega)
theorem ofInt_bn (b : BitVec 8) : BitVec.ofInt 8 (bn b) = b := by
  unfold bn; rw [BitVec.ofInt_natCast]; simp
/-- A word of 64 bits as the walk's number. -/
def un (b : BitVec 64) : Int := (b.toNat : Int)
theorem un_nonneg (b : BitVec 64) : 0 ≤ un b := Int.natCast_nonneg _
theorem un_lt (b : BitVec 64) : un b < 18446744073709551616 := by have := b.isLt; unfold un; omega
theorem un_inj {a b : BitVec 64} (h : un a = un b) : a = b := by unfold un at h; exact BitVec.eq_of_toNat_eq (by omega)
theorem ofInt_un (b : BitVec 64) : BitVec.ofInt 64 (un b) = b := by
  unfold un; rw [BitVec.ofInt_natCast]; simp
theorem wrap_un (b : BitVec 64) : IntKind.u64.wrap (un b) = un b := by
  rw [IntKind.wrap_u64]; have := un_lt b; have := un_nonneg b; omega
theorem wrap_bn (b : BitVec 8) : IntKind.u8.wrap (bn b) = bn b := by
  rw [IntKind.wrap_u8]; have := bn_lt b; have := bn_nonneg b; omega
/-- Byte i of a word. -/
def byteOf (x : BitVec 64) (i : Nat) : BitVec 8 := (x >>> (8 * i)).setWidth 8

theorem byte_div (x : BitVec 64) (k : Nat) : un x / 2 ^ (8 * k) % 256 = bn (byteOf x k) := by
  unfold un bn byteOf
  rw [BitVec.toNat_setWidth, BitVec.toNat_ushiftRight, Nat.shiftRight_eq_div_pow]
  simp
/-- The state of a configuration space. -/
structure Dv where
  f : Fh
  sv : Value
  by_ : Nat → BitVec 8
  mk_ : Nat → BitVec 8
/-- n bytes from o on become those of x. -/
def putw (h : Nat → BitVec 8) (o n : Nat) (x : BitVec 64) (j : Nat) : BitVec 8 := if o ≤ j ∧ j < o + n then byteOf x (j - o) else h j
def Dv.def_ (d : Dv) (o n : Nat) (x m : BitVec 64) : Dv := { d with by_ := putw d.by_ o n x, mk_ := putw d.mk_ o n m }
def upd {α : Type} (h : Nat → α) (i : Nat) (x : α) (j : Nat) : α := if j = i then x else h j

/-- A device in memory: t is its struct's type. -/
def IsD (t : TypeId) (w : World) (g : Nat) (d : Dv) : Prop :=
  ∃ cs : Array Value, Blk w g cs t ∧ cs.size = 523 ∧ (∀ i, i < 11 → cs[i]? = (fhL d.f d.sv)[i]?) ∧ (∀ j, j < 256 → cs[11 + j]? = some (.int .u8 (bn (d.by_ j)))) ∧ (∀ j, j < 256 → cs[267 + j]? = some (.int .u8 (bn (d.mk_ j))))

section
variable {t : TypeId} {w : World} {g : Nat} {d : Dv}
theorem IsD.lt (h : IsD t w g d) : g < w.heap.size := by obtain ⟨cs, hb, _⟩ := h; exact hb.lt
theorem IsD.cf (h : IsD t w g d) {i : Nat} (hi : i < 11) : w.cell? ⟨g, i, none⟩ = (fhL d.f d.sv)[i]? := by
  obtain ⟨cs, hb, hs, h1, h2, h3⟩ := h; rw [hb.cell, h1 i hi]
theorem IsD.cb (h : IsD t w g d) {j : Nat} (hj : j < 256) : w.cell? ⟨g, 11 + j, none⟩ = some (.int .u8 (bn (d.by_ j))) := by
  obtain ⟨cs, hb, hs, h1, h2, h3⟩ := h; rw [hb.cell, h2 j hj]
theorem IsD.cm (h : IsD t w g d) {j : Nat} (hj : j < 256) : w.cell? ⟨g, 267 + j, none⟩ = some (.int .u8 (bn (d.mk_ j))) := by
  obtain ⟨cs, hb, hs, h1, h2, h3⟩ := h; rw [hb.cell, h3 j hj]
theorem IsD.free (h : IsD t w g d) (i : Nat) : w.frozen? ⟨g, i, none⟩ = false := by
  obtain ⟨cs, hb, _⟩ := h; exact hb.free i
theorem IsD.keep {S : Nat → Prop} {w1 : World} (h : IsD t w g d) (k : Keep S w w1) (hn : ¬ S g) : IsD t w1 g d := by
  obtain ⟨cs, hb, h⟩ := h; exact ⟨cs, hb.keep k hn, h⟩
theorem IsD.drew (h : IsD t w g d) : IsD t w.drew g d := h
theorem IsD.drewN (h : IsD t w g d) (n : Nat) : IsD t (w.drewN n) g d := h
theorem IsD.setB (h : IsD t w g d) {j : Nat} (hj : j < 256) (x : BitVec 8) : IsD t (w.setCell ⟨g, 11 + j, none⟩ (.int .u8 (bn x))) g { d with by_ := upd d.by_ j x } := by
  obtain ⟨cs, hb, hs, h1, h2, h3⟩ := h
  refine ⟨_, hb.set _ _, by simpa using hs, fun i hi => ?_, fun i hi => ?_, fun i hi => ?_⟩
  · rw [Array.getElem?_setIfInBounds, if_neg (by omega)]; exact h1 i hi
  · rw [Array.getElem?_setIfInBounds]
    by_cases e : j = i
    · subst e; rw [if_pos rfl, if_pos (by omega)]; simp [upd]
    · rw [if_neg (by omega)]; rw [h2 i hi]; simp [upd, Ne.symm e]
  · rw [Array.getElem?_setIfInBounds, if_neg (by omega)]; exact h3 i hi
theorem IsD.setM (h : IsD t w g d) {j : Nat} (hj : j < 256) (x : BitVec 8) : IsD t (w.setCell ⟨g, 267 + j, none⟩ (.int .u8 (bn x))) g { d with mk_ := upd d.mk_ j x } := by
  obtain ⟨cs, hb, hs, h1, h2, h3⟩ := h
  refine ⟨_, hb.set _ _, by simpa using hs, fun i hi => ?_, fun i hi => ?_, fun i hi => ?_⟩
  · rw [Array.getElem?_setIfInBounds, if_neg (by omega)]; exact h1 i hi
  · rw [Array.getElem?_setIfInBounds, if_neg (by omega)]; exact h2 i hi
  · rw [Array.getElem?_setIfInBounds]
    by_cases e : j = i
    · subst e; rw [if_pos rfl, if_pos (by omega)]; simp [upd]
    · rw [if_neg (by omega)]; rw [h3 i hi]; simp [upd, Ne.symm e]
end

theorem putw_succ (h : Nat → BitVec 8) (o n : Nat) (x : BitVec 64) : upd (putw h o n x) (o + n) (byteOf x n) = putw h o (n + 1) x := by
  funext j
  unfold upd putw
  by_cases e : j = o + n
  · subst e; rw [if_pos rfl, if_pos (by omega)]; rw [Nat.add_sub_cancel_left]
  · rw [if_neg e]
    by_cases e1 : o ≤ j ∧ j < o + n
    · rw [if_pos e1, if_pos (by omega)]
    · rw [if_neg e1, if_neg (by omega)]
theorem putw_zero (h : Nat → BitVec 8) (o : Nat) (x : BitVec 64) : putw h o 0 x = h := by
  funext j; unfold putw; rw [if_neg (by omega)]

set_option maxHeartbeats 1000000 in
theorem define_any (g : Nat) (o n : Nat) (x m : BitVec 64) (d : Dv) (w : World) (h : IsD 85 w g d) (ho : o + n ≤ 256) (hn : n ≤ 8) :
    Calls Tryd.prog 46 #[.pointer (some ⟨g, 0, none⟩), .int .i64 o, .int .i64 n, .int .u64 (un x), .int .u64 (un m)] w fun e w' => e = .returned (.tuple #[]) ∧ Keep (My.One g) w w' ∧ IsD 85 w' g (d.def_ o n x m) := by
  have H := Lib.hid h
  clear h
  have hx0 := un_nonneg x
  have hx1 := un_lt x
  have hm0 := un_nonneg m
  have hm1 := un_lt m
  go_enter Tryd.func46, Tryd.ntmps46
  go_wp2
  go_loopw [12] (fun i wr => ∃ k : Nat, i = .int .i64 k ∧ k ≤ n ∧ Hid (IsD 85 wr g (d.def_ o k x m)) ∧ Hid (Keep (My.One g) w wr)) (fun i _ => n - (intOf i).toNat)
  case atStart => exact ⟨0, rfl, Nat.zero_le _, by have := H.out; show IsD 85 w g _; unfold Dv.def_; rw [putw_zero, putw_zero]; exact this, Keep.refl _ _⟩
  case round =>
    obtain ⟨k, rfl, hk, HD, HK⟩ := hrel
    by_cases hlt : k < n
    · have c1 := HD.out.cb (j := o + k) (by omega)
      have f1 := HD.out.free (11 + (o + k))
      have c2 := HD.out.cm (j := o + k) (by omega)
      have f2 := HD.out.free (267 + (o + k))
      have e1 := Lib.hid (byte_div x k)
      have e2 := Lib.hid (byte_div m k)
      go_wp2
      go_region
      all_goals
        go_wp2
        go_region
      all_goals
        go_wp2
        refine ⟨⟨k + 1, by go_num, by omega, ?_, ?_⟩, by simp [intOf]; omega⟩
        · rw [e1.out, e2.out]
          have h1 := HD.out.setB (j := o + k) (by omega) (byteOf x k)
          have h2 := h1.setM (j := o + k) (by omega) (byteOf m k)
          unfold Dv.def_ at h2
          simp only [putw_succ] at h2
          exact h2
        · exact Lib.hid ((HK.out.setOne _ _).setOne _ _).drew.drew
    · obtain rfl : k = n := by omega
      go_wp2
      go_end0
      exact ⟨rfl, HK.out, HD.out⟩
end Go.Proofs.YtolbecinjajejaaDoor
