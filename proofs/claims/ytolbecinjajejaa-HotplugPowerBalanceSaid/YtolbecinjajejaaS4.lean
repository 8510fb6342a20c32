/- Advance and State of both slots; Mod; Equal at whole numbers. -/
import Derived.Test.YtolbecinjajejaaL0
import Derived.Test.YtolbecinjajejaaProg
namespace Go.Proofs.Ytolbecinjajejaa
open Go.RowKit Go.My
set_option linter.unusedVariables false
set_option linter.unusedSimpArgs false

def adv (st gd now : Int) : List Int × Int := if st = 3 ∧ gd ≤ now then ([3], 4) else ([], st)

def Adv (t : TypeId) (g : Nat) (w : World) (d gd : Int) (r : List Int × Int) (e : Ending) (w' : World) : Prop :=
  ∃ v, e = .returned v ∧ Ints (fun k => w.heap.size ≤ k) .i64 w' v r.1 ∧ Blk w' g #[.int .i64 r.2, .int .u64 d, .int .u64 gd] t ∧ Keep (One g) w w'

set_option maxHeartbeats 1000000 in
theorem implAdvance (g : Nat) (st d gd now : Int) (w : World) (hb : Blk w g #[.int .i64 st, .int .u64 d, .int .u64 gd] 71) :
    Calls Try.prog 13 #[.pointer (some ⟨g, 0, none⟩), .int .u64 now] w (Adv 71 g w d gd (adv st gd now)) := by
  have hlt := hb.lt
  have c0 := hb.cell 0
  have c1 := hb.cell 1
  have c2 := hb.cell 2
  have f0 := hb.free 0
  simp at c0 c1 c2
  have HB := Lib.hid hb
  clear hb
  by_cases h : st = 3
  · subst h
    by_cases hn : gd ≤ now
    · have hr : adv 3 gd now = ([3], 4) := by simp [adv, hn]
      have hn' : ¬ now < gd := by omega
      rw [hr]
      clear hr
      go_enter Try.func13, Try.ntmps13
      go_wp2
      go_ret
      refine ⟨.slice (some ⟨w.heap.size, 0, none⟩) 1 1, rfl, Ints.made [_] (t := 3) (cs := #[_]) ?_ rfl, ?_, ?_⟩
      all_goals
        repeat (first | (with_reducible exact HB.out) | (with_reducible exact Keep.refl _ _) | exact Blk.new' (by simp) | apply Blk.s3_0 | apply Blk.alloc | apply Keep.setOne | apply Keep.alloc | refine Blk.far ?_ (by have := HB.out.lt; simp; omega) _)
    · have hr : adv 3 gd now = ([], 3) := by simp [adv, hn]
      have hn' : now < gd := by omega
      rw [hr]
      clear hr
      go_enter Try.func13, Try.ntmps13
      go_wp2
      go_ret
      exact ⟨_, rfl, Ints.nil _ _ _, HB.out, Keep.refl _ _⟩
  · have hr : adv st gd now = ([], st) := by simp [adv, h]
    have h' : (st == 3) = false := by simpa using h
    rw [hr]
    clear hr
    go_enter Try.func13, Try.ntmps13
    go_wp2
    go_ret
    exact ⟨_, rfl, Ints.nil _ _ _, HB.out, Keep.refl _ _⟩

set_option maxHeartbeats 1000000 in
theorem refAdvance (g : Nat) (st d gd now : Int) (w : World) (hb : Blk w g #[.int .i64 st, .int .u64 d, .int .u64 gd] 39) :
    Calls Try.prog 14 #[.pointer (some ⟨g, 0, none⟩), .int .u64 now] w (Adv 39 g w d gd (adv st gd now)) := by
  have hlt := hb.lt
  have c0 := hb.cell 0
  have c1 := hb.cell 1
  have c2 := hb.cell 2
  have f0 := hb.free 0
  simp at c0 c1 c2
  have HB := Lib.hid hb
  clear hb
  by_cases h : st = 3
  · subst h
    by_cases hn : gd ≤ now
    · have hr : adv 3 gd now = ([3], 4) := by simp [adv, hn]
      have hn' : ¬ now < gd := by omega
      rw [hr]
      clear hr
      go_enter Try.func14, Try.ntmps14
      go_wp2
      go_ret
      refine ⟨.slice (some ⟨w.heap.size, 0, none⟩) 1 1, rfl, Ints.made [_] (t := 3) (cs := #[_]) ?_ rfl, ?_, ?_⟩
      all_goals
        repeat (first | (with_reducible exact HB.out) | (with_reducible exact Keep.refl _ _) | exact Blk.new' (by simp) | apply Blk.s3_0 | apply Blk.alloc | apply Keep.setOne | apply Keep.alloc | refine Blk.far ?_ (by have := HB.out.lt; simp; omega) _)
    · have hr : adv 3 gd now = ([], 3) := by simp [adv, hn]
      have hn' : now < gd := by omega
      rw [hr]
      clear hr
      go_enter Try.func14, Try.ntmps14
      go_wp2
      go_ret
      exact ⟨_, rfl, Ints.nil _ _ _, HB.out, Keep.refl _ _⟩
  · have hr : adv st gd now = ([], st) := by simp [adv, h]
    have h' : (st == 3) = false := by simpa using h
    rw [hr]
    clear hr
    go_enter Try.func14, Try.ntmps14
    go_wp2
    go_ret
    exact ⟨_, rfl, Ints.nil _ _ _, HB.out, Keep.refl _ _⟩

theorem slotState (g : Nat) (st d gd : Int) (w : World) (hb : Blk w g #[.int .i64 st, .int .u64 d, .int .u64 gd] 71) :
    Calls Try.prog 17 #[.pointer (some ⟨g, 0, none⟩)] w fun e w' => e = .returned (.int .i64 st) ∧ w' = w := by
  have c0 := hb.cell 0
  simp at c0
  clear hb
  go_enter Try.func17, Try.ntmps17
  go_wp2
  go_ret
  exact ⟨rfl, rfl⟩

/-- Mod: the number as an unsigned one, taken modulo n. -/
def md (a n : Int) : Int := (IntKind.u64.wrap a) % n

theorem md_range (a n : Int) (h : 0 < n) : 0 ≤ md a n ∧ md a n < n := ⟨Int.emod_nonneg _ (by omega), Int.emod_lt_of_pos _ h⟩

set_option maxHeartbeats 1000000 in
theorem mod_any (a n : Int) (w : World) (h0 : 0 < n) (h1 : n < 9223372036854775808) :
    Calls Try.prog 11 #[.int .i64 a, .int .i64 n] w fun e w' => e = .returned (.int .i64 (md a n)) ∧ w = w' := by
  have h2 : (IntKind.u64.wrap n) = n := by rw [IntKind.wrap_u64]; omega
  have h3 := md_range a n h0
  have h5 : 0 ≤ IntKind.u64.wrap a := wrap_u64_nonneg a
  have h4 : wrap64 (IntKind.u64.wrap a % n) = md a n := by unfold md at *; unfold wrap64; omega
  go_enter Try.func11, Try.ntmps11
  go_wp2
  go_ret
  exact ⟨by simp [h4], rfl⟩

/-- The k-th number. -/
def rd (xs : List Int) (k : Nat) : Int := xs.getD k 0
theorem rd_eq (xs : List Int) (k : Nat) (h : k < xs.length) : xs[k] = rd xs k := by simp [rd, h]

theorem ints_at {O : Nat → Prop} {k : IntKind} {A : Option Addr} {w : World} {xs : List Int} (h : xs = [] ∨ ∃ b off, A = some ⟨b, off, none⟩ ∧ O b ∧ b < w.heap.size ∧ ∀ i (h : i < xs.length), w.cell? ⟨b, off + i, none⟩ = some (.int k xs[i])) {i : Nat} (hi : i < xs.length) :
    ∃ b off, A = some ⟨b, off, none⟩ ∧ w.cell? ⟨b, off + i, none⟩ = some (.int k (rd xs i)) := by
  rcases h with rfl | ⟨b, off, h1, _, _, h2⟩
  · simp at hi
  · exact ⟨b, off, h1, by rw [h2 i hi, rd_eq]⟩
theorem take_rd (xs : List Int) (k : Nat) (h : k < xs.length) : xs.take (k + 1) = xs.take k ++ [rd xs k] := by
  rw [List.take_succ_eq_append_getElem h, rd_eq]

set_option maxHeartbeats 1000000 in
theorem equal_any {O O' : Nat → Prop} (v u : Value) (xs ys : List Int) (w : World) (hx : Ints O .i64 w v xs) (hy : Ints O' .i64 w u ys) (hm : xs.length ≤ 9223372036854775807) :
    Calls Try.prog 12 #[v, u] w fun e w' => e = .returned (.bool (decide (xs = ys))) ∧ Keep Non w w' := by
  obtain ⟨A, c, rfl, hl, hx⟩ := hx
  obtain ⟨A', c', rfl, hl', hy⟩ := hy
  have HX := Lib.hid hx
  have HY := Lib.hid hy
  clear hx hy
  by_cases hlen : xs.length = ys.length
  · have hne : ((xs.length : Int) != (ys.length : Int)) = false := by simp [hlen]
    have HL := Lib.hid hlen
    clear hlen
    go_enter Try.func12, Try.ntmps12
    go_wp2
    go_loopw [5] (fun i wr => ∃ k : Nat, k ≤ xs.length ∧ i = .int .i64 k ∧ Hid (xs.take k = ys.take k) ∧ ∃ n, wr = w.drewN n) (fun i _ => xs.length - (intOf i).toNat)
    case atStart => exact ⟨0, Nat.zero_le _, rfl, rfl, 0, rfl⟩
    case round =>
      obtain ⟨k, hk, rfl, HT, n, rfl⟩ := hrel
      by_cases hlt : k < xs.length
      · have hlt' : k < ys.length := by have := HL.out; omega
        obtain ⟨b, off, rfl, hc⟩ := ints_at HX.out hlt
        obtain ⟨b', off', rfl, hc'⟩ := ints_at HY.out hlt'
        by_cases he : rd xs k = rd ys k
        · have hb : (rd xs k != rd ys k) = false := by simpa using he
          have HE := Lib.hid he
          clear he
          go_wp2
          go_quiet (fail)
          go_wp2
          refine ⟨⟨k + 1, by omega, by go_num, ?_, _, rfl⟩, by simp [intOf]; omega⟩
          show xs.take (k + 1) = ys.take (k + 1)
          rw [take_rd _ _ hlt, take_rd _ _ hlt', HT.out, HE.out]
        · have hb : (rd xs k != rd ys k) = true := by simpa using he
          have hd : decide (xs = ys) = false := by simp; rintro rfl; exact he rfl
          have HD := Lib.hid hd
          clear he hd
          go_wp2
          go_quiet (fail)
          go_wp2
          go_ret
          exact ⟨by rw [HD.out]; rfl, by repeat (first | exact Keep.refl _ _ | apply Keep.drewN)⟩
      · have hd : decide (xs = ys) = true := by
          simp
          have h1 := HT.out
          rw [List.take_of_length_le (by omega), List.take_of_length_le (by have := HL.out; omega)] at h1
          exact h1
        have HD := Lib.hid hd
        clear hd
        go_wp2
        go_ret
        exact ⟨by rw [HD.out]; rfl, by repeat (first | exact Keep.refl _ _ | apply Keep.drewN)⟩
  · have hne : ((xs.length : Int) != (ys.length : Int)) = true := by simp; omega
    have hd : decide (xs = ys) = false := by simp; rintro rfl; exact hlen rfl
    rw [hd]
    clear hd hlen
    go_enter Try.func12, Try.ntmps12
    go_wp2
    go_ret
    exact ⟨rfl, Keep.refl _ _⟩
end Go.Proofs.Ytolbecinjajejaa
