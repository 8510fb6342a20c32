/- Read and Write of a configuration space. -/
import Derived.Test.YtolbecinjajejaaDoorD0
set_option linter.unusedVariables false
set_option linter.unusedSimpArgs false
namespace Go.Proofs.YtolbecinjajejaaDoor
open Go.RowKit Go.My

/-- An access is well-formed. -/
def wfm (o n : Int) : Bool := (decide (n = 1) || decide (n = 2) || decide (n = 4)) && decide (0 ≤ o) && decide (o < 256) && decide (o % n = 0)
theorem wfm_cases {o n : Int} (h : wfm o n = true) : ∃ o' n' : Nat, o = o' ∧ n = n' ∧ (n' = 1 ∨ n' = 2 ∨ n' = 4) ∧ o' + n' ≤ 256 := by
  unfold wfm at h
  simp only [Bool.and_eq_true, Bool.or_eq_true, decide_eq_true_eq] at h
  obtain ⟨⟨⟨h1, h2⟩, h3⟩, h4⟩ := h
  refine ⟨o.toNat, n.toNat, by omega, by omega, by omega, ?_⟩
  rcases h1 with (rfl | rfl) | rfl <;> omega

set_option maxHeartbeats 4000000 in
theorem wellFormed_any (o n : Int) (w : World) : Calls Tryd.prog 49 #[.int .i64 o, .int .i64 n] w fun e w' => e = .returned (.bool (wfm o n)) ∧ w = w' := by
  have core : ∀ c : Int, (c = 1 ∨ c = 2 ∨ c = 4) → Calls Tryd.prog 49 #[.int .i64 o, .int .i64 c] w fun e w' => e = .returned (.bool (wfm o c)) ∧ w = w' := by
    intro c hc
    by_cases h0 : 0 ≤ o
    · by_cases h1 : o < 256
      · by_cases h2 : o % c = 0
        · have HV : Hid (wfm o c = true) := by rcases hc with rfl | rfl | rfl <;> simp [wfm, h0, h1, h2, Hid]
          have h2' := Lib.hid h2
          clear h2
          rcases hc with rfl | rfl | rfl
          all_goals
            go_enter Tryd.func49, Tryd.ntmps49
            go_wp2
            go_ret
            exact ⟨by rw [HV.out]; have := h2'.out; first | rfl | (simp; done) | (simp; omega) | simp_all, rfl⟩
        · have hc' : c = 2 ∨ c = 4 := by
            rcases hc with rfl | rfl | rfl
            · exact absurd (by omega) h2
            · exact .inl rfl
            · exact .inr rfl
          have HV : Hid (wfm o c = false) := by rcases hc' with rfl | rfl <;> simp [wfm, h0, h1, h2, Hid]
          have h2' := Lib.hid h2
          clear h2 hc
          rcases hc' with rfl | rfl
          all_goals
            go_enter Tryd.func49, Tryd.ntmps49
            go_wp2
            go_ret
            exact ⟨by rw [HV.out]; have := h2'.out; first | rfl | (simp; done) | (simp; omega) | simp_all, rfl⟩
      · have HV : Hid (wfm o c = false) := by simp [wfm, h0, h1, Hid]
        rcases hc with rfl | rfl | rfl
        all_goals
          go_enter Tryd.func49, Tryd.ntmps49
          go_wp2
          go_ret
          exact ⟨by rw [HV.out]; first | rfl | (simp; done) | (simp; omega) | simp_all, rfl⟩
    · have HV : Hid (wfm o c = false) := by simp [wfm, h0, Hid]
      rcases hc with rfl | rfl | rfl
      all_goals
        go_enter Tryd.func49, Tryd.ntmps49
        go_wp2
        go_ret
        exact ⟨by rw [HV.out]; first | rfl | (simp; done) | (simp; omega) | simp_all, rfl⟩
  by_cases h1 : n = 1
  · exact core n (by omega)
  by_cases h2 : n = 2
  · exact core n (by omega)
  by_cases h4 : n = 4
  · exact core n (by omega)
  have HV : Hid (wfm o n = false) := by simp [wfm, h1, h2, h4, Hid]
  have e1 : (n == 1) = false := by simpa using h1
  have e2 : (n == 2) = false := by simpa using h2
  have e4 : (n == 4) = false := by simpa using h4
  clear h1 h2 h4
  go_enter Tryd.func49, Tryd.ntmps49
  go_wp2
  go_ret
  exact ⟨by rw [HV.out]; first | rfl | (simp; done) | (simp; omega) | simp_all, rfl⟩

/-- n bytes from o on take the writable bits of v. -/
def wrw (h mk : Nat → BitVec 8) (o n : Nat) (v : BitVec 64) (j : Nat) : BitVec 8 := if o ≤ j ∧ j < o + n then (h j &&& ~~~(mk j)) ||| (byteOf v (j - o) &&& mk j) else h j
theorem wrw_zero (h mk : Nat → BitVec 8) (o : Nat) (x : BitVec 64) : wrw h mk o 0 x = h := by
  funext j; unfold wrw; rw [if_neg (by omega)]
theorem wrw_at (h mk : Nat → BitVec 8) (o n : Nat) (x : BitVec 64) : wrw h mk o n x (o + n) = h (o + n) := by
  unfold wrw; rw [if_neg (by omega)]
theorem wrw_succ (h mk : Nat → BitVec 8) (o n : Nat) (x : BitVec 64) : upd (wrw h mk o n x) (o + n) ((h (o + n) &&& ~~~(mk (o + n))) ||| (byteOf x n &&& mk (o + n))) = wrw h mk o (n + 1) x := by
  funext j
  unfold upd wrw
  by_cases e : j = o + n
  · subst e; rw [if_pos rfl, if_pos (by omega)]; rw [Nat.add_sub_cancel_left]
  · rw [if_neg e]
    by_cases e1 : o ≤ j ∧ j < o + n
    · rw [if_pos e1, if_pos (by omega)]
    · rw [if_neg e1, if_neg (by omega)]
def Dv.wr (d : Dv) (o n : Nat) (v : BitVec 64) : Dv := { d with by_ := wrw d.by_ d.mk_ o n v }

/-- The bytes from o on, little-endian. -/
def rdw (h : Nat → BitVec 8) (o : Nat) : Nat → BitVec 64
  | 0 => 0#64
  | k + 1 => rdw h o k ||| ((h (o + k)).setWidth 64 <<< (8 * k))
theorem bits_or (a b : BitVec 64) : bits .or .u64 (un a) (un b) = un (a ||| b) := by
  show IntKind.u64.wrap ((BitVec.ofInt 64 (un a) ||| BitVec.ofInt 64 (un b)).toNat : Int) = _
  rw [ofInt_un, ofInt_un]; exact wrap_un _
theorem bits_and (a b : BitVec 64) : bits .and .u64 (un a) (un b) = un (a &&& b) := by
  show IntKind.u64.wrap ((BitVec.ofInt 64 (un a) &&& BitVec.ofInt 64 (un b)).toNat : Int) = _
  rw [ofInt_un, ofInt_un]; exact wrap_un _
theorem bits_andNot (a b : BitVec 64) : bits .andNot .u64 (un a) (un b) = un (a &&& ~~~b) := by
  show IntKind.u64.wrap ((BitVec.ofInt 64 (un a) &&& ~~~BitVec.ofInt 64 (un b)).toNat : Int) = _
  rw [ofInt_un, ofInt_un]; exact wrap_un _
theorem byte_mul (b : BitVec 8) (k : Nat) : IntKind.u64.wrap (bn b * 2 ^ (8 * k)) = un (b.setWidth 64 <<< (8 * k)) := by
  rw [IntKind.wrap_u64]
  unfold un bn
  rw [BitVec.toNat_shiftLeft, Nat.shiftLeft_eq, BitVec.toNat_setWidth]
  have h : b.toNat % 2 ^ 64 = b.toNat := Nat.mod_eq_of_lt (by have := b.isLt; omega)
  rw [h]
  simp
theorem rdw_step (h : Nat → BitVec 8) (o k : Nat) : bits .or .u64 (un (rdw h o k)) (IntKind.u64.wrap (bn (h (o + k)) * 2 ^ (8 * k))) = un (rdw h o (k + 1)) := by
  rw [byte_mul, bits_or]; rfl
theorem bits_or8 (a b : BitVec 8) : bits .or .u8 (bn a) (bn b) = bn (a ||| b) := by
  show IntKind.u8.wrap ((BitVec.ofInt 8 (bn a) ||| BitVec.ofInt 8 (bn b)).toNat : Int) = _
  rw [ofInt_bn, ofInt_bn]; exact wrap_bn _
theorem bits_and8 (a b : BitVec 8) : bits .and .u8 (bn a) (bn b) = bn (a &&& b) := by
  show IntKind.u8.wrap ((BitVec.ofInt 8 (bn a) &&& BitVec.ofInt 8 (bn b)).toNat : Int) = _
  rw [ofInt_bn, ofInt_bn]; exact wrap_bn _
theorem bits_andNot8 (a b : BitVec 8) : bits .andNot .u8 (bn a) (bn b) = bn (a &&& ~~~b) := by
  show IntKind.u8.wrap ((BitVec.ofInt 8 (bn a) &&& ~~~BitVec.ofInt 8 (bn b)).toNat : Int) = _
  rw [ofInt_bn, ofInt_bn]; exact wrap_bn _

set_option maxHeartbeats 4000000 in
theorem read_ok (g o n : Nat) (d : Dv) (w : World) (h : IsD 85 w g d) (hw : wfm o n = true) :
    Calls Tryd.prog 31 #[.pointer (some ⟨g, 0, none⟩), .int .i64 o, .int .i64 n] w fun e w' => e = .returned (.int .u64 (un (rdw d.by_ o n))) ∧ w = w' := by
  obtain ⟨o', n', ho', hn', hn, ho⟩ := wfm_cases hw
  obtain rfl : o = o' := by omega
  obtain rfl : n = n' := by omega
  have H := Lib.hid h
  have HW := Lib.hid hw
  clear h hw ho' hn'
  go_enter Tryd.func31, Tryd.ntmps31
  go_wp2_with fail
  refine (wellFormed_any _ _ _).mono ?_
  rw [HW.out]
  rintro e w' ⟨rfl, rfl⟩
  go_wp2_with fail
  go_loop [7, 14] (fun v i => ∃ k : Nat, i = .int .i64 k ∧ k ≤ n ∧ v = .int .u64 (un (rdw d.by_ o k))) (fun _ i => n - (intOf i).toNat)
  case atStart => exact ⟨0, rfl, Nat.zero_le _, rfl⟩
  case round =>
    obtain ⟨k, rfl, hk, rfl⟩ := hrel
    by_cases hlt : k < n
    · have c1 := H.out.cb (j := o + k) (by omega)
      have b0 := bn_nonneg (d.by_ (o + k))
      have b1 := bn_lt (d.by_ (o + k))
      have HS := Lib.hid (rdw_step d.by_ o k)
      go_wp2
      exact ⟨⟨k + 1, by go_num, by omega, by rw [HS.out]⟩, by simp [intOf]; omega⟩
    · obtain rfl : k = n := by omega
      go_wp2
      go_ret
      exact ⟨rfl, rfl⟩

theorem wrw_step (h mk : Nat → BitVec 8) (o k : Nat) (v : BitVec 64) :
    bits .or .u8 (bits .andNot .u8 (bn (h (o + k))) (bn (mk (o + k)))) (bits .and .u8 (un v / 2 ^ (8 * k) % 256) (bn (mk (o + k)))) = bn ((h (o + k) &&& ~~~(mk (o + k))) ||| (byteOf v k &&& mk (o + k))) := by
  rw [byte_div, bits_andNot8, bits_and8, bits_or8]

set_option maxHeartbeats 4000000 in
theorem write_ok (g o n : Nat) (v : BitVec 64) (d : Dv) (w : World) (h : IsD 85 w g d) (hw : wfm o n = true) :
    Calls Tryd.prog 30 #[.pointer (some ⟨g, 0, none⟩), .int .i64 o, .int .i64 n, .int .u64 (un v)] w fun e w' => e = .returned (.tuple #[]) ∧ Keep (My.One g) w w' ∧ IsD 85 w' g (d.wr o n v) := by
  obtain ⟨o', n', ho', hn', hn, ho⟩ := wfm_cases hw
  obtain rfl : o = o' := by omega
  obtain rfl : n = n' := by omega
  have H := Lib.hid h
  have HW := Lib.hid hw
  clear h hw ho' hn'
  have hx0 := un_nonneg v
  have hx1 := un_lt v
  go_enter Tryd.func30, Tryd.ntmps30
  go_wp2_with fail
  refine (wellFormed_any _ _ _).mono ?_
  rw [HW.out]
  rintro e w' ⟨rfl, rfl⟩
  go_wp2_with fail
  go_loopw [15] (fun i wr => ∃ k : Nat, i = .int .i64 k ∧ k ≤ n ∧ Hid (IsD 85 wr g (d.wr o k v)) ∧ Hid (Keep (My.One g) w wr)) (fun i _ => n - (intOf i).toNat)
  case atStart => exact ⟨0, rfl, Nat.zero_le _, by have := H.out; show IsD 85 w g _; unfold Dv.wr; rw [wrw_zero]; exact this, Keep.refl _ _⟩
  case round =>
    obtain ⟨k, rfl, hk, HD, HK⟩ := hrel
    by_cases hlt : k < n
    · have c1 : wr.cell? ⟨g, 11 + (o + k), none⟩ = some (.int .u8 (bn (d.by_ (o + k)))) := by have h1 : wr.cell? ⟨g, 11 + (o + k), none⟩ = some (.int .u8 (bn (wrw d.by_ d.mk_ o k v (o + k)))) := HD.out.cb (j := o + k) (by omega); rw [wrw_at] at h1; exact h1
      have f1 := HD.out.free (11 + (o + k))
      have c2 : wr.cell? ⟨g, 267 + (o + k), none⟩ = some (.int .u8 (bn (d.mk_ (o + k)))) := HD.out.cm (j := o + k) (by omega)
      have b0 := bn_nonneg (d.by_ (o + k))
      have b1 := bn_lt (d.by_ (o + k))
      have m0 := bn_nonneg (d.mk_ (o + k))
      have m1 := bn_lt (d.mk_ (o + k))
      have HS := Lib.hid (wrw_step d.by_ d.mk_ o k v)
      go_wp2
      go_region
      all_goals
        go_wp2
        refine ⟨⟨k + 1, by go_num, by omega, ?_, ?_⟩, by simp [intOf]; omega⟩
        · rw [HS.out]
          have h1 := HD.out.setB (j := o + k) (by omega) ((d.by_ (o + k) &&& ~~~(d.mk_ (o + k))) ||| (byteOf v k &&& d.mk_ (o + k)))
          unfold Dv.wr at h1
          simp only [wrw_succ] at h1
          exact h1
        · exact Lib.hid (HK.out.setOne _ _).drew
    · obtain rfl : k = n := by omega
      go_wp2
      go_end0
      exact ⟨rfl, HK.out, HD.out⟩

set_option maxHeartbeats 4000000 in
theorem write_no (g : Nat) (o n : Int) (v : BitVec 64) (w : World) (hw : wfm o n = false) :
    Calls Tryd.prog 30 #[.pointer (some ⟨g, 0, none⟩), .int .i64 o, .int .i64 n, .int .u64 (un v)] w fun e w' => e = .returned (.tuple #[]) ∧ w = w' := by
  have HW := Lib.hid hw
  clear hw
  go_enter Tryd.func30, Tryd.ntmps30
  go_wp2_with fail
  refine (wellFormed_any _ _ _).mono ?_
  rw [HW.out]
  rintro e w' ⟨rfl, rfl⟩
  go_wp2_with fail
  exact bodyPost_ret (results_none rfl _ _ _) rfl ⟨rfl, rfl⟩

/-- Any write: the bits that are not writable stay. -/
def Stays (d d' : Dv) : Prop := d'.f = d.f ∧ d'.sv = d.sv ∧ d'.mk_ = d.mk_ ∧ ∀ j, d'.by_ j &&& ~~~(d.mk_ j) = d.by_ j &&& ~~~(d.mk_ j)
theorem Stays.refl (d : Dv) : Stays d d := ⟨rfl, rfl, rfl, fun _ => rfl⟩
theorem Stays.trans {a b c : Dv} (h : Stays a b) (k : Stays b c) : Stays a c :=
  ⟨k.1.trans h.1, k.2.1.trans h.2.1, k.2.2.1.trans h.2.2.1, fun j => by have h1 := h.2.2.2 j; have h2 := k.2.2.2 j; rw [h.2.2.1] at h2; exact h2.trans h1⟩
theorem Dv.wr_stays (d : Dv) (o n : Nat) (v : BitVec 64) : Stays d (d.wr o n v) := by
  refine ⟨rfl, rfl, rfl, fun j => ?_⟩
  show wrw d.by_ d.mk_ o n v j &&& _ = _
  unfold wrw
  split
  · ext i hi
    simp
    cases (d.mk_ j)[i] <;> simp
  · rfl
theorem write_any (g : Nat) (o n : Int) (v : BitVec 64) (d : Dv) (w : World) (h : IsD 85 w g d) :
    Calls Tryd.prog 30 #[.pointer (some ⟨g, 0, none⟩), .int .i64 o, .int .i64 n, .int .u64 (un v)] w fun e w' => e = .returned (.tuple #[]) ∧ Keep (My.One g) w w' ∧ ∃ d', Stays d d' ∧ IsD 85 w' g d' := by
  cases hw : wfm o n
  · refine (write_no g o n v w hw).mono ?_
    rintro e w' ⟨rfl, rfl⟩
    exact ⟨rfl, Keep.refl _ _, d, Stays.refl d, h⟩
  · obtain ⟨o', n', rfl, rfl, _⟩ := wfm_cases hw
    refine (write_ok g o' n' v d w h hw).mono ?_
    rintro e w' ⟨rfl, hk, hd⟩
    exact ⟨rfl, hk, _, d.wr_stays o' n' v, hd⟩
end Go.Proofs.YtolbecinjajejaaDoor
