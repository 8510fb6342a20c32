/- The laws GpeValidatesSize, GpeLevelStaysPending: the walks. -/
import Derived.Test.YtolbecinjajejaaDoorG5
namespace Go.Proofs.YtolbecinjajejaaDoor
open Go.RowKit Go.My
set_option linter.unusedVariables false
set_option linter.unusedSimpArgs false

/-- Mod: the number as an unsigned one, taken modulo n. -/
def md (a n : Int) : Int := (IntKind.u64.wrap a) % n
theorem md_range (a n : Int) (h : 0 < n) : 0 ≤ md a n ∧ md a n < n := ⟨Int.emod_nonneg _ (by omega), Int.emod_lt_of_pos _ h⟩
set_option maxHeartbeats 1000000 in
theorem mod_any (a n : Int) (w : World) (h0 : 0 < n) (h1 : n < 9223372036854775808) :
    Calls Tryd.prog 9 #[.int .i64 a, .int .i64 n] w fun e w' => e = .returned (.int .i64 (md a n)) ∧ w = w' := by
  have h2 : (IntKind.u64.wrap n) = n := by rw [IntKind.wrap_u64]; omega
  have h3 := md_range a n h0
  have h5 : 0 ≤ IntKind.u64.wrap a := wrap_u64_nonneg a
  have h4 : wrap64 (IntKind.u64.wrap a % n) = md a n := by unfold md at *; unfold wrap64; omega
  go_enter Tryd.func9, Tryd.ntmps9
  go_wp2
  go_ret
  exact ⟨by simp [h4], rfl⟩

theorem info4 : (Tryd.prog.info? 4).map (fun i => (i.zero, i.size, i.bytes)) = some (some (.bool false), 1, 1) := by kernel_rfl

/-- make([]bool, n). -/
theorem make_bools (n : Nat) (hn : n ≤ 1000) (W : World) : (Instr.makeSlice 27 (.int .i64 n) (.int .i64 n)).run Tryd.prog W =
    .ok (.slice (some ⟨W.heap.size, 0, none⟩) n n) (W.alloc (.cells (madeCells #[.bool false] n) 4)) := by
  obtain ⟨i0, hi, hz⟩ := Option.map_eq_some_iff.1 info4
  simp only [Prod.mk.injEq] at hz
  obtain ⟨hz0, hz1, hz2⟩ := hz
  have h := run_makeSlice W 27 4 i0 (.bool false) Tryd.underlying27 hi hz0 .i64 .i64 n n (by omega) (by omega) (by rw [hz1]; omega) (by rw [hz2]; omega) (by omega)
  rw [h, hz1]
  simp [Value.cells]

theorem row_made (W : World) (n : Nat) : Row1 Value.bool (fun k => W.heap.size ≤ k) (W.alloc (.cells (madeCells #[.bool false] n) 4)) (.slice (some ⟨W.heap.size, 0, none⟩) n n) (List.replicate n false) := by
  have h := Row1.made (enc := Value.bool) (w := W) (List.replicate n false) (t := 4) (cs := madeCells #[.bool false] n) (Blk.new' rfl) (by
    apply List.ext_getElem
    · simp [size_madeCells]
    · intro i h1 h2
      simp [madeCells, Nat.mod_one])
  rw [List.length_replicate] at h
  exact h

set_option maxHeartbeats 4000000 in
theorem sizeLaw (a : Int) (w : World) (ht : Tab w) : Calls Tryd.prog 3 #[.int .i64 a] w fun e w' => e = .returned (.bool true) ∧ Keep Non w w' := by
  have hr := md_range a 192 (by omega)
  obtain ⟨m, hm⟩ : ∃ m : Nat, md a 192 = m := ⟨(md a 192).toNat, by omega⟩
  have hm2 : m < 192 := by omega
  have HM := Lib.hid hm
  have HT := Lib.hid ht
  have HMK := make_bools m (by omega) w
  clear hr hm ht
  by_cases h1 : m < 1 ∨ 64 < m
  · rcases h1 with h1 | h1
    all_goals
      go_enter Tryd.func3, Tryd.ntmps3
      go_wp2_with (go_at_call 9; refine (mod_any _ _ _ (by omega) (by omega)).mono ?_; rintro e w' ⟨rfl, rfl⟩; rw [HM.out])
      clear HMK
      refine (new_bad _ _ _ _ (row_made w m) (by rw [List.length_replicate]; omega)).mono ?_
      rintro e w' ⟨rfl, rfl⟩
      go_wp2_with fail
      refine (awake17 _ (HT.out.keep ((Keep.refl Non w).alloc _) (fun h => h))).mono ?_
      rintro e w2 ⟨rfl, hk⟩
      have HK := Lib.hid (((Keep.refl Non w).alloc _).tr hk)
      clear hk
      go_wp2
      go_ret
      exact ⟨by first | rfl | (simp; omega), HK.out⟩
  · have h2 : 1 ≤ m ∧ m ≤ 64 := by omega
    obtain ⟨h2, h3⟩ := h2
    clear h1
    go_enter Tryd.func3, Tryd.ntmps3
    go_wp2_with (go_at_call 9; refine (mod_any _ _ _ (by omega) (by omega)).mono ?_; rintro e w' ⟨rfl, rfl⟩; rw [HM.out])
    clear HMK
    refine (new_ok _ _ _ _ (row_made w m) (by rw [List.length_replicate]; omega) (by rw [List.length_replicate]; omega)).mono ?_
    rintro e w1 ⟨g, lv, hg, rfl, hk, hlv, hb⟩
    have HK := Lib.hid (((Keep.refl Non w).alloc _).tr hk)
    clear hk hlv hb hg
    go_wp2_with fail
    refine (awake17 _ (HT.out.keep HK.out (fun h => h))).mono ?_
    rintro e w2 ⟨rfl, hk⟩
    have HK2 := Lib.hid (HK.out.tr hk)
    clear hk
    go_wp2
    go_ret
    exact ⟨rfl, HK2.out⟩
end Go.Proofs.YtolbecinjajejaaDoor
