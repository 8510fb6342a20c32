/- The given slot's method Handle meets the same table as the reference's. -/
import Derived.Test.YtolbecinjajejaaS2
namespace Go.Proofs.Ytolbecinjajejaa
open Go.RowKit Go.My
set_option linter.unusedVariables false
set_option linter.unusedSimpArgs false

attribute [local go_sem] max2_int min2_int max_two min_two
set_option maxHeartbeats 4000000 in
set_option maxRecDepth 100000 in
theorem implHandle (g : Nat) (st d gd ev now : Int) (w : World) (hb : Blk w g #[.int .i64 st, .int .u64 d, .int .u64 gd] 71) (h1 : 1 ≤ st) (h2 : st ≤ 6)
    (h3 : 0 ≤ now) (h4 : 0 ≤ d) (h5 : now + d < 9223372036854775808) :
    Calls Try.prog 15 #[.pointer (some ⟨g, 0, none⟩), .int .i64 ev, .int .u64 now] w (Hnd 71 g w d (hnd st d gd ev now)) := by
  have hlt := hb.lt
  have c0 := hb.cell 0
  have c1 := hb.cell 1
  have c2 := hb.cell 2
  have f0 := hb.free 0
  have f2 := hb.free 2
  simp at c0 c1 c2
  have HB := Lib.hid hb
  clear hb
  rcases (by omega : ev < 1 ∨ 6 < ev ∨ ev = 1 ∨ ev = 2 ∨ ev = 3 ∨ ev = 4 ∨ ev = 5 ∨ ev = 6) with h | h | rfl | rfl | rfl | rfl | rfl | rfl
  · have hr : hnd st d gd ev now = ([], 1, st, gd) := by unfold hnd; (repeat rw [if_neg (by omega)])
    rw [hr]
    go_enter Try.func15, Try.ntmps15
    go_wp2
    go_ret2
    exact ⟨_, rfl, Ints.nil _ _ _, HB.out, Keep.refl _ _⟩
  · have hr : hnd st d gd ev now = ([], 1, st, gd) := by unfold hnd; (repeat rw [if_neg (by omega)])
    rw [hr]
    go_enter Try.func15, Try.ntmps15
    go_wp2
    go_ret2
    exact ⟨_, rfl, Ints.nil _ _ _, HB.out, Keep.refl _ _⟩
  all_goals
    rcases (by omega : st = 1 ∨ st = 2 ∨ st = 3 ∨ st = 4 ∨ st = 5 ∨ st = 6) with rfl | rfl | rfl | rfl | rfl | rfl
    all_goals
      generalize hr : hnd _ d gd _ now = r
      simp [hnd] at hr
      subst hr
      go_enter Try.func15, Try.ntmps15
      go_wp2
      go_ret3
      go_wp2
      go_ret2
      first
        | refine ⟨.slice none 0 0, rfl, Ints.nil _ _ _, ?_, ?_⟩
        | refine ⟨.slice (some ⟨w.heap.size, 0, none⟩) 1 1, rfl, Ints.made [_] (t := 3) (cs := #[_]) ?_ rfl, ?_, ?_⟩
        | refine ⟨.slice (some ⟨w.heap.size, 0, none⟩) 2 2, rfl, Ints.made [_, _] (t := 3) (cs := #[_, _]) ?_ rfl, ?_, ?_⟩
      all_goals
        repeat (first | (with_reducible exact HB.out) | (with_reducible exact Keep.refl _ _) | exact Blk.new' (by simp) | apply Blk.s3_0 | apply Blk.s3_2 | apply Blk.alloc | apply Keep.setOne | apply Keep.alloc | refine Blk.far ?_ (by have := HB.out.lt; simp; omega) _)
end Go.Proofs.Ytolbecinjajejaa
