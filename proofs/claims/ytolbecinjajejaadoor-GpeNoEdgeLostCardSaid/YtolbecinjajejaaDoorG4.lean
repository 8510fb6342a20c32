/- The block of events: Begin, Complete. -/
import Derived.Test.YtolbecinjajejaaDoorG3
import Derived.Deep.RegionWith
namespace Go.Proofs.YtolbecinjajejaaDoor
open Go.RowKit Go.My
set_option linter.unusedVariables false
set_option linter.unusedSimpArgs false

def hexS : ByteArray := ⟨#[48, 49, 50, 51, 52, 53, 54, 55, 56, 57, 65, 66, 67, 68, 69, 70]⟩
def hexN (d : Nat) : Int := ([48, 49, 50, 51, 52, 53, 54, 55, 56, 57, 65, 66, 67, 68, 69, 70] : List Int).getD d 0
theorem hex_eq : ∀ d, (h : d < 16) → ((hexS[d]'h).toNat : Int) = hexN d := by decide +kernel
/-- The name of an event's method. -/
def begS (lv : Bool) (i : Nat) : ByteArray := strOfNums [95, if lv then 76 else 69, hexN (i / 16), hexN (i % 16)]

theorem conv_four (W : World) : ∀ a b c d : Int, (convert 76 9 (.slice (some ⟨W.heap.size, 0, none⟩) 4 4)).run Tryd.prog (W.alloc (.cells #[.int .u8 a, .int .u8 b, .int .u8 c, .int .u8 d] 5)).drew =
    .ok (.string (strOfNums [a, b, c, d])) (W.alloc (.cells #[.int .u8 a, .int .u8 b, .int .u8 c, .int .u8 d] 5)).drew := by
  intro a b c d
  refine run_convert_bytes_arg _ 76 5 Tryd.underlying76 Tryd.underlying5 W.heap.size 0 4 4 [a, b, c, d] rfl (fun i hi => ?_) 9 Tryd.underlying9
  have hb : Blk (W.alloc (.cells #[.int .u8 a, .int .u8 b, .int .u8 c, .int .u8 d] 5)).drew W.heap.size #[.int .u8 a, .int .u8 b, .int .u8 c, .int .u8 d] 5 := Blk.new _ _ _
  rw [hb.cell]
  rcases (by omega : i = 0 ∨ i = 1 ∨ i = 2 ∨ i = 3) with rfl | rfl | rfl | rfl <;> rfl

set_option maxHeartbeats 1000000 in
theorem begin_bad (g : Nat) (b : G) (i : Int) (w : World) (h : IsG w g b) (hv : b.ev i = false) :
    Calls Tryd.prog 15 #[.pointer (some ⟨g, 0, none⟩), .int .i64 i] w fun e w' => e = .returned (.tuple #[.string ⟨#[]⟩, .int .i64 6]) ∧ w = w' := by
  have HB := Lib.hid h
  clear h
  go_enter Tryd.func15, Tryd.ntmps15
  go_wp2_with (go_at_call 35; refine (event_any g b _ _ HB.out).mono ?_; rintro e w' ⟨rfl, rfl⟩)
  go_ret2
  exact ⟨rfl, rfl⟩

set_option maxHeartbeats 1000000 in
theorem begin_no (g i : Nat) (b : G) (w : World) (h : IsG w g b) (hi : i < b.n) (hn : b.n ≤ 64) (hr : bg b.ready i = false) :
    Calls Tryd.prog 15 #[.pointer (some ⟨g, 0, none⟩), .int .i64 i] w fun e w' => e = .returned (.tuple #[.string ⟨#[]⟩, .int .i64 9]) ∧ Keep Non w w' := by
  have hi64 : i < 64 := by omega
  have hev := ev_nat b i hi
  have HB := Lib.hid h
  clear h
  go_enter Tryd.func15, Tryd.ntmps15
  go_wp2_with (first | (go_at_call 35; refine (event_any g b _ _ HB.out).mono ?_; rintro e w' ⟨rfl, rfl⟩) | (go_at_call 37; refine (ready_any g b _ HB.out).mono ?_; rintro e w' ⟨rfl, m, rfl⟩) | (go_at_call 36; refine (has_any i _ _ hi64).mono ?_; rintro e w' ⟨rfl, rfl⟩))
  go_ret2
  exact ⟨rfl, (Keep.refl _ _).drewN _⟩

set_option maxHeartbeats 2000000 in
theorem begin_ok (g i : Nat) (b : G) (w : World) (h : IsG w g b) (hi : i < b.n) (hn : b.n ≤ 64) (hr : bg b.ready i = true) :
    Calls Tryd.prog 15 #[.pointer (some ⟨g, 0, none⟩), .int .i64 i] w fun e w' => e = .returned (.tuple #[.string (begS (bg b.lv i) i), .int .i64 0]) ∧ Keep (My.One g) w w' ∧ IsG w' g (b.begM i) := by
  have hi64 : i < 64 := by omega
  have hev := ev_nat b i hi
  have ha : bits BinOp.and IntKind.i64 (i : Int) 15 = (i : Int) % 16 := bits_mask .i64 63 (by decide) (fun n h0 h1 => by rw [IntKind.wrap_i64]; omega) 4 (by decide) i (by omega) (by omega)
  have hb0 : 0 ≤ (i : Int) / 16 ∧ (i : Int) / 16 < 16 := by omega
  have hb1 : 0 ≤ (i : Int) % 16 ∧ (i : Int) % 16 < 16 := by omega
  have c1 := h.c1
  have HB := Lib.hid h
  clear h
  cases hv : bg b.lv i
  · -- edge
    have HM : Hid (b.begM i = { b with hd := setb b.hd i true, st := setb b.st i false }) := by simp [Hid, G.begM, hv]
    go_enter Tryd.func15, Tryd.ntmps15
    go_wp2_with (first | (go_at_call 35; refine (event_any g b _ _ HB.out).mono ?_; rintro e w' ⟨rfl, rfl⟩) | (go_at_call 37; refine (ready_any g b _ HB.out).mono ?_; rintro e w' ⟨rfl, m, rfl⟩) | (go_at_call 36; refine (has_any i _ _ hi64).mono ?_; rintro e w' ⟨rfl, rfl⟩))
    refine (setHd g i b true _ (HB.out.drewN _) hi64).mono ?_
    rintro e w2 ⟨rfl, hk, hg⟩
    have HK := Lib.hid ((Keep.drewN (Keep.refl (My.One g) w) m).tr hk)
    have HG := Lib.hid hg
    have c1 := hg.c1
    clear hk hg
    go_wp2_with (go_at_call 36; refine (has_any i _ _ hi64).mono ?_; rintro e w' ⟨rfl, rfl⟩)
    refine (setSt g i _ false _ HG.out hi64).mono ?_
    rintro e w3 ⟨rfl, hk, hg⟩
    have HK2 := Lib.hid (HK.out.tr hk)
    have HG2 := Lib.hid hg
    clear hk hg HK HG c1
    have HK := HK2
    have HG := HG2
    clear HK2 HG2
    go_wp2_with fail
    have hconv := conv_four w3
    go_region
    all_goals
      clear hconv
      go_wp2
      go_ret2
      refine ⟨?_, ?_, ?_⟩
      · have e1 := hex_eq (i / 16) (show i / 16 < 16 by omega)
        have e2 := hex_eq (i % 16) (show i % 16 < 16 by omega)
        unfold hexS at e1 e2
        simp only [e1, e2, begS]
        rfl
      · repeat (first | exact HK.out | apply Keep.drew | apply Keep.alloc)
      · rw [HM.out]
        exact Blk.drew (Blk.alloc HG.out _)
  · -- level
    have HM : Hid (b.begM i = { b with hd := setb b.hd i true }) := by simp [Hid, G.begM, hv]
    go_enter Tryd.func15, Tryd.ntmps15
    go_wp2_with (first | (go_at_call 35; refine (event_any g b _ _ HB.out).mono ?_; rintro e w' ⟨rfl, rfl⟩) | (go_at_call 37; refine (ready_any g b _ HB.out).mono ?_; rintro e w' ⟨rfl, m, rfl⟩) | (go_at_call 36; refine (has_any i _ _ hi64).mono ?_; rintro e w' ⟨rfl, rfl⟩))
    refine (setHd g i b true _ (HB.out.drewN _) hi64).mono ?_
    rintro e w2 ⟨rfl, hk, hg⟩
    have HK := Lib.hid ((Keep.drewN (Keep.refl (My.One g) w) m).tr hk)
    have HG := Lib.hid hg
    have c1 := hg.c1
    clear hk hg
    go_wp2_with (go_at_call 36; refine (has_any i _ _ hi64).mono ?_; rintro e w' ⟨rfl, rfl⟩)
    have hconv := conv_four w2
    go_region
    all_goals
      clear hconv
      go_wp2
      go_ret2
      refine ⟨?_, ?_, ?_⟩
      · have e1 := hex_eq (i / 16) (show i / 16 < 16 by omega)
        have e2 := hex_eq (i % 16) (show i % 16 < 16 by omega)
        unfold hexS at e1 e2
        simp only [e1, e2, begS]
        rfl
      · repeat (first | exact HK.out | apply Keep.drew | apply Keep.alloc)
      · rw [HM.out]
        exact Blk.drew (Blk.alloc HG.out _)

theorem IsG.drew {w : World} {g : Nat} {b : G} (h : IsG w g b) : IsG w.drew g b := h

set_option maxHeartbeats 1000000 in
theorem comp_bad (g : Nat) (b : G) (i : Int) (w : World) (h : IsG w g b) (hv : b.ev i = false) :
    Calls Tryd.prog 16 #[.pointer (some ⟨g, 0, none⟩), .int .i64 i] w fun e w' => e = .returned (.int .i64 6) ∧ w = w' := by
  have HB := Lib.hid h
  clear h
  go_enter Tryd.func16, Tryd.ntmps16
  go_wp2_with (go_at_call 35; refine (event_any g b _ _ HB.out).mono ?_; rintro e w' ⟨rfl, rfl⟩)
  go_ret
  exact ⟨rfl, rfl⟩

set_option maxHeartbeats 1000000 in
theorem comp_no (g i : Nat) (b : G) (w : World) (h : IsG w g b) (hi : i < b.n) (hn : b.n ≤ 64) (hr : bg b.hd i = false) :
    Calls Tryd.prog 16 #[.pointer (some ⟨g, 0, none⟩), .int .i64 i] w fun e w' => e = .returned (.int .i64 9) ∧ w = w' := by
  have hi64 : i < 64 := by omega
  have hev := ev_nat b i hi
  have c6 := h.c6
  have HB := Lib.hid h
  clear h
  go_enter Tryd.func16, Tryd.ntmps16
  go_wp2_with (first | (go_at_call 35; refine (event_any g b _ _ HB.out).mono ?_; rintro e w' ⟨rfl, rfl⟩) | (go_at_call 36; refine (has_any i _ _ hi64).mono ?_; rintro e w' ⟨rfl, rfl⟩))
  go_ret
  exact ⟨rfl, rfl⟩

set_option maxHeartbeats 2000000 in
theorem comp_ok (g i : Nat) (b : G) (w : World) (h : IsG w g b) (hi : i < b.n) (hn : b.n ≤ 64) (hr : bg b.hd i = true) :
    Calls Tryd.prog 16 #[.pointer (some ⟨g, 0, none⟩), .int .i64 i] w fun e w' => e = .returned (.int .i64 0) ∧ Keep (My.One g) w w' ∧ IsG w' g (b.compM i) := by
  have hi64 : i < 64 := by omega
  have hev := ev_nat b i hi
  have c1 := h.c1
  have c2 := h.c2
  have c6 := h.c6
  have HB := Lib.hid h
  clear h
  cases hv : bg b.lv i
  · -- edge
    have HM : Hid (b.compM i = { b with hd := setb b.hd i false }) := by simp [Hid, G.compM, hv]
    go_enter Tryd.func16, Tryd.ntmps16
    go_wp2_with (first | (go_at_call 35; refine (event_any g b _ _ HB.out).mono ?_; rintro e w' ⟨rfl, rfl⟩) | (go_at_call 36; refine (has_any i _ _ hi64).mono ?_; rintro e w' ⟨rfl, rfl⟩))
    refine (setHd g i b false _ HB.out hi64).mono ?_
    rintro e w2 ⟨rfl, hk, hg⟩
    have HK := Lib.hid hk
    have HG := Lib.hid hg
    have d1 := hg.c1
    have d2 := hg.c2
    clear hk hg
    go_wp2_with (go_at_call 36; refine (has_any i _ _ hi64).mono ?_; rintro e w' ⟨rfl, rfl⟩)
    go_ret
    exact ⟨rfl, HK.out, by rw [HM.out]; exact HG.out⟩
  · -- level
    have HM : Hid (b.compM i = { b with hd := setb b.hd i false, st := setb b.st i (bg b.ln i) }) := by simp [Hid, G.compM, hv]
    go_enter Tryd.func16, Tryd.ntmps16
    go_wp2_with (first | (go_at_call 35; refine (event_any g b _ _ HB.out).mono ?_; rintro e w' ⟨rfl, rfl⟩) | (go_at_call 36; refine (has_any i _ _ hi64).mono ?_; rintro e w' ⟨rfl, rfl⟩))
    refine (setHd g i b false _ HB.out hi64).mono ?_
    rintro e w2 ⟨rfl, hk, hg⟩
    have HK := Lib.hid hk
    have HG := Lib.hid hg
    have d1 := hg.c1
    have d2 := hg.c2
    clear hk hg
    go_wp2_with (go_at_call 36; refine (has_any i _ _ hi64).mono ?_; rintro e w' ⟨rfl, rfl⟩)
    go_region_with (first | (go_at_call 36; refine (has_any i _ _ hi64).mono ?_; rintro e w' ⟨rfl, rfl⟩) | (go_at_call 34; refine (setSt g i _ _ _ (by repeat (first | exact HG.out | apply IsG.drew)) hi64).mono ?_; rintro e w3 ⟨rfl, hk, hg⟩; have HK2 := Lib.hid hk; have HG2 := Lib.hid hg; clear hk hg))
    all_goals
      go_wp2
      go_ret
      refine ⟨rfl, ?_, ?_⟩
      · exact (Keep.drew HK.out).tr HK2.out
      · rw [HM.out]
        exact HG2.out

set_option maxHeartbeats 2000000 in
theorem wake_any (g : Nat) (b : G) (w : World) (h : IsG w g b) :
    Calls Tryd.prog 21 #[.pointer (some ⟨g, 0, none⟩)] w fun e w' => e = .returned (.bool (un (b.st &&& b.wk) != 0)) ∧ ∃ m, w' = w.drewN m := by
  have c3 := h.c3
  have c5 := h.c5
  have HV : Hid (un (b.st &&& b.wk) = bits .and .u64 (un b.st) (un b.wk)) := (bits_and _ _).symm
  clear h
  go_enter Tryd.func21, Tryd.ntmps21
  go_wp2
  go_quiet (fail)
  go_wp2
  go_ret
  exact ⟨by rw [HV.out]; rfl, _, rfl⟩
end Go.Proofs.YtolbecinjajejaaDoor
