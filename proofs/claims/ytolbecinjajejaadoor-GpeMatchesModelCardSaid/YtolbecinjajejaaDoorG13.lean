/- The reference's block of events: NewBlock. -/
import Derived.Test.YtolbecinjajejaaDoorG12
import Derived.Deep.AppendLies
import Derived.Deep.RegionLaw
set_option linter.unusedVariables false
set_option linter.unusedSimpArgs false
namespace Go.Proofs.YtolbecinjajejaaDoor
open Go.RowKit Go.My

def evC (l : Bool) : List Value := [.bool l, .bool false, .bool false, .bool false, .bool false, .bool false]
def evs (xs : List Bool) : List Value := xs.flatMap evC
theorem evs_len (xs : List Bool) : (evs xs).length = xs.length * 6 := by
  induction xs with
  | nil => rfl
  | cons x xs ih => simp only [evs, List.flatMap_cons, List.length_append] at *; rw [ih]; simp [evC]; omega
theorem evs_snoc (xs : List Bool) (x : Bool) : evs (xs ++ [x]) = evs xs ++ evC x := by simp [evs]

theorem evC_one (l : Bool) : ∀ u ∈ evC l, u.oneCell' = true := by
  intro z hz
  simp [evC] at hz
  rcases hz with rfl | rfl <;> rfl
theorem info81 : (Tryd.prog.info? 81).map (fun i => (i.zero, i.size, i.bytes)) = some (some (.agg #[.bool false, .bool false, .bool false, .bool false, .bool false, .bool false]), 6, 6) := by kernel_rfl

theorem s1_0 {w : World} {g : Nat} {a : Value} {t : TypeId} (h : Blk w g #[a] t) (v : Value) : Blk (w.setCell ⟨g, 0, none⟩ v) g #[v] t := h.set 0 v
theorem take_at1 {α : Type} (d : α) (xs : List α) (k : Nat) (h : k < xs.length) : xs.take (k + 1) = xs.take k ++ [at1 d xs k] := by
  rw [List.take_succ_eq_append_getElem h, at1_eq d]

set_option maxHeartbeats 4000000 in
theorem rnew_ok (v : Value) (xs : List Bool) (O : Nat → Prop) (w : World) (h : Row1 Value.bool O w v xs) (hn : 1 ≤ xs.length) (hm : xs.length ≤ 64) :
    Calls Tryd.prog 18 #[v] w fun e w' => ∃ r q cap cur, w.heap.size ≤ r ∧ w.heap.size ≤ q ∧ e = .returned (.pointer (some ⟨r, 0, none⟩)) ∧ Keep Non w w' ∧ Blk w' r #[.slice (some ⟨q, 0, none⟩) xs.length cap] 79 ∧ xs.length ≤ cap ∧ Blk w' q cur 81 ∧ cur.toList.take (xs.length * 6) = evs xs := by
  obtain ⟨A, c, rfl, hl, h⟩ := h
  have HX := Lib.hid h
  clear h
  obtain ⟨i0, hi, hz⟩ := Option.map_eq_some_iff.1 info81
  simp only [Prod.mk.injEq] at hz
  obtain ⟨hz0, hz1, hz2⟩ := hz
  have HI := Lib.hid hi
  have HZ0 := Lib.hid hz0
  have HZ1 := Lib.hid hz1
  have HZ2 := Lib.hid hz2
  clear hi hz0 hz1 hz2
  go_enter Tryd.func18, Tryd.ntmps18
  go_wp2
  obtain ⟨r, hr⟩ : ∃ r, r = w.heap.size := ⟨_, rfl⟩
  have HR := Lib.hid hr
  rw [← hr]
  have hb0 : Blk (w.alloc (Obj.cells #[Value.slice none 0 0] 79)) r #[.slice none 0 0] 79 := Blk.new' hr
  have HB0 := Lib.hid hb0
  clear hr hb0
  go_loopw [4] (fun i wr => ∃ (k : Nat) (u : Value), i = .int .i64 k ∧ k ≤ xs.length ∧ Hid (Blk wr r #[u] 79) ∧ Hid (wr.ownsRow (r + 1) 81 6 u k (evs (xs.take k))) ∧ Hid (Keep Non w wr)) (fun i _ => xs.length - (intOf i).toNat)
  case atStart => exact ⟨0, .slice none 0 0, rfl, Nat.zero_le _, HB0.out, ⟨rfl, .inl ⟨rfl, rfl⟩⟩, (Keep.refl _ _).alloc _⟩
  case round =>
    obtain ⟨k, u, rfl, hk, HB, HO, HK⟩ := hrel
    have HN : Hid (u.ownBlock ≠ some r) := fun e => by have := (HO.out.lt r e).1; omega
    by_cases hlt : k < xs.length
    · obtain ⟨b, off, rfl, hc0⟩ := row1_at false HX.out hlt
      have hc := HK.out.cell' hc0 (fun h => h)
      clear hc0
      have cr := HB.out.cell 0
      have fr := HB.out.free 0
      simp only [List.getElem?_toArray, List.getElem?_cons_zero] at cr
      go_wp2
      have hrlt := HB.out.lt
      have HLV := Lib.hid (take_at1 false xs k hlt)
      generalize at1 false xs k = lv at *
      go_region_law (refine step_append_lies _ rfl (.tmp 17) (.tmp 23) 77 rfl (r + 1) 81 i0 _ 6 6 Tryd.underlying77 HI.out HZ0.out HZ1.out HZ2.out rfl (by decide) u k (evs (xs.take k)) rfl (by exact HO.out.alloc _) ⟨wr.heap.size, 0, none⟩ 1 1 (evC lv) rfl rfl (by exact World.news_of_block (Blk.new' rfl)) (evC_one lv) (by omega) (by unfold maxLen; omega) (by omega) (by simp; omega) _ rfl ?_; intro g cap w1 hown hgrow hat hlt2; have hb1 : Blk w1 r #[u] 79 := (hgrow.block r (by simp; omega) (fun e => HN.out e.symm)).trans (Blk.alloc HB.out _); have c1 := hb1.cell 0; have f1 := hb1.free 0; simp only [List.getElem?_toArray, List.getElem?_cons_zero] at c1; have HOWN := Lib.hid hown; have HGROW := Lib.hid hgrow; have HAT := Lib.hid hat; have HB1 := Lib.hid hb1; clear hown hgrow hat hb1)
      all_goals
        go_wp2
        refine ⟨⟨k + 1, _, by go_num, by omega, s1_0 HB1.out _, ?_, ?_⟩, by simp [intOf]; omega⟩
        · exact by rw [HLV.out, evs_snoc]; exact ownsRow_setCell_below HOWN.out (Nat.lt_succ_self r) _
        · exact (((HK.out.alloc _).drew.grown HGROW.out (fun q hq hq2 => by have := (HO.out.lt q hq).1; have := HR.out; omega)).set (p := ⟨r, 0, none⟩) (fun hh => by have := HR.out; simp only at hh; omega) _)
    · obtain rfl : k = xs.length := by omega
      obtain ⟨hxl, hun⟩ := HO.out
      rcases hun with ⟨_, h0⟩ | ⟨g, cap, cur, rfl, hbg, hgb, hle, hmx, hsz, htk⟩
      · omega
      · have HGB := Lib.hid hgb
        have HTK := Lib.hid htk
        have HBG := Lib.hid hbg
        clear hgb htk hbg hxl hmx hsz
        go_wp2
        go_ret
        exact ⟨r, g, cap, cur, by have := HR.out; omega, by have := HR.out; have := HBG.out; omega, rfl, HK.out, HB.out, hle, HGB.out, by rw [HTK.out, List.take_length]⟩
end Go.Proofs.YtolbecinjajejaaDoor
