/- The table of math/bits that the rows list: what its reading gives a walk; a start that meets it. -/
import Derived.Test.YtolbecinjajejaaDoorRows
import Derived.Test.YtolbecinjajejaaDoorG2
import Derived.ProofKit
import Derived.LaidMore
import Derived.OpenShut
import Derived.Stop.Joined
namespace Go.Proofs.YtolbecinjajejaaDoor
open Go.ChangeShapes Go.WideShapes Go.ChangeAt Go.RowKit Go.My
set_option linter.unusedVariables false

theorem own : ownKnob Tryd.prog.godebug = none := by kernel_rfl
theorem laidOut : laidOutB Tryd.prog = true := by kernel_rfl
theorem gTab : Tryd.prog.globalNamed "math/bits.deBruijn64tab" = some 0 := by kernel_rfl
theorem tTab : (Tryd.prog.globals[0]?).map (·.type) = some 90 := by kernel_rfl
def laidA {H : Type} : List (String × DataW H) := [("math/bits.deBruijn64tab", Rows.laid_math_bits_deBruijn64tab)]

theorem door_met (os : Os) (args : Array Value) : laidMetH Tryd.prog laidA ((World.doorLaid Tryd.prog 14 os).forCall (fun _ _ => 0) ⟨#[], args, []⟩).memory :=
  laidMetH_of_parts3 (fuel := 8) (laidMet_of_run' 8 (by kernel_rfl) (by kernel_rfl)) (by kernel_rfl) (by kernel_rfl)

theorem tab_of_laid {W : World} (h : laidMetH Tryd.prog laidA W) : Tab W := by
  rw [MakeChecks.laidMetH_plain _ _ _ (by kernel_rfl)] at h
  obtain ⟨ps, ⟨g0, t0, cs0, f0, p0, q0, hg0, ht0, hv0, hd0, _, _⟩, _, _⟩ := h
  obtain rfl := Option.some.inj (gTab.symm.trans hg0)
  obtain rfl := Option.some.inj (tTab.symm.trans ht0)
  obtain ⟨xs, m1, rfl, hx1, hlen, hn3, hel⟩ := DataW.trod_array Tryd.underlying90 hd0
  have c5 : Tryd.prog.cellsOf 5 = 1 := by kernel_rfl
  have c90 : Tryd.prog.cellsOf 90 = 64 := by kernel_rfl
  rw [c90] at hlen
  have hcell : ∀ i, i < 64 → W.cell? ⟨0, i, none⟩ = some (.int .u8 (tabL.getD i 0)) := by
    intro i hi
    have hmap : xs.map (·.1) = tabL.map (fun n => DataW.lit (.int .u8 n)) := by
      simp only [Prod.mk.injEq] at hx1
      have h2 := hx1.1
      injection h2 with h2
      exact h2.symm
    have hx : i < xs.length := by omega
    have h1 := hel i hi
    rw [c5, List.getElem?_eq_getElem hx] at h1
    obtain ⟨k, e1, e2, _⟩ := DataW.trod_int Tryd.underlying5 h1
    have h3 : (xs.map (·.1))[i]? = some (DataW.lit (.int .u8 k)) := by
      rw [List.getElem?_map, List.getElem?_eq_getElem hx, e2]; rfl
    rw [hmap, List.getElem?_map] at h3
    have ht : i < tabL.length := hi
    rw [List.getElem?_eq_getElem ht] at h3
    simp at h3
    have hk : tabL.getD i 0 = k := by simp [List.getD, ht, h3]
    rw [hk, World.var?_cell hg0 hv0 i]
    have h4 : (cs0.toList.drop (i * 1)).take 1 = [Value.int .u8 k] := e1
    have h5 : ((cs0.toList.drop (i * 1)).take 1)[0]? = some (Value.int .u8 k) := by rw [h4]; rfl
    simpa using h5
  refine ⟨?_, hcell⟩
  have := World.block_lt_of_cell? W _ (hcell 0 (by omega))
  simpa using this
end Go.Proofs.YtolbecinjajejaaDoor
