/-
  NARROWER THAN 'FOR EVERY INPUT', by the rows' own cells (each row's printed sentence says how): GpeValidatesSize: laid · GpeNoEdgeLost: laid · GpeLevelStaysPending: laid · GpeMatchesModel: laid · GpeWake: laid · PciconfProbes: laid.
  DERIVED. THE GIVEN ROWS OF THIS SEAT. 6 by the template 'for every input the law returns true; each argument reads behind the call as it read before'; 0 by the template 'total and deterministic' (their statements: YtolbecinjajejaaDoorTotals.lean).
  GIVEN WITH THE SEED: the statements are not yours to turn. If you find one false, say at which input.
  Laid BY PROGRAM, IN A SANDBOX (cutbox-rows.mjs): the forced cells as the released guide's own fill.sh prints them over the translation 023eac349a420920… (all of the seat's roots in one cut). By AI agents, Wed Nov 11 2026. No macro, syntax, notation, axiom, sorry.
-/
import Derived.Test.YtolbecinjajejaaDoorChecked
import GoSem.Claim
import GoSem.ClaimJoined
import GoSem.ClaimMapViews
import Derived.JoinedTies
import Derived.KernelRfl
namespace Go.Proofs.YtolbecinjajejaaDoor
/- THE CELL 'sum', in the pinned program and in every row, IS THE sha256 OF THE DUMP (.gsa) THAT YtolbecinjajejaaDoorProg.lean LOADS. Nothing in Lean hashes anything: it is a label: what it is worth is what the hold of that sum in a sandbox is worth. -/
noncomputable def Tryd.pinned : Pinned := { name := "ytolbecinjajejaadoor", sum := "023eac349a4209200f5cb195f472bea991bf609338a29cae310b2cd231efc154", checked := Tryd.checked }
namespace Rows
def none {H : Type} : Left H := { results := [], args := [] }

/- WHAT THE LISTED PACKAGE-LEVEL VARIABLES READ AS WHEN THE CALL BEGINS. Each datum BY PROGRAM (the guide's laid-datum.mjs) off the statement by which the dump's own 'gosem.cut.vars' lays the variable. In a bare row this is a premise. The card (YtolbecinjajejaaDoorCards.lean) ties it to the program's text. -/
def laid_math_bits_deBruijn64tab {H : Type} : DataW H := .agg [.lit (.int .u8 0), .lit (.int .u8 1), .lit (.int .u8 56), .lit (.int .u8 2), .lit (.int .u8 57), .lit (.int .u8 49), .lit (.int .u8 28), .lit (.int .u8 3), .lit (.int .u8 61), .lit (.int .u8 58), .lit (.int .u8 42), .lit (.int .u8 50), .lit (.int .u8 38), .lit (.int .u8 29), .lit (.int .u8 17), .lit (.int .u8 4), .lit (.int .u8 62), .lit (.int .u8 47), .lit (.int .u8 59), .lit (.int .u8 36), .lit (.int .u8 45), .lit (.int .u8 43), .lit (.int .u8 51), .lit (.int .u8 22), .lit (.int .u8 53), .lit (.int .u8 39), .lit (.int .u8 33), .lit (.int .u8 30), .lit (.int .u8 24), .lit (.int .u8 18), .lit (.int .u8 12), .lit (.int .u8 5), .lit (.int .u8 63), .lit (.int .u8 55), .lit (.int .u8 48), .lit (.int .u8 27), .lit (.int .u8 60), .lit (.int .u8 41), .lit (.int .u8 37), .lit (.int .u8 16), .lit (.int .u8 46), .lit (.int .u8 35), .lit (.int .u8 44), .lit (.int .u8 21), .lit (.int .u8 52), .lit (.int .u8 32), .lit (.int .u8 23), .lit (.int .u8 11), .lit (.int .u8 54), .lit (.int .u8 26), .lit (.int .u8 40), .lit (.int .u8 15), .lit (.int .u8 34), .lit (.int .u8 20), .lit (.int .u8 31), .lit (.int .u8 10), .lit (.int .u8 25), .lit (.int .u8 14), .lit (.int .u8 19), .lit (.int .u8 9), .lit (.int .u8 13), .lit (.int .u8 8), .lit (.int .u8 7), .lit (.int .u8 6)]

/-- 'platformfwlaw17.GpeValidatesSize': WHATEVER THE INPUT: true; the input reads as it did. -/
def gpeValidatesSizeSpec : ChangeSpec := { name := "gpeValidatesSize", fn := fun _ => fun
  | [d] => { results := [.lit (.bool true)], args := [d] }
  | _ => none }
def gpeValidatesSizeRow : OpenClaim := { program := "ytolbecinjajejaadoor", sum := "023eac349a4209200f5cb195f472bea991bf609338a29cae310b2cd231efc154", func := "platformfw/platformfwlaw17.GpeValidatesSize", spec := "gpeValidatesSize", named := ["math/bits.deBruijn64tab"], apart := false, laid := [("math/bits.deBruijn64tab", laid_math_bits_deBruijn64tab)] }
def GpeValidatesSizeSaid : Prop := gpeValidatesSizeRow.holds Tryd.pinned (OpenSpec.ofChange gpeValidatesSizeSpec)

/-- ITS FALSE NEIGHBOUR: 'it returns false'. Refute it at one input. -/
def gpeValidatesSizeWrong : ChangeSpec := { name := "gpeValidatesSize", fn := fun _ => fun
  | [d] => { results := [.lit (.bool false)], args := [d] }
  | _ => none }
def GpeValidatesSizeWrongFalsely : Prop := gpeValidatesSizeRow.holds Tryd.pinned (OpenSpec.ofChange gpeValidatesSizeWrong)

/-- 'platformfwlaw17.GpeNoEdgeLost': WHATEVER THE INPUT: true; the input reads as it did. -/
def gpeNoEdgeLostSpec : ChangeSpec := { name := "gpeNoEdgeLost", fn := fun _ => fun
  | [d] => { results := [.lit (.bool true)], args := [d] }
  | _ => none }
def gpeNoEdgeLostRow : OpenClaim := { program := "ytolbecinjajejaadoor", sum := "023eac349a4209200f5cb195f472bea991bf609338a29cae310b2cd231efc154", func := "platformfw/platformfwlaw17.GpeNoEdgeLost", spec := "gpeNoEdgeLost", named := ["math/bits.deBruijn64tab"], apart := false, laid := [("math/bits.deBruijn64tab", laid_math_bits_deBruijn64tab)] }
def GpeNoEdgeLostSaid : Prop := gpeNoEdgeLostRow.holds Tryd.pinned (OpenSpec.ofChange gpeNoEdgeLostSpec)

/-- ITS FALSE NEIGHBOUR: 'it returns false'. Refute it at one input. -/
def gpeNoEdgeLostWrong : ChangeSpec := { name := "gpeNoEdgeLost", fn := fun _ => fun
  | [d] => { results := [.lit (.bool false)], args := [d] }
  | _ => none }
def GpeNoEdgeLostWrongFalsely : Prop := gpeNoEdgeLostRow.holds Tryd.pinned (OpenSpec.ofChange gpeNoEdgeLostWrong)

/-- 'platformfwlaw17.GpeLevelStaysPending': WHATEVER THE INPUT: true; the input reads as it did. -/
def gpeLevelStaysPendingSpec : ChangeSpec := { name := "gpeLevelStaysPending", fn := fun _ => fun
  | [d1, d2, d3] => { results := [.lit (.bool true)], args := [d1, d2, d3] }
  | _ => none }
def gpeLevelStaysPendingRow : OpenClaim := { program := "ytolbecinjajejaadoor", sum := "023eac349a4209200f5cb195f472bea991bf609338a29cae310b2cd231efc154", func := "platformfw/platformfwlaw17.GpeLevelStaysPending", spec := "gpeLevelStaysPending", named := ["math/bits.deBruijn64tab"], apart := false, laid := [("math/bits.deBruijn64tab", laid_math_bits_deBruijn64tab)] }
def GpeLevelStaysPendingSaid : Prop := gpeLevelStaysPendingRow.holds Tryd.pinned (OpenSpec.ofChange gpeLevelStaysPendingSpec)

/-- ITS FALSE NEIGHBOUR: 'it returns false'. Refute it at one input. -/
def gpeLevelStaysPendingWrong : ChangeSpec := { name := "gpeLevelStaysPending", fn := fun _ => fun
  | [d1, d2, d3] => { results := [.lit (.bool false)], args := [d1, d2, d3] }
  | _ => none }
def GpeLevelStaysPendingWrongFalsely : Prop := gpeLevelStaysPendingRow.holds Tryd.pinned (OpenSpec.ofChange gpeLevelStaysPendingWrong)

/-- 'platformfwlaw17.GpeMatchesModel': WHATEVER THE INPUT: true; the input reads as it did. -/
def gpeMatchesModelSpec : ChangeSpec := { name := "gpeMatchesModel", fn := fun _ => fun
  | [d1, d2] => { results := [.lit (.bool true)], args := [d1, d2] }
  | _ => none }
def gpeMatchesModelRow : OpenClaim := { program := "ytolbecinjajejaadoor", sum := "023eac349a4209200f5cb195f472bea991bf609338a29cae310b2cd231efc154", func := "platformfw/platformfwlaw17.GpeMatchesModel", spec := "gpeMatchesModel", named := ["math/bits.deBruijn64tab"], apart := false, laid := [("math/bits.deBruijn64tab", laid_math_bits_deBruijn64tab)] }
def GpeMatchesModelSaid : Prop := gpeMatchesModelRow.holds Tryd.pinned (OpenSpec.ofChange gpeMatchesModelSpec)

/-- ITS FALSE NEIGHBOUR: 'it returns false'. Refute it at one input. -/
def gpeMatchesModelWrong : ChangeSpec := { name := "gpeMatchesModel", fn := fun _ => fun
  | [d1, d2] => { results := [.lit (.bool false)], args := [d1, d2] }
  | _ => none }
def GpeMatchesModelWrongFalsely : Prop := gpeMatchesModelRow.holds Tryd.pinned (OpenSpec.ofChange gpeMatchesModelWrong)

/-- 'platformfwlaw17.GpeWake': WHATEVER THE INPUT: true; the input reads as it did. -/
def gpeWakeSpec : ChangeSpec := { name := "gpeWake", fn := fun _ => fun
  | [d1, d2, d3] => { results := [.lit (.bool true)], args := [d1, d2, d3] }
  | _ => none }
def gpeWakeRow : OpenClaim := { program := "ytolbecinjajejaadoor", sum := "023eac349a4209200f5cb195f472bea991bf609338a29cae310b2cd231efc154", func := "platformfw/platformfwlaw17.GpeWake", spec := "gpeWake", named := ["math/bits.deBruijn64tab"], apart := false, laid := [("math/bits.deBruijn64tab", laid_math_bits_deBruijn64tab)] }
def GpeWakeSaid : Prop := gpeWakeRow.holds Tryd.pinned (OpenSpec.ofChange gpeWakeSpec)

/-- ITS FALSE NEIGHBOUR: 'it returns false'. Refute it at one input. -/
def gpeWakeWrong : ChangeSpec := { name := "gpeWake", fn := fun _ => fun
  | [d1, d2, d3] => { results := [.lit (.bool false)], args := [d1, d2, d3] }
  | _ => none }
def GpeWakeWrongFalsely : Prop := gpeWakeRow.holds Tryd.pinned (OpenSpec.ofChange gpeWakeWrong)

/-- 'platformfwlaw18.PciconfProbes': WHATEVER THE INPUT: true; the input reads as it did. -/
def pciconfProbesSpec : ChangeSpec := { name := "pciconfProbes", fn := fun _ => fun
  | [d1, d2] => { results := [.lit (.bool true)], args := [d1, d2] }
  | _ => none }
def pciconfProbesRow : OpenClaim := { program := "ytolbecinjajejaadoor", sum := "023eac349a4209200f5cb195f472bea991bf609338a29cae310b2cd231efc154", func := "platformfw/platformfwlaw18.PciconfProbes", spec := "pciconfProbes", named := ["math/bits.deBruijn64tab"], apart := false, laid := [("math/bits.deBruijn64tab", laid_math_bits_deBruijn64tab)] }
def PciconfProbesSaid : Prop := pciconfProbesRow.holds Tryd.pinned (OpenSpec.ofChange pciconfProbesSpec)

/-- ITS FALSE NEIGHBOUR: 'it returns false'. Refute it at one input. -/
def pciconfProbesWrong : ChangeSpec := { name := "pciconfProbes", fn := fun _ => fun
  | [d1, d2] => { results := [.lit (.bool false)], args := [d1, d2] }
  | _ => none }
def PciconfProbesWrongFalsely : Prop := pciconfProbesRow.holds Tryd.pinned (OpenSpec.ofChange pciconfProbesWrong)

/- THE SECOND FORM. 'bulk': how many values and letters a reading holds, each counted each time it is reached (what is shared counts as often as it is met; a slice's spare places count too). A statement '..UptoSaid' is the law's where the arguments, and the package variables that the reading takes, are together of bulk at most 1048576: NARROWER than '..Said'. Prove '..Said' where nothing that the law and all that it calls make is longer than what came in: it says more and counts as full. Else prove '..UptoSaid'. A law counts once. -/
mutual
def uptoBulk {H : Type} : DataW H → Nat
  | .lit (.string bytes) => bytes.length + 1
  | .lit _ => 1
  | .nil => 1
  | .ptr d => uptoBulk d + 1
  | .slice elems spare => uptoBulkAll elems + uptoBulkAll spare + 1
  | .agg parts => uptoBulkAll parts + 1
  | .iface _ d => uptoBulk d + 1
  | .map entries => uptoBulkEntries entries + 1
  | .held _ => 1
def uptoBulkAll {H : Type} : List (DataW H) → Nat
  | [] => 0
  | d :: r => uptoBulk d + uptoBulkAll r
def uptoBulkEntries {H : Type} : List (Lit × DataW H) → Nat
  | [] => 0
  | x :: r => uptoBulkEntry x + uptoBulkEntries r
def uptoBulkEntry {H : Type} : Lit × DataW H → Nat
  | (.string bytes, d) => bytes.length + uptoBulk d + 1
  | (_, d) => uptoBulk d + 1
 end
def uptoSmall : (H : Type) → List (DataW H) → Bool := fun _ ds => decide (uptoBulkAll ds ≤ 1048576)
def OpenSpec.upto (s : _root_.Go.ChangeSpec) : _root_.Go.OpenSpec := { _root_.Go.OpenSpec.ofChange s with cond := some uptoSmall }

/-- 'platformfwlaw17.GpeValidatesSize', WHERE WHAT IT READS IS OF BULK AT MOST 1048576: true; the input reads as it did. -/
def gpeValidatesSizeUptoRow : OpenClaim := { program := "ytolbecinjajejaadoor", sum := "023eac349a4209200f5cb195f472bea991bf609338a29cae310b2cd231efc154", func := "platformfw/platformfwlaw17.GpeValidatesSize", spec := "gpeValidatesSize", named := ["math/bits.deBruijn64tab"], apart := false, laid := [("math/bits.deBruijn64tab", laid_math_bits_deBruijn64tab)], narrowed := true }
def GpeValidatesSizeUptoSaid : Prop := gpeValidatesSizeUptoRow.holds Tryd.pinned (OpenSpec.upto gpeValidatesSizeSpec)

/-- 'platformfwlaw17.GpeNoEdgeLost', WHERE WHAT IT READS IS OF BULK AT MOST 1048576: true; the input reads as it did. -/
def gpeNoEdgeLostUptoRow : OpenClaim := { program := "ytolbecinjajejaadoor", sum := "023eac349a4209200f5cb195f472bea991bf609338a29cae310b2cd231efc154", func := "platformfw/platformfwlaw17.GpeNoEdgeLost", spec := "gpeNoEdgeLost", named := ["math/bits.deBruijn64tab"], apart := false, laid := [("math/bits.deBruijn64tab", laid_math_bits_deBruijn64tab)], narrowed := true }
def GpeNoEdgeLostUptoSaid : Prop := gpeNoEdgeLostUptoRow.holds Tryd.pinned (OpenSpec.upto gpeNoEdgeLostSpec)

/-- 'platformfwlaw17.GpeLevelStaysPending', WHERE WHAT IT READS IS OF BULK AT MOST 1048576: true; the input reads as it did. -/
def gpeLevelStaysPendingUptoRow : OpenClaim := { program := "ytolbecinjajejaadoor", sum := "023eac349a4209200f5cb195f472bea991bf609338a29cae310b2cd231efc154", func := "platformfw/platformfwlaw17.GpeLevelStaysPending", spec := "gpeLevelStaysPending", named := ["math/bits.deBruijn64tab"], apart := false, laid := [("math/bits.deBruijn64tab", laid_math_bits_deBruijn64tab)], narrowed := true }
def GpeLevelStaysPendingUptoSaid : Prop := gpeLevelStaysPendingUptoRow.holds Tryd.pinned (OpenSpec.upto gpeLevelStaysPendingSpec)

/-- 'platformfwlaw17.GpeMatchesModel', WHERE WHAT IT READS IS OF BULK AT MOST 1048576: true; the input reads as it did. -/
def gpeMatchesModelUptoRow : OpenClaim := { program := "ytolbecinjajejaadoor", sum := "023eac349a4209200f5cb195f472bea991bf609338a29cae310b2cd231efc154", func := "platformfw/platformfwlaw17.GpeMatchesModel", spec := "gpeMatchesModel", named := ["math/bits.deBruijn64tab"], apart := false, laid := [("math/bits.deBruijn64tab", laid_math_bits_deBruijn64tab)], narrowed := true }
def GpeMatchesModelUptoSaid : Prop := gpeMatchesModelUptoRow.holds Tryd.pinned (OpenSpec.upto gpeMatchesModelSpec)

/-- 'platformfwlaw17.GpeWake', WHERE WHAT IT READS IS OF BULK AT MOST 1048576: true; the input reads as it did. -/
def gpeWakeUptoRow : OpenClaim := { program := "ytolbecinjajejaadoor", sum := "023eac349a4209200f5cb195f472bea991bf609338a29cae310b2cd231efc154", func := "platformfw/platformfwlaw17.GpeWake", spec := "gpeWake", named := ["math/bits.deBruijn64tab"], apart := false, laid := [("math/bits.deBruijn64tab", laid_math_bits_deBruijn64tab)], narrowed := true }
def GpeWakeUptoSaid : Prop := gpeWakeUptoRow.holds Tryd.pinned (OpenSpec.upto gpeWakeSpec)

/-- 'platformfwlaw18.PciconfProbes', WHERE WHAT IT READS IS OF BULK AT MOST 1048576: true; the input reads as it did. -/
def pciconfProbesUptoRow : OpenClaim := { program := "ytolbecinjajejaadoor", sum := "023eac349a4209200f5cb195f472bea991bf609338a29cae310b2cd231efc154", func := "platformfw/platformfwlaw18.PciconfProbes", spec := "pciconfProbes", named := ["math/bits.deBruijn64tab"], apart := false, laid := [("math/bits.deBruijn64tab", laid_math_bits_deBruijn64tab)], narrowed := true }
def PciconfProbesUptoSaid : Prop := pciconfProbesUptoRow.holds Tryd.pinned (OpenSpec.upto pciconfProbesSpec)

end Rows
end Go.Proofs.YtolbecinjajejaaDoor
