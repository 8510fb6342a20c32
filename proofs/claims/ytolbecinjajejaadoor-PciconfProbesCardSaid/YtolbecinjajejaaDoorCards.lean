/-
  DERIVED. GIVEN WITH THE SEED: THE CARDS: each row of YtolbecinjajejaaDoorRows.lean that lists a variable, with what it lists TIED to the program's text (the seventh form; the later family's looks); each row that meets fmt, with fmt's text TOLD by the authors' own Lean function (tested against real Go, not proved from fmt's source: count such statements apart). THE CARD IS WHAT COUNTS. Prove the row's statement (the work); the ties are given (YtolbecinjajejaaDoorTie.lean); close each card by the builder's one call (the guide's Derived/Test/ToyasCard.lean, 'card_holds'). Laid BY PROGRAM, IN A SANDBOX (cutbox-door.mjs). By AI agents, Wed Nov 11 2026. No macro, syntax, notation, axiom, sorry.
-/
import Derived.Test.YtolbecinjajejaaDoorRows
import GoSem.ClaimSeven
namespace Go.Proofs.YtolbecinjajejaaDoor
namespace Rows

/-- THE TIED CARD OF 'platformfwlaw17.GpeValidatesSize'. -/
def gpeValidatesSizeCard : Claim7 := { stood := { row := gpeValidatesSizeRow, standIns := [], harness := (true, "f22663f251021bf28b5180c3f09736a68714b5586678ca39ae0a6332c1df47ce"), looks := false }, kinds := [], alts := [], laidByText := true, laidKinds := [.data], laidTests := true, laidLooks := .later }
def GpeValidatesSizeCardSaid : Prop := Claim7.holds Tryd.pinned (.plain (OpenSpec.ofChange gpeValidatesSizeSpec)) gpeValidatesSizeCard

/-- THE TIED CARD OF 'platformfwlaw17.GpeNoEdgeLost'. -/
def gpeNoEdgeLostCard : Claim7 := { stood := { row := gpeNoEdgeLostRow, standIns := [], harness := (true, "f22663f251021bf28b5180c3f09736a68714b5586678ca39ae0a6332c1df47ce"), looks := false }, kinds := [], alts := [], laidByText := true, laidKinds := [.data], laidTests := true, laidLooks := .later }
def GpeNoEdgeLostCardSaid : Prop := Claim7.holds Tryd.pinned (.plain (OpenSpec.ofChange gpeNoEdgeLostSpec)) gpeNoEdgeLostCard

/-- THE TIED CARD OF 'platformfwlaw17.GpeLevelStaysPending'. -/
def gpeLevelStaysPendingCard : Claim7 := { stood := { row := gpeLevelStaysPendingRow, standIns := [], harness := (true, "f22663f251021bf28b5180c3f09736a68714b5586678ca39ae0a6332c1df47ce"), looks := false }, kinds := [], alts := [], laidByText := true, laidKinds := [.data], laidTests := true, laidLooks := .later }
def GpeLevelStaysPendingCardSaid : Prop := Claim7.holds Tryd.pinned (.plain (OpenSpec.ofChange gpeLevelStaysPendingSpec)) gpeLevelStaysPendingCard

/-- THE TIED CARD OF 'platformfwlaw17.GpeMatchesModel'. -/
def gpeMatchesModelCard : Claim7 := { stood := { row := gpeMatchesModelRow, standIns := [], harness := (true, "f22663f251021bf28b5180c3f09736a68714b5586678ca39ae0a6332c1df47ce"), looks := false }, kinds := [], alts := [], laidByText := true, laidKinds := [.data], laidTests := true, laidLooks := .later }
def GpeMatchesModelCardSaid : Prop := Claim7.holds Tryd.pinned (.plain (OpenSpec.ofChange gpeMatchesModelSpec)) gpeMatchesModelCard

/-- THE TIED CARD OF 'platformfwlaw17.GpeWake'. -/
def gpeWakeCard : Claim7 := { stood := { row := gpeWakeRow, standIns := [], harness := (true, "f22663f251021bf28b5180c3f09736a68714b5586678ca39ae0a6332c1df47ce"), looks := false }, kinds := [], alts := [], laidByText := true, laidKinds := [.data], laidTests := true, laidLooks := .later }
def GpeWakeCardSaid : Prop := Claim7.holds Tryd.pinned (.plain (OpenSpec.ofChange gpeWakeSpec)) gpeWakeCard

/-- THE TIED CARD OF 'platformfwlaw18.PciconfProbes'. -/
def pciconfProbesCard : Claim7 := { stood := { row := pciconfProbesRow, standIns := [], harness := (true, "f22663f251021bf28b5180c3f09736a68714b5586678ca39ae0a6332c1df47ce"), looks := false }, kinds := [], alts := [], laidByText := true, laidKinds := [.data], laidTests := true, laidLooks := .later }
def PciconfProbesCardSaid : Prop := Claim7.holds Tryd.pinned (.plain (OpenSpec.ofChange pciconfProbesSpec)) pciconfProbesCard

/-- THE SECOND FORM's CARD OF 'platformfwlaw17.GpeValidatesSize'. -/
def gpeValidatesSizeUptoCard : Claim7 := { stood := { row := gpeValidatesSizeUptoRow, standIns := [], harness := (true, "f22663f251021bf28b5180c3f09736a68714b5586678ca39ae0a6332c1df47ce"), looks := false }, kinds := [], alts := [], laidByText := true, laidKinds := [.data], laidTests := true, laidLooks := .later }
def GpeValidatesSizeUptoCardSaid : Prop := Claim7.holds Tryd.pinned (.plain (OpenSpec.upto gpeValidatesSizeSpec)) gpeValidatesSizeUptoCard

/-- THE SECOND FORM's CARD OF 'platformfwlaw17.GpeNoEdgeLost'. -/
def gpeNoEdgeLostUptoCard : Claim7 := { stood := { row := gpeNoEdgeLostUptoRow, standIns := [], harness := (true, "f22663f251021bf28b5180c3f09736a68714b5586678ca39ae0a6332c1df47ce"), looks := false }, kinds := [], alts := [], laidByText := true, laidKinds := [.data], laidTests := true, laidLooks := .later }
def GpeNoEdgeLostUptoCardSaid : Prop := Claim7.holds Tryd.pinned (.plain (OpenSpec.upto gpeNoEdgeLostSpec)) gpeNoEdgeLostUptoCard

/-- THE SECOND FORM's CARD OF 'platformfwlaw17.GpeLevelStaysPending'. -/
def gpeLevelStaysPendingUptoCard : Claim7 := { stood := { row := gpeLevelStaysPendingUptoRow, standIns := [], harness := (true, "f22663f251021bf28b5180c3f09736a68714b5586678ca39ae0a6332c1df47ce"), looks := false }, kinds := [], alts := [], laidByText := true, laidKinds := [.data], laidTests := true, laidLooks := .later }
def GpeLevelStaysPendingUptoCardSaid : Prop := Claim7.holds Tryd.pinned (.plain (OpenSpec.upto gpeLevelStaysPendingSpec)) gpeLevelStaysPendingUptoCard

/-- THE SECOND FORM's CARD OF 'platformfwlaw17.GpeMatchesModel'. -/
def gpeMatchesModelUptoCard : Claim7 := { stood := { row := gpeMatchesModelUptoRow, standIns := [], harness := (true, "f22663f251021bf28b5180c3f09736a68714b5586678ca39ae0a6332c1df47ce"), looks := false }, kinds := [], alts := [], laidByText := true, laidKinds := [.data], laidTests := true, laidLooks := .later }
def GpeMatchesModelUptoCardSaid : Prop := Claim7.holds Tryd.pinned (.plain (OpenSpec.upto gpeMatchesModelSpec)) gpeMatchesModelUptoCard

/-- THE SECOND FORM's CARD OF 'platformfwlaw17.GpeWake'. -/
def gpeWakeUptoCard : Claim7 := { stood := { row := gpeWakeUptoRow, standIns := [], harness := (true, "f22663f251021bf28b5180c3f09736a68714b5586678ca39ae0a6332c1df47ce"), looks := false }, kinds := [], alts := [], laidByText := true, laidKinds := [.data], laidTests := true, laidLooks := .later }
def GpeWakeUptoCardSaid : Prop := Claim7.holds Tryd.pinned (.plain (OpenSpec.upto gpeWakeSpec)) gpeWakeUptoCard

/-- THE SECOND FORM's CARD OF 'platformfwlaw18.PciconfProbes'. -/
def pciconfProbesUptoCard : Claim7 := { stood := { row := pciconfProbesUptoRow, standIns := [], harness := (true, "f22663f251021bf28b5180c3f09736a68714b5586678ca39ae0a6332c1df47ce"), looks := false }, kinds := [], alts := [], laidByText := true, laidKinds := [.data], laidTests := true, laidLooks := .later }
def PciconfProbesUptoCardSaid : Prop := Claim7.holds Tryd.pinned (.plain (OpenSpec.upto pciconfProbesSpec)) pciconfProbesUptoCard
end Rows
end Go.Proofs.YtolbecinjajejaaDoor
