/-
  No cell of these rows narrows 'for every input' (looked for: loops, veiled, ifaces, maps, wideKeys, modest, calm, conditions, laid).
  DERIVED. THE GIVEN ROWS OF THIS SEAT. 5 by the template 'for every input the law returns true; each argument reads behind the call as it read before'; 0 by the template 'total and deterministic' (their statements: YtolbecinjajejaaTotals.lean).
  GIVEN WITH THE SEED: the statements are not yours to turn. If you find one false, say at which input.
  Laid BY PROGRAM, IN A SANDBOX (cutbox-rows.mjs): the forced cells as the released guide's own fill.sh prints them over the translation bd79b167a759419b… (all of the seat's roots in one cut). By AI agents, Wed Nov 11 2026. No macro, syntax, notation, axiom, sorry.
-/
import Derived.Test.YtolbecinjajejaaChecked
import GoSem.Claim
import GoSem.ClaimJoined
import GoSem.ClaimMapViews
import Derived.JoinedTies
import Derived.KernelRfl
namespace Go.Proofs.Ytolbecinjajejaa
/- THE CELL 'sum', in the pinned program and in every row, IS THE sha256 OF THE DUMP (.gsa) THAT YtolbecinjajejaaProg.lean LOADS. Nothing in Lean hashes anything: it is a label: what it is worth is what the hold of that sum in a sandbox is worth. -/
noncomputable def Try.pinned : Pinned := { name := "ytolbecinjajejaa", sum := "bd79b167a759419bd65148335a7f2dd110ba1fd648afa339b750ba22e0ffbd83", checked := Try.checked }
namespace Rows
def none {H : Type} : Left H := { results := [], args := [] }

/-- 'platformfwlaw23.HotplugSlotMatchesModel': WHATEVER THE INPUT: true; the input reads as it did. -/
def hotplugSlotMatchesModelSpec : ChangeSpec := { name := "hotplugSlotMatchesModel", fn := fun _ => fun
  | [d1, d2, d3, d4] => { results := [.lit (.bool true)], args := [d1, d2, d3, d4] }
  | _ => none }
def hotplugSlotMatchesModelRow : OpenClaim := { program := "ytolbecinjajejaa", sum := "bd79b167a759419bd65148335a7f2dd110ba1fd648afa339b750ba22e0ffbd83", func := "platformfw/platformfwlaw23.HotplugSlotMatchesModel", spec := "hotplugSlotMatchesModel", apart := false }
def HotplugSlotMatchesModelSaid : Prop := hotplugSlotMatchesModelRow.holds Try.pinned (OpenSpec.ofChange hotplugSlotMatchesModelSpec)

/-- ITS FALSE NEIGHBOUR: 'it returns false'. Refute it at one input. -/
def hotplugSlotMatchesModelWrong : ChangeSpec := { name := "hotplugSlotMatchesModel", fn := fun _ => fun
  | [d1, d2, d3, d4] => { results := [.lit (.bool false)], args := [d1, d2, d3, d4] }
  | _ => none }
def HotplugSlotMatchesModelWrongFalsely : Prop := hotplugSlotMatchesModelRow.holds Try.pinned (OpenSpec.ofChange hotplugSlotMatchesModelWrong)

/-- 'platformfwlaw23.HotplugPowerBalance': WHATEVER THE INPUT: true; the input reads as it did. -/
def hotplugPowerBalanceSpec : ChangeSpec := { name := "hotplugPowerBalance", fn := fun _ => fun
  | [d1, d2, d3] => { results := [.lit (.bool true)], args := [d1, d2, d3] }
  | _ => none }
def hotplugPowerBalanceRow : OpenClaim := { program := "ytolbecinjajejaa", sum := "bd79b167a759419bd65148335a7f2dd110ba1fd648afa339b750ba22e0ffbd83", func := "platformfw/platformfwlaw23.HotplugPowerBalance", spec := "hotplugPowerBalance", apart := false }
def HotplugPowerBalanceSaid : Prop := hotplugPowerBalanceRow.holds Try.pinned (OpenSpec.ofChange hotplugPowerBalanceSpec)

/-- ITS FALSE NEIGHBOUR: 'it returns false'. Refute it at one input. -/
def hotplugPowerBalanceWrong : ChangeSpec := { name := "hotplugPowerBalance", fn := fun _ => fun
  | [d1, d2, d3] => { results := [.lit (.bool false)], args := [d1, d2, d3] }
  | _ => none }
def HotplugPowerBalanceWrongFalsely : Prop := hotplugPowerBalanceRow.holds Try.pinned (OpenSpec.ofChange hotplugPowerBalanceWrong)

/-- 'platformfwlaw18.PciconfValidates': WHATEVER THE INPUT: true; the input reads as it did. -/
def pciconfValidatesSpec : ChangeSpec := { name := "pciconfValidates", fn := fun _ => fun
  | [d] => { results := [.lit (.bool true)], args := [d] }
  | _ => none }
def pciconfValidatesRow : OpenClaim := { program := "ytolbecinjajejaa", sum := "bd79b167a759419bd65148335a7f2dd110ba1fd648afa339b750ba22e0ffbd83", func := "platformfw/platformfwlaw18.PciconfValidates", spec := "pciconfValidates", apart := false }
def PciconfValidatesSaid : Prop := pciconfValidatesRow.holds Try.pinned (OpenSpec.ofChange pciconfValidatesSpec)

/-- ITS FALSE NEIGHBOUR: 'it returns false'. Refute it at one input. -/
def pciconfValidatesWrong : ChangeSpec := { name := "pciconfValidates", fn := fun _ => fun
  | [d] => { results := [.lit (.bool false)], args := [d] }
  | _ => none }
def PciconfValidatesWrongFalsely : Prop := pciconfValidatesRow.holds Try.pinned (OpenSpec.ofChange pciconfValidatesWrong)

/-- 'platformfwlaw18.PciconfReadOnly': WHATEVER THE INPUT: true; the input reads as it did. -/
def pciconfReadOnlySpec : ChangeSpec := { name := "pciconfReadOnly", fn := fun _ => fun
  | [d1, d2] => { results := [.lit (.bool true)], args := [d1, d2] }
  | _ => none }
def pciconfReadOnlyRow : OpenClaim := { program := "ytolbecinjajejaa", sum := "bd79b167a759419bd65148335a7f2dd110ba1fd648afa339b750ba22e0ffbd83", func := "platformfw/platformfwlaw18.PciconfReadOnly", spec := "pciconfReadOnly", apart := false }
def PciconfReadOnlySaid : Prop := pciconfReadOnlyRow.holds Try.pinned (OpenSpec.ofChange pciconfReadOnlySpec)

/-- ITS FALSE NEIGHBOUR: 'it returns false'. Refute it at one input. -/
def pciconfReadOnlyWrong : ChangeSpec := { name := "pciconfReadOnly", fn := fun _ => fun
  | [d1, d2] => { results := [.lit (.bool false)], args := [d1, d2] }
  | _ => none }
def PciconfReadOnlyWrongFalsely : Prop := pciconfReadOnlyRow.holds Try.pinned (OpenSpec.ofChange pciconfReadOnlyWrong)

/-- 'platformfwlaw18.PciconfAddresses': WHATEVER THE INPUT: true; the input reads as it did. -/
def pciconfAddressesSpec : ChangeSpec := { name := "pciconfAddresses", fn := fun _ => fun
  | [d1, d2, d3, d4] => { results := [.lit (.bool true)], args := [d1, d2, d3, d4] }
  | _ => none }
def pciconfAddressesRow : OpenClaim := { program := "ytolbecinjajejaa", sum := "bd79b167a759419bd65148335a7f2dd110ba1fd648afa339b750ba22e0ffbd83", func := "platformfw/platformfwlaw18.PciconfAddresses", spec := "pciconfAddresses", apart := false }
def PciconfAddressesSaid : Prop := pciconfAddressesRow.holds Try.pinned (OpenSpec.ofChange pciconfAddressesSpec)

/-- ITS FALSE NEIGHBOUR: 'it returns false'. Refute it at one input. -/
def pciconfAddressesWrong : ChangeSpec := { name := "pciconfAddresses", fn := fun _ => fun
  | [d1, d2, d3, d4] => { results := [.lit (.bool false)], args := [d1, d2, d3, d4] }
  | _ => none }
def PciconfAddressesWrongFalsely : Prop := pciconfAddressesRow.holds Try.pinned (OpenSpec.ofChange pciconfAddressesWrong)

/- THE SECOND FORM. 'bulk': how many values and letters a reading holds, each counted each time it is reached (what is shared counts as often as it is met; a slice's spare places count too). A statement '..UptoSaid' is the law's where the arguments, and the package variables that the reading takes, are together of bulk at most 1048576: NARROWER than '..Said'. Prove '..Said' where nothing that the law and all that it calls make is longer than what came in: it says more and counts as full. Else prove '..UptoSaid'. A law counts once. -/
mutual
def uptoBulk {H : Type} : DataW H → Nat
  | .lit (.string bytes) => bytes.length + 1
  | .lit _ => 1
  | .nil => 1
  | .ptr d => uptoBulk d + 1
  | .slice elems spare => uptoBulkAll elems + uptoBulkAll spare + 1
  | .agg parts => uptoBulkAll parts + 1
  | .iface _ d => uptoBulk d + 1
  | .map entries => uptoBulkEntries entries + 1
  | .held _ => 1
def uptoBulkAll {H : Type} : List (DataW H) → Nat
  | [] => 0
  | d :: r => uptoBulk d + uptoBulkAll r
def uptoBulkEntries {H : Type} : List (Lit × DataW H) → Nat
  | [] => 0
  | x :: r => uptoBulkEntry x + uptoBulkEntries r
def uptoBulkEntry {H : Type} : Lit × DataW H → Nat
  | (.string bytes, d) => bytes.length + uptoBulk d + 1
  | (_, d) => uptoBulk d + 1
 end
def uptoSmall : (H : Type) → List (DataW H) → Bool := fun _ ds => decide (uptoBulkAll ds ≤ 1048576)
def OpenSpec.upto (s : _root_.Go.ChangeSpec) : _root_.Go.OpenSpec := { _root_.Go.OpenSpec.ofChange s with cond := some uptoSmall }

/-- 'platformfwlaw23.HotplugSlotMatchesModel', WHERE WHAT IT READS IS OF BULK AT MOST 1048576: true; the input reads as it did. -/
def hotplugSlotMatchesModelUptoRow : OpenClaim := { program := "ytolbecinjajejaa", sum := "bd79b167a759419bd65148335a7f2dd110ba1fd648afa339b750ba22e0ffbd83", func := "platformfw/platformfwlaw23.HotplugSlotMatchesModel", spec := "hotplugSlotMatchesModel", apart := false, narrowed := true }
def HotplugSlotMatchesModelUptoSaid : Prop := hotplugSlotMatchesModelUptoRow.holds Try.pinned (OpenSpec.upto hotplugSlotMatchesModelSpec)

/-- 'platformfwlaw23.HotplugPowerBalance', WHERE WHAT IT READS IS OF BULK AT MOST 1048576: true; the input reads as it did. -/
def hotplugPowerBalanceUptoRow : OpenClaim := { program := "ytolbecinjajejaa", sum := "bd79b167a759419bd65148335a7f2dd110ba1fd648afa339b750ba22e0ffbd83", func := "platformfw/platformfwlaw23.HotplugPowerBalance", spec := "hotplugPowerBalance", apart := false, narrowed := true }
def HotplugPowerBalanceUptoSaid : Prop := hotplugPowerBalanceUptoRow.holds Try.pinned (OpenSpec.upto hotplugPowerBalanceSpec)

/-- 'platformfwlaw18.PciconfValidates', WHERE WHAT IT READS IS OF BULK AT MOST 1048576: true; the input reads as it did. -/
def pciconfValidatesUptoRow : OpenClaim := { program := "ytolbecinjajejaa", sum := "bd79b167a759419bd65148335a7f2dd110ba1fd648afa339b750ba22e0ffbd83", func := "platformfw/platformfwlaw18.PciconfValidates", spec := "pciconfValidates", apart := false, narrowed := true }
def PciconfValidatesUptoSaid : Prop := pciconfValidatesUptoRow.holds Try.pinned (OpenSpec.upto pciconfValidatesSpec)

/-- 'platformfwlaw18.PciconfReadOnly', WHERE WHAT IT READS IS OF BULK AT MOST 1048576: true; the input reads as it did. -/
def pciconfReadOnlyUptoRow : OpenClaim := { program := "ytolbecinjajejaa", sum := "bd79b167a759419bd65148335a7f2dd110ba1fd648afa339b750ba22e0ffbd83", func := "platformfw/platformfwlaw18.PciconfReadOnly", spec := "pciconfReadOnly", apart := false, narrowed := true }
def PciconfReadOnlyUptoSaid : Prop := pciconfReadOnlyUptoRow.holds Try.pinned (OpenSpec.upto pciconfReadOnlySpec)

/-- 'platformfwlaw18.PciconfAddresses', WHERE WHAT IT READS IS OF BULK AT MOST 1048576: true; the input reads as it did. -/
def pciconfAddressesUptoRow : OpenClaim := { program := "ytolbecinjajejaa", sum := "bd79b167a759419bd65148335a7f2dd110ba1fd648afa339b750ba22e0ffbd83", func := "platformfw/platformfwlaw18.PciconfAddresses", spec := "pciconfAddresses", apart := false, narrowed := true }
def PciconfAddressesUptoSaid : Prop := pciconfAddressesUptoRow.holds Try.pinned (OpenSpec.upto pciconfAddressesSpec)

end Rows
end Go.Proofs.Ytolbecinjajejaa
