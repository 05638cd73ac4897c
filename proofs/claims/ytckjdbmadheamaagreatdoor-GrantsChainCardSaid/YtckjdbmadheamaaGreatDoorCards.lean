/-
  DERIVED. GIVEN WITH THE SEED: THE CARDS: each row of YtckjdbmadheamaaGreatDoorRows.lean that lists a variable, with what it lists TIED to the program's text (the seventh form; the later family's looks); each row that meets fmt, with fmt's text TOLD by the authors' own Lean function (tested against real Go, not proved from fmt's source: count such statements apart). THE CARD IS WHAT COUNTS. Prove the row's statement (the work); the ties are given (YtckjdbmadheamaaGreatDoorTie.lean); close each card by the builder's one call (the guide's Derived/Test/ToyasCard.lean, 'card_holds'). Laid BY PROGRAM, IN A SANDBOX (cutbox-door.mjs). By AI agents, Wed Nov 11 2026. No macro, syntax, notation, axiom, sorry.
-/
import Derived.Test.YtckjdbmadheamaaGreatDoorRows
import GoSem.ClaimSeven
namespace Go.Proofs.YtckjdbmadheamaaGreatDoor
namespace Rows

/-- THE TIED CARD OF 'imprimaturlaw11.RightsApart'. -/
def rightsApartCard : Claim7 := { stood := { row := rightsApartRow, standIns := [], harness := (true, "aadcf3545073fb76ff8abc8b2e5ba9cba7bc6b27af8639ae97a21931f818f4be"), looks := true }, kinds := [], alts := [], laidByText := true, laidKinds := [.data, .data, .data, .data, .handle, .sentinel, .sentinel, .pinned], laidTests := true, laidLooks := .later }
def RightsApartCardSaid : Prop := Claim7.holds Tryz.pinned (.plain (OpenSpec.ofChange rightsApartSpec)) rightsApartCard

/-- THE TIED CARD OF 'imprimaturlaw11.RightsGive'. -/
def rightsGiveCard : Claim7 := { stood := { row := rightsGiveRow, standIns := [], harness := (true, "aadcf3545073fb76ff8abc8b2e5ba9cba7bc6b27af8639ae97a21931f818f4be"), looks := true }, kinds := [], alts := [], laidByText := true, laidKinds := [.data, .data, .data, .data, .handle, .sentinel, .sentinel, .pinned], laidTests := true, laidLooks := .later }
def RightsGiveCardSaid : Prop := Claim7.holds Tryz.pinned (.plain (OpenSpec.ofChange rightsGiveSpec)) rightsGiveCard

/-- THE TIED CARD OF 'imprimaturlaw11.RightsLimits'. -/
def rightsLimitsCard : Claim7 := { stood := { row := rightsLimitsRow, standIns := [], harness := (true, "aadcf3545073fb76ff8abc8b2e5ba9cba7bc6b27af8639ae97a21931f818f4be"), looks := true }, kinds := [], alts := [], laidByText := true, laidKinds := [.data, .data, .data, .data, .handle, .sentinel, .sentinel, .pinned], laidTests := true, laidLooks := .later }
def RightsLimitsCardSaid : Prop := Claim7.holds Tryz.pinned (.plain (OpenSpec.ofChange rightsLimitsSpec)) rightsLimitsCard

/-- THE TIED CARD OF 'imprimaturlaw11.RightsForms'. -/
def rightsFormsCard : Claim7 := { stood := { row := rightsFormsRow, standIns := [], harness := (true, "aadcf3545073fb76ff8abc8b2e5ba9cba7bc6b27af8639ae97a21931f818f4be"), looks := true }, kinds := [], alts := [], laidByText := true, laidKinds := [.data, .data, .data, .data, .handle, .sentinel, .sentinel, .pinned], laidTests := true, laidLooks := .later }
def RightsFormsCardSaid : Prop := Claim7.holds Tryz.pinned (.plain (OpenSpec.ofChange rightsFormsSpec)) rightsFormsCard

/-- THE TIED CARD OF 'imprimaturlaw11.RightsCompile'. -/
def rightsCompileCard : Claim7 := { stood := { row := rightsCompileRow, standIns := [], harness := (true, "aadcf3545073fb76ff8abc8b2e5ba9cba7bc6b27af8639ae97a21931f818f4be"), looks := true }, kinds := [], alts := [], laidByText := true, laidKinds := [.data, .data, .data, .data, .handle, .sentinel, .sentinel, .pinned], laidTests := true, laidLooks := .later }
def RightsCompileCardSaid : Prop := Claim7.holds Tryz.pinned (.plain (OpenSpec.ofChange rightsCompileSpec)) rightsCompileCard

/-- THE TIED CARD OF 'imprimaturlaw13.SeatsNumbers'. -/
def seatsNumbersCard : Claim7 := { stood := { row := seatsNumbersRow, standIns := [], harness := (true, "aadcf3545073fb76ff8abc8b2e5ba9cba7bc6b27af8639ae97a21931f818f4be"), looks := true }, kinds := [], alts := [], laidByText := true, laidKinds := [.data, .data, .data, .data, .handle, .sentinel, .sentinel, .pinned], laidTests := true, laidLooks := .later }
def SeatsNumbersCardSaid : Prop := Claim7.holds Tryz.pinned (.plain (OpenSpec.ofChange seatsNumbersSpec)) seatsNumbersCard

/-- THE TIED CARD OF 'imprimaturlaw15.StaffFinds'. -/
def staffFindsCard : Claim7 := { stood := { row := staffFindsRow, standIns := [], harness := (true, "aadcf3545073fb76ff8abc8b2e5ba9cba7bc6b27af8639ae97a21931f818f4be"), looks := true }, kinds := [], alts := [], laidByText := true, laidKinds := [.data, .data, .data, .data, .handle, .sentinel, .sentinel, .pinned], laidTests := true, laidLooks := .later }
def StaffFindsCardSaid : Prop := Claim7.holds Tryz.pinned (.plain (OpenSpec.ofChange staffFindsSpec)) staffFindsCard

/-- THE TIED CARD OF 'imprimaturlaw15.StaffAble'. -/
def staffAbleCard : Claim7 := { stood := { row := staffAbleRow, standIns := [], harness := (true, "aadcf3545073fb76ff8abc8b2e5ba9cba7bc6b27af8639ae97a21931f818f4be"), looks := true }, kinds := [], alts := [], laidByText := true, laidKinds := [.data, .data, .data, .data, .handle, .sentinel, .sentinel, .pinned], laidTests := true, laidLooks := .later }
def StaffAbleCardSaid : Prop := Claim7.holds Tryz.pinned (.plain (OpenSpec.ofChange staffAbleSpec)) staffAbleCard

/-- THE TIED CARD OF 'imprimaturlaw12.GrantsChain'. -/
def grantsChainCard : Claim7 := { stood := { row := grantsChainRow, standIns := [], harness := (true, "aadcf3545073fb76ff8abc8b2e5ba9cba7bc6b27af8639ae97a21931f818f4be"), looks := true }, kinds := [], alts := [], laidByText := true, laidKinds := [.data, .data, .data, .data, .handle, .sentinel, .sentinel, .pinned], laidTests := true, laidLooks := .later }
def GrantsChainCardSaid : Prop := Claim7.holds Tryz.pinned (.plain (OpenSpec.ofChange grantsChainSpec)) grantsChainCard

/-- THE TIED CARD OF 'imprimaturlaw12.GrantsErrors'. -/
def grantsErrorsCard : Claim7 := { stood := { row := grantsErrorsRow, standIns := [], harness := (true, "aadcf3545073fb76ff8abc8b2e5ba9cba7bc6b27af8639ae97a21931f818f4be"), looks := true }, kinds := [], alts := [], laidByText := true, laidKinds := [.data, .data, .data, .data, .handle, .sentinel, .sentinel, .pinned], laidTests := true, laidLooks := .later }
def GrantsErrorsCardSaid : Prop := Claim7.holds Tryz.pinned (.plain (OpenSpec.ofChange grantsErrorsSpec)) grantsErrorsCard

/-- THE TIED CARD OF 'imprimaturlaw12.GrantsApart'. -/
def grantsApartCard : Claim7 := { stood := { row := grantsApartRow, standIns := [], harness := (true, "aadcf3545073fb76ff8abc8b2e5ba9cba7bc6b27af8639ae97a21931f818f4be"), looks := true }, kinds := [], alts := [], laidByText := true, laidKinds := [.data, .data, .data, .data, .handle, .sentinel, .sentinel, .pinned], laidTests := true, laidLooks := .later }
def GrantsApartCardSaid : Prop := Claim7.holds Tryz.pinned (.plain (OpenSpec.ofChange grantsApartSpec)) grantsApartCard

/-- THE TIED CARD OF 'imprimaturlaw12.GrantsGo'. -/
def grantsGoCard : Claim7 := { stood := { row := grantsGoRow, standIns := [], harness := (true, "aadcf3545073fb76ff8abc8b2e5ba9cba7bc6b27af8639ae97a21931f818f4be"), looks := true }, kinds := [], alts := [], laidByText := true, laidKinds := [.data, .data, .data, .data, .handle, .sentinel, .sentinel, .pinned], laidTests := true, laidLooks := .later }
def GrantsGoCardSaid : Prop := Claim7.holds Tryz.pinned (.plain (OpenSpec.ofChange grantsGoSpec)) grantsGoCard

/-- THE SECOND FORM's CARD OF 'imprimaturlaw11.RightsApart'. -/
def rightsApartUptoCard : Claim7 := { stood := { row := rightsApartUptoRow, standIns := [], harness := (true, "aadcf3545073fb76ff8abc8b2e5ba9cba7bc6b27af8639ae97a21931f818f4be"), looks := true }, kinds := [], alts := [], laidByText := true, laidKinds := [.data, .data, .data, .data, .handle, .sentinel, .sentinel, .pinned], laidTests := true, laidLooks := .later }
def RightsApartUptoCardSaid : Prop := Claim7.holds Tryz.pinned (.plain (OpenSpec.upto rightsApartSpec)) rightsApartUptoCard

/-- THE SECOND FORM's CARD OF 'imprimaturlaw11.RightsGive'. -/
def rightsGiveUptoCard : Claim7 := { stood := { row := rightsGiveUptoRow, standIns := [], harness := (true, "aadcf3545073fb76ff8abc8b2e5ba9cba7bc6b27af8639ae97a21931f818f4be"), looks := true }, kinds := [], alts := [], laidByText := true, laidKinds := [.data, .data, .data, .data, .handle, .sentinel, .sentinel, .pinned], laidTests := true, laidLooks := .later }
def RightsGiveUptoCardSaid : Prop := Claim7.holds Tryz.pinned (.plain (OpenSpec.upto rightsGiveSpec)) rightsGiveUptoCard

/-- THE SECOND FORM's CARD OF 'imprimaturlaw11.RightsLimits'. -/
def rightsLimitsUptoCard : Claim7 := { stood := { row := rightsLimitsUptoRow, standIns := [], harness := (true, "aadcf3545073fb76ff8abc8b2e5ba9cba7bc6b27af8639ae97a21931f818f4be"), looks := true }, kinds := [], alts := [], laidByText := true, laidKinds := [.data, .data, .data, .data, .handle, .sentinel, .sentinel, .pinned], laidTests := true, laidLooks := .later }
def RightsLimitsUptoCardSaid : Prop := Claim7.holds Tryz.pinned (.plain (OpenSpec.upto rightsLimitsSpec)) rightsLimitsUptoCard

/-- THE SECOND FORM's CARD OF 'imprimaturlaw11.RightsForms'. -/
def rightsFormsUptoCard : Claim7 := { stood := { row := rightsFormsUptoRow, standIns := [], harness := (true, "aadcf3545073fb76ff8abc8b2e5ba9cba7bc6b27af8639ae97a21931f818f4be"), looks := true }, kinds := [], alts := [], laidByText := true, laidKinds := [.data, .data, .data, .data, .handle, .sentinel, .sentinel, .pinned], laidTests := true, laidLooks := .later }
def RightsFormsUptoCardSaid : Prop := Claim7.holds Tryz.pinned (.plain (OpenSpec.upto rightsFormsSpec)) rightsFormsUptoCard

/-- THE SECOND FORM's CARD OF 'imprimaturlaw11.RightsCompile'. -/
def rightsCompileUptoCard : Claim7 := { stood := { row := rightsCompileUptoRow, standIns := [], harness := (true, "aadcf3545073fb76ff8abc8b2e5ba9cba7bc6b27af8639ae97a21931f818f4be"), looks := true }, kinds := [], alts := [], laidByText := true, laidKinds := [.data, .data, .data, .data, .handle, .sentinel, .sentinel, .pinned], laidTests := true, laidLooks := .later }
def RightsCompileUptoCardSaid : Prop := Claim7.holds Tryz.pinned (.plain (OpenSpec.upto rightsCompileSpec)) rightsCompileUptoCard

/-- THE SECOND FORM's CARD OF 'imprimaturlaw13.SeatsNumbers'. -/
def seatsNumbersUptoCard : Claim7 := { stood := { row := seatsNumbersUptoRow, standIns := [], harness := (true, "aadcf3545073fb76ff8abc8b2e5ba9cba7bc6b27af8639ae97a21931f818f4be"), looks := true }, kinds := [], alts := [], laidByText := true, laidKinds := [.data, .data, .data, .data, .handle, .sentinel, .sentinel, .pinned], laidTests := true, laidLooks := .later }
def SeatsNumbersUptoCardSaid : Prop := Claim7.holds Tryz.pinned (.plain (OpenSpec.upto seatsNumbersSpec)) seatsNumbersUptoCard

/-- THE SECOND FORM's CARD OF 'imprimaturlaw15.StaffFinds'. -/
def staffFindsUptoCard : Claim7 := { stood := { row := staffFindsUptoRow, standIns := [], harness := (true, "aadcf3545073fb76ff8abc8b2e5ba9cba7bc6b27af8639ae97a21931f818f4be"), looks := true }, kinds := [], alts := [], laidByText := true, laidKinds := [.data, .data, .data, .data, .handle, .sentinel, .sentinel, .pinned], laidTests := true, laidLooks := .later }
def StaffFindsUptoCardSaid : Prop := Claim7.holds Tryz.pinned (.plain (OpenSpec.upto staffFindsSpec)) staffFindsUptoCard

/-- THE SECOND FORM's CARD OF 'imprimaturlaw15.StaffAble'. -/
def staffAbleUptoCard : Claim7 := { stood := { row := staffAbleUptoRow, standIns := [], harness := (true, "aadcf3545073fb76ff8abc8b2e5ba9cba7bc6b27af8639ae97a21931f818f4be"), looks := true }, kinds := [], alts := [], laidByText := true, laidKinds := [.data, .data, .data, .data, .handle, .sentinel, .sentinel, .pinned], laidTests := true, laidLooks := .later }
def StaffAbleUptoCardSaid : Prop := Claim7.holds Tryz.pinned (.plain (OpenSpec.upto staffAbleSpec)) staffAbleUptoCard

/-- THE SECOND FORM's CARD OF 'imprimaturlaw12.GrantsChain'. -/
def grantsChainUptoCard : Claim7 := { stood := { row := grantsChainUptoRow, standIns := [], harness := (true, "aadcf3545073fb76ff8abc8b2e5ba9cba7bc6b27af8639ae97a21931f818f4be"), looks := true }, kinds := [], alts := [], laidByText := true, laidKinds := [.data, .data, .data, .data, .handle, .sentinel, .sentinel, .pinned], laidTests := true, laidLooks := .later }
def GrantsChainUptoCardSaid : Prop := Claim7.holds Tryz.pinned (.plain (OpenSpec.upto grantsChainSpec)) grantsChainUptoCard

/-- THE SECOND FORM's CARD OF 'imprimaturlaw12.GrantsErrors'. -/
def grantsErrorsUptoCard : Claim7 := { stood := { row := grantsErrorsUptoRow, standIns := [], harness := (true, "aadcf3545073fb76ff8abc8b2e5ba9cba7bc6b27af8639ae97a21931f818f4be"), looks := true }, kinds := [], alts := [], laidByText := true, laidKinds := [.data, .data, .data, .data, .handle, .sentinel, .sentinel, .pinned], laidTests := true, laidLooks := .later }
def GrantsErrorsUptoCardSaid : Prop := Claim7.holds Tryz.pinned (.plain (OpenSpec.upto grantsErrorsSpec)) grantsErrorsUptoCard

/-- THE SECOND FORM's CARD OF 'imprimaturlaw12.GrantsApart'. -/
def grantsApartUptoCard : Claim7 := { stood := { row := grantsApartUptoRow, standIns := [], harness := (true, "aadcf3545073fb76ff8abc8b2e5ba9cba7bc6b27af8639ae97a21931f818f4be"), looks := true }, kinds := [], alts := [], laidByText := true, laidKinds := [.data, .data, .data, .data, .handle, .sentinel, .sentinel, .pinned], laidTests := true, laidLooks := .later }
def GrantsApartUptoCardSaid : Prop := Claim7.holds Tryz.pinned (.plain (OpenSpec.upto grantsApartSpec)) grantsApartUptoCard

/-- THE SECOND FORM's CARD OF 'imprimaturlaw12.GrantsGo'. -/
def grantsGoUptoCard : Claim7 := { stood := { row := grantsGoUptoRow, standIns := [], harness := (true, "aadcf3545073fb76ff8abc8b2e5ba9cba7bc6b27af8639ae97a21931f818f4be"), looks := true }, kinds := [], alts := [], laidByText := true, laidKinds := [.data, .data, .data, .data, .handle, .sentinel, .sentinel, .pinned], laidTests := true, laidLooks := .later }
def GrantsGoUptoCardSaid : Prop := Claim7.holds Tryz.pinned (.plain (OpenSpec.upto grantsGoSpec)) grantsGoUptoCard
end Rows
end Go.Proofs.YtckjdbmadheamaaGreatDoor
