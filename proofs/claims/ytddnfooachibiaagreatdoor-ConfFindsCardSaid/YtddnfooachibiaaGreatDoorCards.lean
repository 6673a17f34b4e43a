/-
  DERIVED. GIVEN WITH THE SEED: THE CARDS: each row of YtddnfooachibiaaGreatDoorRows.lean that lists a variable, with what it lists TIED to the program's text (the seventh form; the later family's looks); each row that meets fmt, with fmt's text TOLD by the authors' own Lean function (tested against real Go, not proved from fmt's source: count such statements apart). THE CARD IS WHAT COUNTS. Prove the row's statement (the work); the ties are given (YtddnfooachibiaaGreatDoorTie.lean); close each card by the builder's one call (the guide's Derived/Test/ToyasCard.lean, 'card_holds'). Laid BY PROGRAM, IN A SANDBOX (cutbox-door.mjs). By AI agents, Wed Nov 11 2026. No macro, syntax, notation, axiom, sorry.
-/
import Derived.Test.YtddnfooachibiaaGreatDoorRows
import GoSem.ClaimSeven
namespace Go.Proofs.YtddnfooachibiaaGreatDoor
namespace Rows

/-- THE TIED CARD OF 'wharfingerlaw13.ConfParses'. -/
def confParsesCard : Claim7 := { stood := { row := confParsesRow, standIns := [], harness := (true, "7b8443a463c5f55e62ab8a3865c3a1529c07887fc89f48a1587c2956179633cb"), looks := true }, kinds := [], alts := [], laidByText := true, laidKinds := [.data, .data, .data, .data, .handle, .sentinel, .sentinel, .pinned], laidTests := true, laidLooks := .later }
def ConfParsesCardSaid : Prop := Claim7.holds Tryz.pinned (.plain (OpenSpec.ofChange confParsesSpec)) confParsesCard

/-- THE TIED CARD OF 'wharfingerlaw13.ConfFinds'. -/
def confFindsCard : Claim7 := { stood := { row := confFindsRow, standIns := [], harness := (true, "7b8443a463c5f55e62ab8a3865c3a1529c07887fc89f48a1587c2956179633cb"), looks := true }, kinds := [], alts := [], laidByText := true, laidKinds := [.data, .data, .data, .data, .handle, .sentinel, .sentinel, .pinned], laidTests := true, laidLooks := .later }
def ConfFindsCardSaid : Prop := Claim7.holds Tryz.pinned (.plain (OpenSpec.ofChange confFindsSpec)) confFindsCard

/-- THE TIED CARD OF 'wharfingerlaw13.ConfMost'. -/
def confMostCard : Claim7 := { stood := { row := confMostRow, standIns := [], harness := (true, "7b8443a463c5f55e62ab8a3865c3a1529c07887fc89f48a1587c2956179633cb"), looks := true }, kinds := [], alts := [], laidByText := true, laidKinds := [.data, .data, .data, .data, .handle, .sentinel, .sentinel, .pinned], laidTests := true, laidLooks := .later }
def ConfMostCardSaid : Prop := Claim7.holds Tryz.pinned (.plain (OpenSpec.ofChange confMostSpec)) confMostCard

/-- THE TIED CARD OF 'wharfingerlaw13.ConfNumbers'. -/
def confNumbersCard : Claim7 := { stood := { row := confNumbersRow, standIns := [], harness := (true, "7b8443a463c5f55e62ab8a3865c3a1529c07887fc89f48a1587c2956179633cb"), looks := true }, kinds := [], alts := [], laidByText := true, laidKinds := [.data, .data, .data, .data, .handle, .sentinel, .sentinel, .pinned], laidTests := true, laidLooks := .later }
def ConfNumbersCardSaid : Prop := Claim7.holds Tryz.pinned (.plain (OpenSpec.ofChange confNumbersSpec)) confNumbersCard

/-- THE TIED CARD OF 'wharfingerlaw13.ConfWrites'. -/
def confWritesCard : Claim7 := { stood := { row := confWritesRow, standIns := [], harness := (true, "7b8443a463c5f55e62ab8a3865c3a1529c07887fc89f48a1587c2956179633cb"), looks := true }, kinds := [], alts := [], laidByText := true, laidKinds := [.data, .data, .data, .data, .handle, .sentinel, .sentinel, .pinned], laidTests := true, laidLooks := .later }
def ConfWritesCardSaid : Prop := Claim7.holds Tryz.pinned (.plain (OpenSpec.ofChange confWritesSpec)) confWritesCard

/-- THE TIED CARD OF 'wharfingerlaw13.ConfLines'. -/
def confLinesCard : Claim7 := { stood := { row := confLinesRow, standIns := [], harness := (true, "7b8443a463c5f55e62ab8a3865c3a1529c07887fc89f48a1587c2956179633cb"), looks := true }, kinds := [], alts := [], laidByText := true, laidKinds := [.data, .data, .data, .data, .handle, .sentinel, .sentinel, .pinned], laidTests := true, laidLooks := .later }
def ConfLinesCardSaid : Prop := Claim7.holds Tryz.pinned (.plain (OpenSpec.ofChange confLinesSpec)) confLinesCard

/-- THE SECOND FORM's CARD OF 'wharfingerlaw13.ConfParses'. -/
def confParsesUptoCard : Claim7 := { stood := { row := confParsesUptoRow, standIns := [], harness := (true, "7b8443a463c5f55e62ab8a3865c3a1529c07887fc89f48a1587c2956179633cb"), looks := true }, kinds := [], alts := [], laidByText := true, laidKinds := [.data, .data, .data, .data, .handle, .sentinel, .sentinel, .pinned], laidTests := true, laidLooks := .later }
def ConfParsesUptoCardSaid : Prop := Claim7.holds Tryz.pinned (.plain (OpenSpec.upto confParsesSpec)) confParsesUptoCard

/-- THE SECOND FORM's CARD OF 'wharfingerlaw13.ConfFinds'. -/
def confFindsUptoCard : Claim7 := { stood := { row := confFindsUptoRow, standIns := [], harness := (true, "7b8443a463c5f55e62ab8a3865c3a1529c07887fc89f48a1587c2956179633cb"), looks := true }, kinds := [], alts := [], laidByText := true, laidKinds := [.data, .data, .data, .data, .handle, .sentinel, .sentinel, .pinned], laidTests := true, laidLooks := .later }
def ConfFindsUptoCardSaid : Prop := Claim7.holds Tryz.pinned (.plain (OpenSpec.upto confFindsSpec)) confFindsUptoCard

/-- THE SECOND FORM's CARD OF 'wharfingerlaw13.ConfMost'. -/
def confMostUptoCard : Claim7 := { stood := { row := confMostUptoRow, standIns := [], harness := (true, "7b8443a463c5f55e62ab8a3865c3a1529c07887fc89f48a1587c2956179633cb"), looks := true }, kinds := [], alts := [], laidByText := true, laidKinds := [.data, .data, .data, .data, .handle, .sentinel, .sentinel, .pinned], laidTests := true, laidLooks := .later }
def ConfMostUptoCardSaid : Prop := Claim7.holds Tryz.pinned (.plain (OpenSpec.upto confMostSpec)) confMostUptoCard

/-- THE SECOND FORM's CARD OF 'wharfingerlaw13.ConfNumbers'. -/
def confNumbersUptoCard : Claim7 := { stood := { row := confNumbersUptoRow, standIns := [], harness := (true, "7b8443a463c5f55e62ab8a3865c3a1529c07887fc89f48a1587c2956179633cb"), looks := true }, kinds := [], alts := [], laidByText := true, laidKinds := [.data, .data, .data, .data, .handle, .sentinel, .sentinel, .pinned], laidTests := true, laidLooks := .later }
def ConfNumbersUptoCardSaid : Prop := Claim7.holds Tryz.pinned (.plain (OpenSpec.upto confNumbersSpec)) confNumbersUptoCard

/-- THE SECOND FORM's CARD OF 'wharfingerlaw13.ConfWrites'. -/
def confWritesUptoCard : Claim7 := { stood := { row := confWritesUptoRow, standIns := [], harness := (true, "7b8443a463c5f55e62ab8a3865c3a1529c07887fc89f48a1587c2956179633cb"), looks := true }, kinds := [], alts := [], laidByText := true, laidKinds := [.data, .data, .data, .data, .handle, .sentinel, .sentinel, .pinned], laidTests := true, laidLooks := .later }
def ConfWritesUptoCardSaid : Prop := Claim7.holds Tryz.pinned (.plain (OpenSpec.upto confWritesSpec)) confWritesUptoCard

/-- THE SECOND FORM's CARD OF 'wharfingerlaw13.ConfLines'. -/
def confLinesUptoCard : Claim7 := { stood := { row := confLinesUptoRow, standIns := [], harness := (true, "7b8443a463c5f55e62ab8a3865c3a1529c07887fc89f48a1587c2956179633cb"), looks := true }, kinds := [], alts := [], laidByText := true, laidKinds := [.data, .data, .data, .data, .handle, .sentinel, .sentinel, .pinned], laidTests := true, laidLooks := .later }
def ConfLinesUptoCardSaid : Prop := Claim7.holds Tryz.pinned (.plain (OpenSpec.upto confLinesSpec)) confLinesUptoCard
end Rows
end Go.Proofs.YtddnfooachibiaaGreatDoor
