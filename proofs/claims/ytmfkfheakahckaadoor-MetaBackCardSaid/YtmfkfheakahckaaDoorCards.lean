/-
  DERIVED. GIVEN WITH THE SEED: THE CARDS: each row of YtmfkfheakahckaaDoorRows.lean that lists a variable, with what it lists TIED to the program's text (the seventh form; the later family's looks); each row that meets fmt, with fmt's text TOLD by the authors' own Lean function (tested against real Go, not proved from fmt's source: count such statements apart). THE CARD IS WHAT COUNTS. Prove the row's statement (the work); the ties are given (YtmfkfheakahckaaDoorTie.lean); close each card by the builder's one call (the guide's Derived/Test/ToyasCard.lean, 'card_holds'). Laid BY PROGRAM, IN A SANDBOX (cutbox-door.mjs). By AI agents, Wed Nov 11 2026. No macro, syntax, notation, axiom, sorry.
-/
import Derived.Test.YtmfkfheakahckaaDoorRows
import GoSem.ClaimSeven
namespace Go.Proofs.YtmfkfheakahckaaDoor
namespace Rows

/-- THE TIED CARD OF 'shalelaw12.MetaCut'. -/
def metaCutCard : Claim7 := { stood := { row := metaCutRow, standIns := [], harness := (true, "890c81438dbf5a0de07501bf0b0f80cc3d532625e59d289cdb74cb2f6a2cd725"), looks := true }, kinds := [], alts := [], laidByText := true, laidKinds := [.sentinel], laidTests := true, laidLooks := .later }
def MetaCutCardSaid : Prop := Claim7.holds Tryd.pinned (.plain (OpenSpec.ofChange metaCutSpec)) metaCutCard

/-- THE TIED CARD OF 'shalelaw12.MetaBack'. -/
def metaBackCard : Claim7 := { stood := { row := metaBackRow, standIns := [], harness := (true, "890c81438dbf5a0de07501bf0b0f80cc3d532625e59d289cdb74cb2f6a2cd725"), looks := true }, kinds := [], alts := [], laidByText := true, laidKinds := [.sentinel], laidTests := true, laidLooks := .later }
def MetaBackCardSaid : Prop := Claim7.holds Tryd.pinned (.plain (OpenSpec.ofChange metaBackSpec)) metaBackCard

/-- THE TIED CARD OF 'shalelaw12.MetaUnlike'. -/
def metaUnlikeCard : Claim7 := { stood := { row := metaUnlikeRow, standIns := [], harness := (true, "890c81438dbf5a0de07501bf0b0f80cc3d532625e59d289cdb74cb2f6a2cd725"), looks := true }, kinds := [], alts := [], laidByText := true, laidKinds := [.sentinel], laidTests := true, laidLooks := .later }
def MetaUnlikeCardSaid : Prop := Claim7.holds Tryd.pinned (.plain (OpenSpec.ofChange metaUnlikeSpec)) metaUnlikeCard

/-- THE TIED CARD OF 'shalelaw12.MetaSays'. -/
def metaSaysCard : Claim7 := { stood := { row := metaSaysRow, standIns := [], harness := (true, "890c81438dbf5a0de07501bf0b0f80cc3d532625e59d289cdb74cb2f6a2cd725"), looks := true }, kinds := [], alts := [], laidByText := true, laidKinds := [.sentinel], laidTests := true, laidLooks := .later }
def MetaSaysCardSaid : Prop := Claim7.holds Tryd.pinned (.plain (OpenSpec.ofChange metaSaysSpec)) metaSaysCard

/-- THE TIED CARD OF 'shalelaw12.MetaOrder'. -/
def metaOrderCard : Claim7 := { stood := { row := metaOrderRow, standIns := [], harness := (true, "890c81438dbf5a0de07501bf0b0f80cc3d532625e59d289cdb74cb2f6a2cd725"), looks := true }, kinds := [], alts := [], laidByText := true, laidKinds := [.sentinel], laidTests := true, laidLooks := .later }
def MetaOrderCardSaid : Prop := Claim7.holds Tryd.pinned (.plain (OpenSpec.ofChange metaOrderSpec)) metaOrderCard

/-- THE SECOND FORM's CARD OF 'shalelaw12.MetaCut'. -/
def metaCutUptoCard : Claim7 := { stood := { row := metaCutUptoRow, standIns := [], harness := (true, "890c81438dbf5a0de07501bf0b0f80cc3d532625e59d289cdb74cb2f6a2cd725"), looks := true }, kinds := [], alts := [], laidByText := true, laidKinds := [.sentinel], laidTests := true, laidLooks := .later }
def MetaCutUptoCardSaid : Prop := Claim7.holds Tryd.pinned (.plain (OpenSpec.upto metaCutSpec)) metaCutUptoCard

/-- THE SECOND FORM's CARD OF 'shalelaw12.MetaBack'. -/
def metaBackUptoCard : Claim7 := { stood := { row := metaBackUptoRow, standIns := [], harness := (true, "890c81438dbf5a0de07501bf0b0f80cc3d532625e59d289cdb74cb2f6a2cd725"), looks := true }, kinds := [], alts := [], laidByText := true, laidKinds := [.sentinel], laidTests := true, laidLooks := .later }
def MetaBackUptoCardSaid : Prop := Claim7.holds Tryd.pinned (.plain (OpenSpec.upto metaBackSpec)) metaBackUptoCard

/-- THE SECOND FORM's CARD OF 'shalelaw12.MetaUnlike'. -/
def metaUnlikeUptoCard : Claim7 := { stood := { row := metaUnlikeUptoRow, standIns := [], harness := (true, "890c81438dbf5a0de07501bf0b0f80cc3d532625e59d289cdb74cb2f6a2cd725"), looks := true }, kinds := [], alts := [], laidByText := true, laidKinds := [.sentinel], laidTests := true, laidLooks := .later }
def MetaUnlikeUptoCardSaid : Prop := Claim7.holds Tryd.pinned (.plain (OpenSpec.upto metaUnlikeSpec)) metaUnlikeUptoCard

/-- THE SECOND FORM's CARD OF 'shalelaw12.MetaSays'. -/
def metaSaysUptoCard : Claim7 := { stood := { row := metaSaysUptoRow, standIns := [], harness := (true, "890c81438dbf5a0de07501bf0b0f80cc3d532625e59d289cdb74cb2f6a2cd725"), looks := true }, kinds := [], alts := [], laidByText := true, laidKinds := [.sentinel], laidTests := true, laidLooks := .later }
def MetaSaysUptoCardSaid : Prop := Claim7.holds Tryd.pinned (.plain (OpenSpec.upto metaSaysSpec)) metaSaysUptoCard

/-- THE SECOND FORM's CARD OF 'shalelaw12.MetaOrder'. -/
def metaOrderUptoCard : Claim7 := { stood := { row := metaOrderUptoRow, standIns := [], harness := (true, "890c81438dbf5a0de07501bf0b0f80cc3d532625e59d289cdb74cb2f6a2cd725"), looks := true }, kinds := [], alts := [], laidByText := true, laidKinds := [.sentinel], laidTests := true, laidLooks := .later }
def MetaOrderUptoCardSaid : Prop := Claim7.holds Tryd.pinned (.plain (OpenSpec.upto metaOrderSpec)) metaOrderUptoCard
end Rows
end Go.Proofs.YtmfkfheakahckaaDoor
