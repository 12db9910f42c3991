/-
  DERIVED. GIVEN WITH THE SEED: THE CARDS: each row of YtmdnddoiopgboaaDoorRows.lean that lists a variable, with what it lists TIED to the program's text (the seventh form; the later family's looks); each row that meets fmt, with fmt's text TOLD by the authors' own Lean function (tested against real Go, not proved from fmt's source: count such statements apart). THE CARD IS WHAT COUNTS. Prove the row's statement (the work); the ties are given (YtmdnddoiopgboaaDoorTie.lean); close each card by the builder's one call (the guide's Derived/Test/ToyasCard.lean, 'card_holds'). Laid BY PROGRAM, IN A SANDBOX (cutbox-door.mjs). By AI agents, Wed Nov 11 2026. No macro, syntax, notation, axiom, sorry.
-/
import Derived.Test.YtmdnddoiopgboaaDoorRows
import GoSem.ClaimSeven
namespace Go.Proofs.YtmdnddoiopgboaaDoor
namespace Rows

/-- THE TIED CARD OF 'sourdinelaw23.TablePlays'. -/
def tablePlaysCard : Claim7 := { stood := { row := tablePlaysRow, standIns := [], harness := (true, "717326fbc01ef86b2ddec3506f33964534d5ba5d9b2c3a3f826570e35c324427"), looks := false }, kinds := [], alts := [], laidByText := true, laidKinds := [.data, .data], laidTests := true, laidLooks := .later }
def TablePlaysCardSaid : Prop := Claim7.holds Tryd.pinned (.plain (OpenSpec.ofChange tablePlaysSpec)) tablePlaysCard

/-- THE TIED CARD OF 'sourdinelaw23.TableFull'. -/
def tableFullCard : Claim7 := { stood := { row := tableFullRow, standIns := [], harness := (true, "717326fbc01ef86b2ddec3506f33964534d5ba5d9b2c3a3f826570e35c324427"), looks := false }, kinds := [], alts := [], laidByText := true, laidKinds := [.data, .data], laidTests := true, laidLooks := .later }
def TableFullCardSaid : Prop := Claim7.holds Tryd.pinned (.plain (OpenSpec.ofChange tableFullSpec)) tableFullCard

/-- THE TIED CARD OF 'sourdinelaw23.TableSizes'. -/
def tableSizesCard : Claim7 := { stood := { row := tableSizesRow, standIns := [], harness := (true, "717326fbc01ef86b2ddec3506f33964534d5ba5d9b2c3a3f826570e35c324427"), looks := false }, kinds := [], alts := [], laidByText := true, laidKinds := [.data, .data], laidTests := true, laidLooks := .later }
def TableSizesCardSaid : Prop := Claim7.holds Tryd.pinned (.plain (OpenSpec.ofChange tableSizesSpec)) tableSizesCard

/-- THE TIED CARD OF 'sourdinelaw23.TableMany'. -/
def tableManyCard : Claim7 := { stood := { row := tableManyRow, standIns := [], harness := (true, "717326fbc01ef86b2ddec3506f33964534d5ba5d9b2c3a3f826570e35c324427"), looks := false }, kinds := [], alts := [], laidByText := true, laidKinds := [.data, .data], laidTests := true, laidLooks := .later }
def TableManyCardSaid : Prop := Claim7.holds Tryd.pinned (.plain (OpenSpec.ofChange tableManySpec)) tableManyCard

/-- THE SECOND FORM's CARD OF 'sourdinelaw23.TablePlays'. -/
def tablePlaysUptoCard : Claim7 := { stood := { row := tablePlaysUptoRow, standIns := [], harness := (true, "717326fbc01ef86b2ddec3506f33964534d5ba5d9b2c3a3f826570e35c324427"), looks := false }, kinds := [], alts := [], laidByText := true, laidKinds := [.data, .data], laidTests := true, laidLooks := .later }
def TablePlaysUptoCardSaid : Prop := Claim7.holds Tryd.pinned (.plain (OpenSpec.upto tablePlaysSpec)) tablePlaysUptoCard

/-- THE SECOND FORM's CARD OF 'sourdinelaw23.TableFull'. -/
def tableFullUptoCard : Claim7 := { stood := { row := tableFullUptoRow, standIns := [], harness := (true, "717326fbc01ef86b2ddec3506f33964534d5ba5d9b2c3a3f826570e35c324427"), looks := false }, kinds := [], alts := [], laidByText := true, laidKinds := [.data, .data], laidTests := true, laidLooks := .later }
def TableFullUptoCardSaid : Prop := Claim7.holds Tryd.pinned (.plain (OpenSpec.upto tableFullSpec)) tableFullUptoCard

/-- THE SECOND FORM's CARD OF 'sourdinelaw23.TableSizes'. -/
def tableSizesUptoCard : Claim7 := { stood := { row := tableSizesUptoRow, standIns := [], harness := (true, "717326fbc01ef86b2ddec3506f33964534d5ba5d9b2c3a3f826570e35c324427"), looks := false }, kinds := [], alts := [], laidByText := true, laidKinds := [.data, .data], laidTests := true, laidLooks := .later }
def TableSizesUptoCardSaid : Prop := Claim7.holds Tryd.pinned (.plain (OpenSpec.upto tableSizesSpec)) tableSizesUptoCard

/-- THE SECOND FORM's CARD OF 'sourdinelaw23.TableMany'. -/
def tableManyUptoCard : Claim7 := { stood := { row := tableManyUptoRow, standIns := [], harness := (true, "717326fbc01ef86b2ddec3506f33964534d5ba5d9b2c3a3f826570e35c324427"), looks := false }, kinds := [], alts := [], laidByText := true, laidKinds := [.data, .data], laidTests := true, laidLooks := .later }
def TableManyUptoCardSaid : Prop := Claim7.holds Tryd.pinned (.plain (OpenSpec.upto tableManySpec)) tableManyUptoCard
end Rows
end Go.Proofs.YtmdnddoiopgboaaDoor
