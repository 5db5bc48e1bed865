/-
  DERIVED. GIVEN WITH THE SEED: THE CARDS: each row of YtnifkggcldalbaaGreatDoorRows.lean that lists a variable, with what it lists TIED to the program's text (the seventh form; the later family's looks); each row that meets fmt, with fmt's text TOLD by the authors' own Lean function (tested against real Go, not proved from fmt's source: count such statements apart). THE CARD IS WHAT COUNTS. Prove the row's statement (the work); the ties are given (YtnifkggcldalbaaGreatDoorTie.lean); close each card by the builder's one call (the guide's Derived/Test/ToyasCard.lean, 'card_holds'). Laid BY PROGRAM, IN A SANDBOX (cutbox-door.mjs). By AI agents, Wed Nov 11 2026. No macro, syntax, notation, axiom, sorry.
-/
import Derived.Test.YtnifkggcldalbaaGreatDoorRows
import GoSem.ClaimSeven
namespace Go.Proofs.YtnifkggcldalbaaGreatDoor
namespace Rows

/-- THE TIED CARD OF 'tankardlaw14.BlockMakes'. -/
def blockMakesCard : Claim7 := { stood := { row := blockMakesRow, standIns := [], harness := (true, "6a6f2700a24a201e8795cfdf6bb50da1a53c799fffd55cc3984cb57acc6fde4f"), looks := true }, kinds := [], alts := [], laidByText := true, laidKinds := [.data, .data, .data], laidTests := true, laidLooks := .later }
def BlockMakesCardSaid : Prop := Claim7.holds Tryz.pinned (.plain (OpenSpec.ofChange blockMakesSpec)) blockMakesCard

/-- THE TIED CARD OF 'tankardlaw14.BlockWrites'. -/
def blockWritesCard : Claim7 := { stood := { row := blockWritesRow, standIns := [], harness := (true, "6a6f2700a24a201e8795cfdf6bb50da1a53c799fffd55cc3984cb57acc6fde4f"), looks := true }, kinds := [], alts := [], laidByText := true, laidKinds := [.data, .data, .data], laidTests := true, laidLooks := .later }
def BlockWritesCardSaid : Prop := Claim7.holds Tryz.pinned (.plain (OpenSpec.ofChange blockWritesSpec)) blockWritesCard

/-- THE TIED CARD OF 'tankardlaw13.MetaGets'. -/
def metaGetsCard : Claim7 := { stood := { row := metaGetsRow, standIns := [], harness := (true, "6a6f2700a24a201e8795cfdf6bb50da1a53c799fffd55cc3984cb57acc6fde4f"), looks := true }, kinds := [], alts := [], laidByText := true, laidKinds := [.data, .data, .data, .data, .sentinel, .sentinel, .pinned], laidTests := true, laidLooks := .later }
def MetaGetsCardSaid : Prop := Claim7.holds Tryz.pinned (.plain (OpenSpec.ofChange metaGetsSpec)) metaGetsCard

/-- THE TIED CARD OF 'tankardlaw15.ReadFinds'. -/
def readFindsCard : Claim7 := { stood := { row := readFindsRow, standIns := [], harness := (true, "6a6f2700a24a201e8795cfdf6bb50da1a53c799fffd55cc3984cb57acc6fde4f"), looks := true }, kinds := [], alts := [], laidByText := true, laidKinds := [.data, .data, .data], laidTests := true, laidLooks := .later }
def ReadFindsCardSaid : Prop := Claim7.holds Tryz.pinned (.plain (OpenSpec.ofChange readFindsSpec)) readFindsCard

/-- THE TIED CARD OF 'tankardlaw15.ReadTells'. -/
def readTellsCard : Claim7 := { stood := { row := readTellsRow, standIns := [], harness := (true, "6a6f2700a24a201e8795cfdf6bb50da1a53c799fffd55cc3984cb57acc6fde4f"), looks := true }, kinds := [], alts := [], laidByText := true, laidKinds := [.data, .data, .data], laidTests := true, laidLooks := .later }
def ReadTellsCardSaid : Prop := Claim7.holds Tryz.pinned (.plain (OpenSpec.ofChange readTellsSpec)) readTellsCard

/-- THE SECOND FORM's CARD OF 'tankardlaw14.BlockMakes'. -/
def blockMakesUptoCard : Claim7 := { stood := { row := blockMakesUptoRow, standIns := [], harness := (true, "6a6f2700a24a201e8795cfdf6bb50da1a53c799fffd55cc3984cb57acc6fde4f"), looks := true }, kinds := [], alts := [], laidByText := true, laidKinds := [.data, .data, .data], laidTests := true, laidLooks := .later }
def BlockMakesUptoCardSaid : Prop := Claim7.holds Tryz.pinned (.plain (OpenSpec.upto blockMakesSpec)) blockMakesUptoCard

/-- THE SECOND FORM's CARD OF 'tankardlaw14.BlockWrites'. -/
def blockWritesUptoCard : Claim7 := { stood := { row := blockWritesUptoRow, standIns := [], harness := (true, "6a6f2700a24a201e8795cfdf6bb50da1a53c799fffd55cc3984cb57acc6fde4f"), looks := true }, kinds := [], alts := [], laidByText := true, laidKinds := [.data, .data, .data], laidTests := true, laidLooks := .later }
def BlockWritesUptoCardSaid : Prop := Claim7.holds Tryz.pinned (.plain (OpenSpec.upto blockWritesSpec)) blockWritesUptoCard

/-- THE SECOND FORM's CARD OF 'tankardlaw13.MetaGets'. -/
def metaGetsUptoCard : Claim7 := { stood := { row := metaGetsUptoRow, standIns := [], harness := (true, "6a6f2700a24a201e8795cfdf6bb50da1a53c799fffd55cc3984cb57acc6fde4f"), looks := true }, kinds := [], alts := [], laidByText := true, laidKinds := [.data, .data, .data, .data, .sentinel, .sentinel, .pinned], laidTests := true, laidLooks := .later }
def MetaGetsUptoCardSaid : Prop := Claim7.holds Tryz.pinned (.plain (OpenSpec.upto metaGetsSpec)) metaGetsUptoCard

/-- THE SECOND FORM's CARD OF 'tankardlaw15.ReadFinds'. -/
def readFindsUptoCard : Claim7 := { stood := { row := readFindsUptoRow, standIns := [], harness := (true, "6a6f2700a24a201e8795cfdf6bb50da1a53c799fffd55cc3984cb57acc6fde4f"), looks := true }, kinds := [], alts := [], laidByText := true, laidKinds := [.data, .data, .data], laidTests := true, laidLooks := .later }
def ReadFindsUptoCardSaid : Prop := Claim7.holds Tryz.pinned (.plain (OpenSpec.upto readFindsSpec)) readFindsUptoCard

/-- THE SECOND FORM's CARD OF 'tankardlaw15.ReadTells'. -/
def readTellsUptoCard : Claim7 := { stood := { row := readTellsUptoRow, standIns := [], harness := (true, "6a6f2700a24a201e8795cfdf6bb50da1a53c799fffd55cc3984cb57acc6fde4f"), looks := true }, kinds := [], alts := [], laidByText := true, laidKinds := [.data, .data, .data], laidTests := true, laidLooks := .later }
def ReadTellsUptoCardSaid : Prop := Claim7.holds Tryz.pinned (.plain (OpenSpec.upto readTellsSpec)) readTellsUptoCard
end Rows
end Go.Proofs.YtnifkggcldalbaaGreatDoor
