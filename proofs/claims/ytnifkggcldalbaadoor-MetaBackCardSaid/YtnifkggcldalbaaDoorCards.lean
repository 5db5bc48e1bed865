/-
  DERIVED. GIVEN WITH THE SEED: THE CARDS: each row of YtnifkggcldalbaaDoorRows.lean that lists a variable, with what it lists TIED to the program's text (the seventh form; the later family's looks); each row that meets fmt, with fmt's text TOLD by the authors' own Lean function (tested against real Go, not proved from fmt's source: count such statements apart). THE CARD IS WHAT COUNTS. Prove the row's statement (the work); the ties are given (YtnifkggcldalbaaDoorTie.lean); close each card by the builder's one call (the guide's Derived/Test/ToyasCard.lean, 'card_holds'). Laid BY PROGRAM, IN A SANDBOX (cutbox-door.mjs). By AI agents, Wed Nov 11 2026. No macro, syntax, notation, axiom, sorry.
-/
import Derived.Test.YtnifkggcldalbaaDoorRows
import GoSem.ClaimSeven
namespace Go.Proofs.YtnifkggcldalbaaDoor
namespace Rows

/-- THE TIED CARD OF 'tankardlaw21.ExpireMarks'. -/
def expireMarksCard : Claim7 := { stood := { row := expireMarksRow, standIns := [], harness := (true, "fb65803cc1ff40c1ebc2773dae708cb7b96af1d32b23c12294fff00b1441c576"), looks := true }, kinds := [], alts := [], laidByText := true, laidKinds := [.data, .data, .data], laidTests := true, laidLooks := .later }
def ExpireMarksCardSaid : Prop := Claim7.holds Tryd.pinned (.plain (OpenSpec.ofChange expireMarksSpec)) expireMarksCard

/-- THE TIED CARD OF 'tankardlaw13.MetaNames'. -/
def metaNamesCard : Claim7 := { stood := { row := metaNamesRow, standIns := [], harness := (true, "fb65803cc1ff40c1ebc2773dae708cb7b96af1d32b23c12294fff00b1441c576"), looks := true }, kinds := [], alts := [], laidByText := true, laidKinds := [.data, .data, .data, .data, .sentinel, .sentinel, .pinned], laidTests := true, laidLooks := .later }
def MetaNamesCardSaid : Prop := Claim7.holds Tryd.pinned (.plain (OpenSpec.ofChange metaNamesSpec)) metaNamesCard

/-- THE TIED CARD OF 'tankardlaw13.MetaPuts'. -/
def metaPutsCard : Claim7 := { stood := { row := metaPutsRow, standIns := [], harness := (true, "fb65803cc1ff40c1ebc2773dae708cb7b96af1d32b23c12294fff00b1441c576"), looks := true }, kinds := [], alts := [], laidByText := true, laidKinds := [.data, .data, .data, .data, .sentinel, .sentinel, .pinned], laidTests := true, laidLooks := .later }
def MetaPutsCardSaid : Prop := Claim7.holds Tryd.pinned (.plain (OpenSpec.ofChange metaPutsSpec)) metaPutsCard

/-- THE TIED CARD OF 'tankardlaw13.MetaBack'. -/
def metaBackCard : Claim7 := { stood := { row := metaBackRow, standIns := [], harness := (true, "fb65803cc1ff40c1ebc2773dae708cb7b96af1d32b23c12294fff00b1441c576"), looks := true }, kinds := [], alts := [], laidByText := true, laidKinds := [.data, .data, .data, .data, .sentinel, .sentinel, .pinned], laidTests := true, laidLooks := .later }
def MetaBackCardSaid : Prop := Claim7.holds Tryd.pinned (.plain (OpenSpec.ofChange metaBackSpec)) metaBackCard

/-- THE SECOND FORM's CARD OF 'tankardlaw21.ExpireMarks'. -/
def expireMarksUptoCard : Claim7 := { stood := { row := expireMarksUptoRow, standIns := [], harness := (true, "fb65803cc1ff40c1ebc2773dae708cb7b96af1d32b23c12294fff00b1441c576"), looks := true }, kinds := [], alts := [], laidByText := true, laidKinds := [.data, .data, .data], laidTests := true, laidLooks := .later }
def ExpireMarksUptoCardSaid : Prop := Claim7.holds Tryd.pinned (.plain (OpenSpec.upto expireMarksSpec)) expireMarksUptoCard

/-- THE SECOND FORM's CARD OF 'tankardlaw13.MetaNames'. -/
def metaNamesUptoCard : Claim7 := { stood := { row := metaNamesUptoRow, standIns := [], harness := (true, "fb65803cc1ff40c1ebc2773dae708cb7b96af1d32b23c12294fff00b1441c576"), looks := true }, kinds := [], alts := [], laidByText := true, laidKinds := [.data, .data, .data, .data, .sentinel, .sentinel, .pinned], laidTests := true, laidLooks := .later }
def MetaNamesUptoCardSaid : Prop := Claim7.holds Tryd.pinned (.plain (OpenSpec.upto metaNamesSpec)) metaNamesUptoCard

/-- THE SECOND FORM's CARD OF 'tankardlaw13.MetaPuts'. -/
def metaPutsUptoCard : Claim7 := { stood := { row := metaPutsUptoRow, standIns := [], harness := (true, "fb65803cc1ff40c1ebc2773dae708cb7b96af1d32b23c12294fff00b1441c576"), looks := true }, kinds := [], alts := [], laidByText := true, laidKinds := [.data, .data, .data, .data, .sentinel, .sentinel, .pinned], laidTests := true, laidLooks := .later }
def MetaPutsUptoCardSaid : Prop := Claim7.holds Tryd.pinned (.plain (OpenSpec.upto metaPutsSpec)) metaPutsUptoCard

/-- THE SECOND FORM's CARD OF 'tankardlaw13.MetaBack'. -/
def metaBackUptoCard : Claim7 := { stood := { row := metaBackUptoRow, standIns := [], harness := (true, "fb65803cc1ff40c1ebc2773dae708cb7b96af1d32b23c12294fff00b1441c576"), looks := true }, kinds := [], alts := [], laidByText := true, laidKinds := [.data, .data, .data, .data, .sentinel, .sentinel, .pinned], laidTests := true, laidLooks := .later }
def MetaBackUptoCardSaid : Prop := Claim7.holds Tryd.pinned (.plain (OpenSpec.upto metaBackSpec)) metaBackUptoCard
end Rows
end Go.Proofs.YtnifkggcldalbaaDoor
