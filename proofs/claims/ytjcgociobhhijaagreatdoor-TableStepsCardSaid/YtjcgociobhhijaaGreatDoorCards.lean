/-
  DERIVED. GIVEN WITH THE SEED: THE CARDS: each row of YtjcgociobhhijaaGreatDoorRows.lean that lists a variable, with what it lists TIED to the program's text (the seventh form; the later family's looks); each row that meets fmt, with fmt's text TOLD by the authors' own Lean function (tested against real Go, not proved from fmt's source: count such statements apart). THE CARD IS WHAT COUNTS. Prove the row's statement (the work); the ties are given (YtjcgociobhhijaaGreatDoorTie.lean); close each card by the builder's one call (the guide's Derived/Test/ToyasCard.lean, 'card_holds'). Laid BY PROGRAM, IN A SANDBOX (cutbox-door.mjs). By AI agents, Wed Nov 11 2026. No macro, syntax, notation, axiom, sorry.
-/
import Derived.Test.YtjcgociobhhijaaGreatDoorRows
import GoSem.ClaimSeven
namespace Go.Proofs.YtjcgociobhhijaaGreatDoor
namespace Rows

/-- THE TIED CARD OF 'affluxlaw09.TableSteps'. -/
def tableStepsCard : Claim7 := { stood := { row := tableStepsRow, standIns := [], harness := (true, "e827eb7d9dc74149675413fa3376f07fa26dafbb914b0e2785aa856a10c5615b"), looks := false }, kinds := [], alts := [], laidByText := true, laidKinds := [.data, .pinned], laidTests := true, laidLooks := .later }
def TableStepsCardSaid : Prop := Claim7.holds Tryz.pinned (.plain (OpenSpec.ofChange tableStepsSpec)) tableStepsCard

/-- THE TIED CARD OF 'affluxlaw09.TableScans'. -/
def tableScansCard : Claim7 := { stood := { row := tableScansRow, standIns := [], harness := (true, "e827eb7d9dc74149675413fa3376f07fa26dafbb914b0e2785aa856a10c5615b"), looks := false }, kinds := [], alts := [], laidByText := true, laidKinds := [.data, .pinned], laidTests := true, laidLooks := .later }
def TableScansCardSaid : Prop := Claim7.holds Tryz.pinned (.plain (OpenSpec.ofChange tableScansSpec)) tableScansCard

/-- THE TIED CARD OF 'affluxlaw09.TableSame'. -/
def tableSameCard : Claim7 := { stood := { row := tableSameRow, standIns := [], harness := (true, "e827eb7d9dc74149675413fa3376f07fa26dafbb914b0e2785aa856a10c5615b"), looks := false }, kinds := [], alts := [], laidByText := true, laidKinds := [.data, .pinned], laidTests := true, laidLooks := .later }
def TableSameCardSaid : Prop := Claim7.holds Tryz.pinned (.plain (OpenSpec.ofChange tableSameSpec)) tableSameCard

/-- THE TIED CARD OF 'affluxlaw10.UndoSteps'. -/
def undoStepsCard : Claim7 := { stood := { row := undoStepsRow, standIns := [], harness := (true, "e827eb7d9dc74149675413fa3376f07fa26dafbb914b0e2785aa856a10c5615b"), looks := false }, kinds := [], alts := [], laidByText := true, laidKinds := [.data, .pinned], laidTests := true, laidLooks := .later }
def UndoStepsCardSaid : Prop := Claim7.holds Tryz.pinned (.plain (OpenSpec.ofChange undoStepsSpec)) undoStepsCard

/-- THE TIED CARD OF 'affluxlaw10.UndoPlays'. -/
def undoPlaysCard : Claim7 := { stood := { row := undoPlaysRow, standIns := [], harness := (true, "e827eb7d9dc74149675413fa3376f07fa26dafbb914b0e2785aa856a10c5615b"), looks := false }, kinds := [], alts := [], laidByText := true, laidKinds := [.data, .pinned], laidTests := true, laidLooks := .later }
def UndoPlaysCardSaid : Prop := Claim7.holds Tryz.pinned (.plain (OpenSpec.ofChange undoPlaysSpec)) undoPlaysCard

/-- THE TIED CARD OF 'affluxlaw10.UndoNone'. -/
def undoNoneCard : Claim7 := { stood := { row := undoNoneRow, standIns := [], harness := (true, "e827eb7d9dc74149675413fa3376f07fa26dafbb914b0e2785aa856a10c5615b"), looks := false }, kinds := [], alts := [], laidByText := true, laidKinds := [.data, .pinned], laidTests := true, laidLooks := .later }
def UndoNoneCardSaid : Prop := Claim7.holds Tryz.pinned (.plain (OpenSpec.ofChange undoNoneSpec)) undoNoneCard

/-- THE TIED CARD OF 'affluxlaw09.TablePlays'. -/
def tablePlaysCard : Claim7 := { stood := { row := tablePlaysRow, standIns := [], harness := (true, "e827eb7d9dc74149675413fa3376f07fa26dafbb914b0e2785aa856a10c5615b"), looks := false }, kinds := [], alts := [], laidByText := true, laidKinds := [.data, .pinned], laidTests := true, laidLooks := .later }
def TablePlaysCardSaid : Prop := Claim7.holds Tryz.pinned (.plain (OpenSpec.ofChange tablePlaysSpec)) tablePlaysCard

/-- THE TIED CARD OF 'affluxlaw10.UndoAll'. -/
def undoAllCard : Claim7 := { stood := { row := undoAllRow, standIns := [], harness := (true, "e827eb7d9dc74149675413fa3376f07fa26dafbb914b0e2785aa856a10c5615b"), looks := false }, kinds := [], alts := [], laidByText := true, laidKinds := [.data, .pinned], laidTests := true, laidLooks := .later }
def UndoAllCardSaid : Prop := Claim7.holds Tryz.pinned (.plain (OpenSpec.ofChange undoAllSpec)) undoAllCard

/-- THE SECOND FORM's CARD OF 'affluxlaw09.TableSteps'. -/
def tableStepsUptoCard : Claim7 := { stood := { row := tableStepsUptoRow, standIns := [], harness := (true, "e827eb7d9dc74149675413fa3376f07fa26dafbb914b0e2785aa856a10c5615b"), looks := false }, kinds := [], alts := [], laidByText := true, laidKinds := [.data, .pinned], laidTests := true, laidLooks := .later }
def TableStepsUptoCardSaid : Prop := Claim7.holds Tryz.pinned (.plain (OpenSpec.upto tableStepsSpec)) tableStepsUptoCard

/-- THE SECOND FORM's CARD OF 'affluxlaw09.TableScans'. -/
def tableScansUptoCard : Claim7 := { stood := { row := tableScansUptoRow, standIns := [], harness := (true, "e827eb7d9dc74149675413fa3376f07fa26dafbb914b0e2785aa856a10c5615b"), looks := false }, kinds := [], alts := [], laidByText := true, laidKinds := [.data, .pinned], laidTests := true, laidLooks := .later }
def TableScansUptoCardSaid : Prop := Claim7.holds Tryz.pinned (.plain (OpenSpec.upto tableScansSpec)) tableScansUptoCard

/-- THE SECOND FORM's CARD OF 'affluxlaw09.TableSame'. -/
def tableSameUptoCard : Claim7 := { stood := { row := tableSameUptoRow, standIns := [], harness := (true, "e827eb7d9dc74149675413fa3376f07fa26dafbb914b0e2785aa856a10c5615b"), looks := false }, kinds := [], alts := [], laidByText := true, laidKinds := [.data, .pinned], laidTests := true, laidLooks := .later }
def TableSameUptoCardSaid : Prop := Claim7.holds Tryz.pinned (.plain (OpenSpec.upto tableSameSpec)) tableSameUptoCard

/-- THE SECOND FORM's CARD OF 'affluxlaw10.UndoSteps'. -/
def undoStepsUptoCard : Claim7 := { stood := { row := undoStepsUptoRow, standIns := [], harness := (true, "e827eb7d9dc74149675413fa3376f07fa26dafbb914b0e2785aa856a10c5615b"), looks := false }, kinds := [], alts := [], laidByText := true, laidKinds := [.data, .pinned], laidTests := true, laidLooks := .later }
def UndoStepsUptoCardSaid : Prop := Claim7.holds Tryz.pinned (.plain (OpenSpec.upto undoStepsSpec)) undoStepsUptoCard

/-- THE SECOND FORM's CARD OF 'affluxlaw10.UndoPlays'. -/
def undoPlaysUptoCard : Claim7 := { stood := { row := undoPlaysUptoRow, standIns := [], harness := (true, "e827eb7d9dc74149675413fa3376f07fa26dafbb914b0e2785aa856a10c5615b"), looks := false }, kinds := [], alts := [], laidByText := true, laidKinds := [.data, .pinned], laidTests := true, laidLooks := .later }
def UndoPlaysUptoCardSaid : Prop := Claim7.holds Tryz.pinned (.plain (OpenSpec.upto undoPlaysSpec)) undoPlaysUptoCard

/-- THE SECOND FORM's CARD OF 'affluxlaw10.UndoNone'. -/
def undoNoneUptoCard : Claim7 := { stood := { row := undoNoneUptoRow, standIns := [], harness := (true, "e827eb7d9dc74149675413fa3376f07fa26dafbb914b0e2785aa856a10c5615b"), looks := false }, kinds := [], alts := [], laidByText := true, laidKinds := [.data, .pinned], laidTests := true, laidLooks := .later }
def UndoNoneUptoCardSaid : Prop := Claim7.holds Tryz.pinned (.plain (OpenSpec.upto undoNoneSpec)) undoNoneUptoCard

/-- THE SECOND FORM's CARD OF 'affluxlaw09.TablePlays'. -/
def tablePlaysUptoCard : Claim7 := { stood := { row := tablePlaysUptoRow, standIns := [], harness := (true, "e827eb7d9dc74149675413fa3376f07fa26dafbb914b0e2785aa856a10c5615b"), looks := false }, kinds := [], alts := [], laidByText := true, laidKinds := [.data, .pinned], laidTests := true, laidLooks := .later }
def TablePlaysUptoCardSaid : Prop := Claim7.holds Tryz.pinned (.plain (OpenSpec.upto tablePlaysSpec)) tablePlaysUptoCard

/-- THE SECOND FORM's CARD OF 'affluxlaw10.UndoAll'. -/
def undoAllUptoCard : Claim7 := { stood := { row := undoAllUptoRow, standIns := [], harness := (true, "e827eb7d9dc74149675413fa3376f07fa26dafbb914b0e2785aa856a10c5615b"), looks := false }, kinds := [], alts := [], laidByText := true, laidKinds := [.data, .pinned], laidTests := true, laidLooks := .later }
def UndoAllUptoCardSaid : Prop := Claim7.holds Tryz.pinned (.plain (OpenSpec.upto undoAllSpec)) undoAllUptoCard
end Rows
end Go.Proofs.YtjcgociobhhijaaGreatDoor
