/-
  DERIVED. GIVEN WITH THE SEED: THE CARDS: each row of YtomgaaladpcmoaaDoorRows.lean that lists a variable, with what it lists TIED to the program's text (the seventh form; the later family's looks); each row that meets fmt, with fmt's text TOLD by the authors' own Lean function (tested against real Go, not proved from fmt's source: count such statements apart). THE CARD IS WHAT COUNTS. Prove the row's statement (the work); the ties are given (YtomgaaladpcmoaaDoorTie.lean); close each card by the builder's one call (the guide's Derived/Test/ToyasCard.lean, 'card_holds'). Laid BY PROGRAM, IN A SANDBOX (cutbox-door.mjs). By AI agents, Wed Nov 11 2026. No macro, syntax, notation, axiom, sorry.
-/
import Derived.Test.YtomgaaladpcmoaaDoorRows
import GoSem.ClaimSeven
namespace Go.Proofs.YtomgaaladpcmoaaDoor
namespace Rows

/-- THE TIED CARD OF 'kistlaw17.NamesSplits'. -/
def namesSplitsCard : Claim7 := { stood := { row := namesSplitsRow, standIns := [], harness := (true, "feac098b2b2e249296450d36167f5b89f2c3c16006ceccabb72ab50a44d9ccb6"), looks := false }, kinds := [], alts := [], laidByText := true, laidKinds := [.data, .pinned], laidTests := true, laidLooks := .later }
def NamesSplitsCardSaid : Prop := Claim7.holds Tryd.pinned (.plain (OpenSpec.ofChange namesSplitsSpec)) namesSplitsCard

/-- THE TIED CARD OF 'kistlaw17.NamesJoins'. -/
def namesJoinsCard : Claim7 := { stood := { row := namesJoinsRow, standIns := [], harness := (true, "feac098b2b2e249296450d36167f5b89f2c3c16006ceccabb72ab50a44d9ccb6"), looks := false }, kinds := [], alts := [], laidByText := true, laidKinds := [.data, .pinned], laidTests := true, laidLooks := .later }
def NamesJoinsCardSaid : Prop := Claim7.holds Tryd.pinned (.plain (OpenSpec.ofChange namesJoinsSpec)) namesJoinsCard

/-- THE TIED CARD OF 'kistlaw17.NamesNames'. -/
def namesNamesCard : Claim7 := { stood := { row := namesNamesRow, standIns := [], harness := (true, "feac098b2b2e249296450d36167f5b89f2c3c16006ceccabb72ab50a44d9ccb6"), looks := false }, kinds := [], alts := [], laidByText := true, laidKinds := [.data, .pinned], laidTests := true, laidLooks := .later }
def NamesNamesCardSaid : Prop := Claim7.holds Tryd.pinned (.plain (OpenSpec.ofChange namesNamesSpec)) namesNamesCard

/-- THE TIED CARD OF 'kistlaw17.NamesUnder'. -/
def namesUnderCard : Claim7 := { stood := { row := namesUnderRow, standIns := [], harness := (true, "feac098b2b2e249296450d36167f5b89f2c3c16006ceccabb72ab50a44d9ccb6"), looks := false }, kinds := [], alts := [], laidByText := true, laidKinds := [.data, .pinned], laidTests := true, laidLooks := .later }
def NamesUnderCardSaid : Prop := Claim7.holds Tryd.pinned (.plain (OpenSpec.ofChange namesUnderSpec)) namesUnderCard

/-- THE SECOND FORM's CARD OF 'kistlaw17.NamesSplits'. -/
def namesSplitsUptoCard : Claim7 := { stood := { row := namesSplitsUptoRow, standIns := [], harness := (true, "feac098b2b2e249296450d36167f5b89f2c3c16006ceccabb72ab50a44d9ccb6"), looks := false }, kinds := [], alts := [], laidByText := true, laidKinds := [.data, .pinned], laidTests := true, laidLooks := .later }
def NamesSplitsUptoCardSaid : Prop := Claim7.holds Tryd.pinned (.plain (OpenSpec.upto namesSplitsSpec)) namesSplitsUptoCard

/-- THE SECOND FORM's CARD OF 'kistlaw17.NamesJoins'. -/
def namesJoinsUptoCard : Claim7 := { stood := { row := namesJoinsUptoRow, standIns := [], harness := (true, "feac098b2b2e249296450d36167f5b89f2c3c16006ceccabb72ab50a44d9ccb6"), looks := false }, kinds := [], alts := [], laidByText := true, laidKinds := [.data, .pinned], laidTests := true, laidLooks := .later }
def NamesJoinsUptoCardSaid : Prop := Claim7.holds Tryd.pinned (.plain (OpenSpec.upto namesJoinsSpec)) namesJoinsUptoCard

/-- THE SECOND FORM's CARD OF 'kistlaw17.NamesNames'. -/
def namesNamesUptoCard : Claim7 := { stood := { row := namesNamesUptoRow, standIns := [], harness := (true, "feac098b2b2e249296450d36167f5b89f2c3c16006ceccabb72ab50a44d9ccb6"), looks := false }, kinds := [], alts := [], laidByText := true, laidKinds := [.data, .pinned], laidTests := true, laidLooks := .later }
def NamesNamesUptoCardSaid : Prop := Claim7.holds Tryd.pinned (.plain (OpenSpec.upto namesNamesSpec)) namesNamesUptoCard

/-- THE SECOND FORM's CARD OF 'kistlaw17.NamesUnder'. -/
def namesUnderUptoCard : Claim7 := { stood := { row := namesUnderUptoRow, standIns := [], harness := (true, "feac098b2b2e249296450d36167f5b89f2c3c16006ceccabb72ab50a44d9ccb6"), looks := false }, kinds := [], alts := [], laidByText := true, laidKinds := [.data, .pinned], laidTests := true, laidLooks := .later }
def NamesUnderUptoCardSaid : Prop := Claim7.holds Tryd.pinned (.plain (OpenSpec.upto namesUnderSpec)) namesUnderUptoCard
end Rows
end Go.Proofs.YtomgaaladpcmoaaDoor
