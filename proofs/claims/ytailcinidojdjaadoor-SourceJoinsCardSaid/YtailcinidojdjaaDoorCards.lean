/-
  DERIVED. GIVEN WITH THE SEED: THE CARDS: each row of YtailcinidojdjaaDoorRows.lean that lists a variable, with what it lists TIED to the program's text (the seventh form; the later family's looks); each row that meets fmt, with fmt's text TOLD by the authors' own Lean function (tested against real Go, not proved from fmt's source: count such statements apart). THE CARD IS WHAT COUNTS. Prove the row's statement (the work); the ties are given (YtailcinidojdjaaDoorTie.lean); close each card by the builder's one call (the guide's Derived/Test/ToyasCard.lean, 'card_holds'). Laid BY PROGRAM, IN A SANDBOX (cutbox-door.mjs). By AI agents, Wed Nov 11 2026. No macro, syntax, notation, axiom, sorry.
-/
import Derived.Test.YtailcinidojdjaaDoorRows
import GoSem.ClaimSeven
namespace Go.Proofs.YtailcinidojdjaaDoor
namespace Rows

/-- THE TIED CARD OF 'portmanteaulaw16.SourceSizes'. -/
def sourceSizesCard : Claim7 := { stood := { row := sourceSizesRow, standIns := [], harness := (true, "6282b1d0d4db2fb63bb4831f92c170bdd6d4c0ba3b5b12fc69259d38d88504c6"), looks := false }, kinds := [], alts := [], laidByText := true, laidKinds := [.data, .data, .pinned], laidTests := true, laidLooks := .later }
def SourceSizesCardSaid : Prop := Claim7.holds Tryd.pinned (.plain (OpenSpec.ofChange sourceSizesSpec)) sourceSizesCard

/-- THE TIED CARD OF 'portmanteaulaw16.SourceJoins'. -/
def sourceJoinsCard : Claim7 := { stood := { row := sourceJoinsRow, standIns := [], harness := (true, "6282b1d0d4db2fb63bb4831f92c170bdd6d4c0ba3b5b12fc69259d38d88504c6"), looks := false }, kinds := [], alts := [], laidByText := true, laidKinds := [.data, .data, .pinned], laidTests := true, laidLooks := .later }
def SourceJoinsCardSaid : Prop := Claim7.holds Tryd.pinned (.plain (OpenSpec.ofChange sourceJoinsSpec)) sourceJoinsCard

/-- THE SECOND FORM's CARD OF 'portmanteaulaw16.SourceSizes'. -/
def sourceSizesUptoCard : Claim7 := { stood := { row := sourceSizesUptoRow, standIns := [], harness := (true, "6282b1d0d4db2fb63bb4831f92c170bdd6d4c0ba3b5b12fc69259d38d88504c6"), looks := false }, kinds := [], alts := [], laidByText := true, laidKinds := [.data, .data, .pinned], laidTests := true, laidLooks := .later }
def SourceSizesUptoCardSaid : Prop := Claim7.holds Tryd.pinned (.plain (OpenSpec.upto sourceSizesSpec)) sourceSizesUptoCard

/-- THE SECOND FORM's CARD OF 'portmanteaulaw16.SourceJoins'. -/
def sourceJoinsUptoCard : Claim7 := { stood := { row := sourceJoinsUptoRow, standIns := [], harness := (true, "6282b1d0d4db2fb63bb4831f92c170bdd6d4c0ba3b5b12fc69259d38d88504c6"), looks := false }, kinds := [], alts := [], laidByText := true, laidKinds := [.data, .data, .pinned], laidTests := true, laidLooks := .later }
def SourceJoinsUptoCardSaid : Prop := Claim7.holds Tryd.pinned (.plain (OpenSpec.upto sourceJoinsSpec)) sourceJoinsUptoCard
end Rows
end Go.Proofs.YtailcinidojdjaaDoor
