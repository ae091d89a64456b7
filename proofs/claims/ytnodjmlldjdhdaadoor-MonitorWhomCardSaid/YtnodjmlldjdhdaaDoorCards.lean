/-
  DERIVED. GIVEN WITH THE SEED: THE CARDS: each row of YtnodjmlldjdhdaaDoorRows.lean that lists a variable, with what it lists TIED to the program's text (the seventh form; the later family's looks); each row that meets fmt, with fmt's text TOLD by the authors' own Lean function (tested against real Go, not proved from fmt's source: count such statements apart). THE CARD IS WHAT COUNTS. Prove the row's statement (the work); the ties are given (YtnodjmlldjdhdaaDoorTie.lean); close each card by the builder's one call (the guide's Derived/Test/ToyasCard.lean, 'card_holds'). Laid BY PROGRAM, IN A SANDBOX (cutbox-door.mjs). By AI agents, Wed Nov 11 2026. No macro, syntax, notation, axiom, sorry.
-/
import Derived.Test.YtnodjmlldjdhdaaDoorRows
import GoSem.ClaimSeven
namespace Go.Proofs.YtnodjmlldjdhdaaDoor
namespace Rows

/-- THE TIED CARD OF 'quarterdecklaw20.MonitorActs'. -/
def monitorActsCard : Claim7 := { stood := { row := monitorActsRow, standIns := [], harness := (true, "9eece1165f5e71d89673a7c6665cf1f264f0e1912d517c9a945f05ad0d033a19"), looks := false }, kinds := [], alts := [], laidByText := true, laidKinds := [.data], laidTests := true, laidLooks := .later }
def MonitorActsCardSaid : Prop := Claim7.holds Tryd.pinned (.plain (OpenSpec.ofChange monitorActsSpec)) monitorActsCard

/-- THE TIED CARD OF 'quarterdecklaw20.MonitorOnce'. -/
def monitorOnceCard : Claim7 := { stood := { row := monitorOnceRow, standIns := [], harness := (true, "9eece1165f5e71d89673a7c6665cf1f264f0e1912d517c9a945f05ad0d033a19"), looks := false }, kinds := [], alts := [], laidByText := true, laidKinds := [.data], laidTests := true, laidLooks := .later }
def MonitorOnceCardSaid : Prop := Claim7.holds Tryd.pinned (.plain (OpenSpec.ofChange monitorOnceSpec)) monitorOnceCard

/-- THE TIED CARD OF 'quarterdecklaw20.MonitorTable'. -/
def monitorTableCard : Claim7 := { stood := { row := monitorTableRow, standIns := [], harness := (true, "9eece1165f5e71d89673a7c6665cf1f264f0e1912d517c9a945f05ad0d033a19"), looks := false }, kinds := [], alts := [], laidByText := true, laidKinds := [.data], laidTests := true, laidLooks := .later }
def MonitorTableCardSaid : Prop := Claim7.holds Tryd.pinned (.plain (OpenSpec.ofChange monitorTableSpec)) monitorTableCard

/-- THE TIED CARD OF 'quarterdecklaw20.MonitorWhom'. -/
def monitorWhomCard : Claim7 := { stood := { row := monitorWhomRow, standIns := [], harness := (true, "9eece1165f5e71d89673a7c6665cf1f264f0e1912d517c9a945f05ad0d033a19"), looks := false }, kinds := [], alts := [], laidByText := true, laidKinds := [.data], laidTests := true, laidLooks := .later }
def MonitorWhomCardSaid : Prop := Claim7.holds Tryd.pinned (.plain (OpenSpec.ofChange monitorWhomSpec)) monitorWhomCard

/-- THE SECOND FORM's CARD OF 'quarterdecklaw20.MonitorActs'. -/
def monitorActsUptoCard : Claim7 := { stood := { row := monitorActsUptoRow, standIns := [], harness := (true, "9eece1165f5e71d89673a7c6665cf1f264f0e1912d517c9a945f05ad0d033a19"), looks := false }, kinds := [], alts := [], laidByText := true, laidKinds := [.data], laidTests := true, laidLooks := .later }
def MonitorActsUptoCardSaid : Prop := Claim7.holds Tryd.pinned (.plain (OpenSpec.upto monitorActsSpec)) monitorActsUptoCard

/-- THE SECOND FORM's CARD OF 'quarterdecklaw20.MonitorOnce'. -/
def monitorOnceUptoCard : Claim7 := { stood := { row := monitorOnceUptoRow, standIns := [], harness := (true, "9eece1165f5e71d89673a7c6665cf1f264f0e1912d517c9a945f05ad0d033a19"), looks := false }, kinds := [], alts := [], laidByText := true, laidKinds := [.data], laidTests := true, laidLooks := .later }
def MonitorOnceUptoCardSaid : Prop := Claim7.holds Tryd.pinned (.plain (OpenSpec.upto monitorOnceSpec)) monitorOnceUptoCard

/-- THE SECOND FORM's CARD OF 'quarterdecklaw20.MonitorTable'. -/
def monitorTableUptoCard : Claim7 := { stood := { row := monitorTableUptoRow, standIns := [], harness := (true, "9eece1165f5e71d89673a7c6665cf1f264f0e1912d517c9a945f05ad0d033a19"), looks := false }, kinds := [], alts := [], laidByText := true, laidKinds := [.data], laidTests := true, laidLooks := .later }
def MonitorTableUptoCardSaid : Prop := Claim7.holds Tryd.pinned (.plain (OpenSpec.upto monitorTableSpec)) monitorTableUptoCard

/-- THE SECOND FORM's CARD OF 'quarterdecklaw20.MonitorWhom'. -/
def monitorWhomUptoCard : Claim7 := { stood := { row := monitorWhomUptoRow, standIns := [], harness := (true, "9eece1165f5e71d89673a7c6665cf1f264f0e1912d517c9a945f05ad0d033a19"), looks := false }, kinds := [], alts := [], laidByText := true, laidKinds := [.data], laidTests := true, laidLooks := .later }
def MonitorWhomUptoCardSaid : Prop := Claim7.holds Tryd.pinned (.plain (OpenSpec.upto monitorWhomSpec)) monitorWhomUptoCard
end Rows
end Go.Proofs.YtnodjmlldjdhdaaDoor
