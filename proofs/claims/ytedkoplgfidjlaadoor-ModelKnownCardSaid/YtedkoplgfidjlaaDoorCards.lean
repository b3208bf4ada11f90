/-
  DERIVED. GIVEN WITH THE SEED: THE CARDS: each row of YtedkoplgfidjlaaDoorRows.lean that lists a variable, with what it lists TIED to the program's text (the seventh form; the later family's looks); each row that meets fmt, with fmt's text TOLD by the authors' own Lean function (tested against real Go, not proved from fmt's source: count such statements apart). THE CARD IS WHAT COUNTS. Prove the row's statement (the work); the ties are given (YtedkoplgfidjlaaDoorTie.lean); close each card by the builder's one call (the guide's Derived/Test/ToyasCard.lean, 'card_holds'). Laid BY PROGRAM, IN A SANDBOX (cutbox-door.mjs). By AI agents, Wed Nov 11 2026. No macro, syntax, notation, axiom, sorry.
-/
import Derived.Test.YtedkoplgfidjlaaDoorRows
import GoSem.ClaimSeven
namespace Go.Proofs.YtedkoplgfidjlaaDoor
namespace Rows

/-- THE TIED CARD OF 'cellaretlaw23.ModelKnown'. -/
def modelKnownCard : Claim7 := { stood := { row := modelKnownRow, standIns := [], harness := (true, "e410c02527be42a9051b339b906e8968a4ef920e77bf72943ef1b47e1bb9fcda"), looks := true }, kinds := [], alts := [], laidByText := true, laidKinds := [.data, .data, .data, .data, .sentinel, .sentinel, .pinned], laidTests := true, laidLooks := .later }
def ModelKnownCardSaid : Prop := Claim7.holds Tryd.pinned (.plain (OpenSpec.ofChange modelKnownSpec)) modelKnownCard

/-- THE TIED CARD OF 'cellaretlaw23.ModelItems'. -/
def modelItemsCard : Claim7 := { stood := { row := modelItemsRow, standIns := [], harness := (true, "e410c02527be42a9051b339b906e8968a4ef920e77bf72943ef1b47e1bb9fcda"), looks := true }, kinds := [], alts := [], laidByText := true, laidKinds := [.data, .data, .data, .data, .sentinel, .sentinel, .pinned], laidTests := true, laidLooks := .later }
def ModelItemsCardSaid : Prop := Claim7.holds Tryd.pinned (.plain (OpenSpec.ofChange modelItemsSpec)) modelItemsCard

/-- THE TIED CARD OF 'cellaretlaw23.ModelLoses'. -/
def modelLosesCard : Claim7 := { stood := { row := modelLosesRow, standIns := [], harness := (true, "e410c02527be42a9051b339b906e8968a4ef920e77bf72943ef1b47e1bb9fcda"), looks := true }, kinds := [], alts := [], laidByText := true, laidKinds := [.data, .data, .data, .data, .sentinel, .sentinel, .pinned], laidTests := true, laidLooks := .later }
def ModelLosesCardSaid : Prop := Claim7.holds Tryd.pinned (.plain (OpenSpec.ofChange modelLosesSpec)) modelLosesCard

/-- THE TIED CARD OF 'cellaretlaw23.ModelTime'. -/
def modelTimeCard : Claim7 := { stood := { row := modelTimeRow, standIns := [], harness := (true, "e410c02527be42a9051b339b906e8968a4ef920e77bf72943ef1b47e1bb9fcda"), looks := true }, kinds := [], alts := [], laidByText := true, laidKinds := [.data, .data, .data, .data, .sentinel, .sentinel, .pinned], laidTests := true, laidLooks := .later }
def ModelTimeCardSaid : Prop := Claim7.holds Tryd.pinned (.plain (OpenSpec.ofChange modelTimeSpec)) modelTimeCard

/-- THE SECOND FORM's CARD OF 'cellaretlaw23.ModelKnown'. -/
def modelKnownUptoCard : Claim7 := { stood := { row := modelKnownUptoRow, standIns := [], harness := (true, "e410c02527be42a9051b339b906e8968a4ef920e77bf72943ef1b47e1bb9fcda"), looks := true }, kinds := [], alts := [], laidByText := true, laidKinds := [.data, .data, .data, .data, .sentinel, .sentinel, .pinned], laidTests := true, laidLooks := .later }
def ModelKnownUptoCardSaid : Prop := Claim7.holds Tryd.pinned (.plain (OpenSpec.upto modelKnownSpec)) modelKnownUptoCard

/-- THE SECOND FORM's CARD OF 'cellaretlaw23.ModelItems'. -/
def modelItemsUptoCard : Claim7 := { stood := { row := modelItemsUptoRow, standIns := [], harness := (true, "e410c02527be42a9051b339b906e8968a4ef920e77bf72943ef1b47e1bb9fcda"), looks := true }, kinds := [], alts := [], laidByText := true, laidKinds := [.data, .data, .data, .data, .sentinel, .sentinel, .pinned], laidTests := true, laidLooks := .later }
def ModelItemsUptoCardSaid : Prop := Claim7.holds Tryd.pinned (.plain (OpenSpec.upto modelItemsSpec)) modelItemsUptoCard

/-- THE SECOND FORM's CARD OF 'cellaretlaw23.ModelLoses'. -/
def modelLosesUptoCard : Claim7 := { stood := { row := modelLosesUptoRow, standIns := [], harness := (true, "e410c02527be42a9051b339b906e8968a4ef920e77bf72943ef1b47e1bb9fcda"), looks := true }, kinds := [], alts := [], laidByText := true, laidKinds := [.data, .data, .data, .data, .sentinel, .sentinel, .pinned], laidTests := true, laidLooks := .later }
def ModelLosesUptoCardSaid : Prop := Claim7.holds Tryd.pinned (.plain (OpenSpec.upto modelLosesSpec)) modelLosesUptoCard

/-- THE SECOND FORM's CARD OF 'cellaretlaw23.ModelTime'. -/
def modelTimeUptoCard : Claim7 := { stood := { row := modelTimeUptoRow, standIns := [], harness := (true, "e410c02527be42a9051b339b906e8968a4ef920e77bf72943ef1b47e1bb9fcda"), looks := true }, kinds := [], alts := [], laidByText := true, laidKinds := [.data, .data, .data, .data, .sentinel, .sentinel, .pinned], laidTests := true, laidLooks := .later }
def ModelTimeUptoCardSaid : Prop := Claim7.holds Tryd.pinned (.plain (OpenSpec.upto modelTimeSpec)) modelTimeUptoCard
end Rows
end Go.Proofs.YtedkoplgfidjlaaDoor
