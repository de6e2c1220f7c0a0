/-
  DERIVED. GIVEN WITH THE SEED: THE CARDS: each row of YtcpmgkedmmiioaaGreatDoorRows.lean that lists a variable, with what it lists TIED to the program's text (the seventh form; the later family's looks); each row that meets fmt, with fmt's text TOLD by the authors' own Lean function (tested against real Go, not proved from fmt's source: count such statements apart). THE CARD IS WHAT COUNTS. Prove the row's statement (the work); the ties are given (YtcpmgkedmmiioaaGreatDoorTie.lean); close each card by the builder's one call (the guide's Derived/Test/ToyasCard.lean, 'card_holds'). Laid BY PROGRAM, IN A SANDBOX (cutbox-door.mjs). By AI agents, Wed Nov 11 2026. No macro, syntax, notation, axiom, sorry.
-/
import Derived.Test.YtcpmgkedmmiioaaGreatDoorRows
import GoSem.ClaimSeven
namespace Go.Proofs.YtcpmgkedmmiioaaGreatDoor
namespace Rows

/-- THE TIED CARD OF 'awardingbodylaw19.StripTurns'. -/
def stripTurnsCard : Claim7 := { stood := { row := stripTurnsRow, standIns := [], harness := (true, "07d5a4e0333912d66ba27bae26af6feda2101984d3923871f51cbd8381246782"), looks := false }, kinds := [], alts := [], laidByText := true, laidKinds := [.data, .pinned], laidTests := true, laidLooks := .later }
def StripTurnsCardSaid : Prop := Claim7.holds Tryz.pinned (.plain (OpenSpec.ofChange stripTurnsSpec)) stripTurnsCard

/-- THE TIED CARD OF 'awardingbodytop.TopStable'. -/
def topStableCard : Claim7 := { stood := { row := topStableRow, standIns := [], harness := (true, "07d5a4e0333912d66ba27bae26af6feda2101984d3923871f51cbd8381246782"), looks := false }, kinds := [], alts := [], laidByText := true, laidKinds := [.data, .pinned], laidTests := true, laidLooks := .later }
def TopStableCardSaid : Prop := Claim7.holds Tryz.pinned (.plain (OpenSpec.ofChange topStableSpec)) topStableCard

/-- THE TIED CARD OF 'awardingbodylaw21.IntakeChecks'. -/
def intakeChecksCard : Claim7 := { stood := { row := intakeChecksRow, standIns := [], harness := (true, "07d5a4e0333912d66ba27bae26af6feda2101984d3923871f51cbd8381246782"), looks := false }, kinds := [], alts := [], laidByText := true, laidKinds := [.data, .pinned], laidTests := true, laidLooks := .later }
def IntakeChecksCardSaid : Prop := Claim7.holds Tryz.pinned (.plain (OpenSpec.ofChange intakeChecksSpec)) intakeChecksCard

/-- THE TIED CARD OF 'awardingbodytop.TopCaptured'. -/
def topCapturedCard : Claim7 := { stood := { row := topCapturedRow, standIns := [], harness := (true, "07d5a4e0333912d66ba27bae26af6feda2101984d3923871f51cbd8381246782"), looks := false }, kinds := [], alts := [], laidByText := true, laidKinds := [.data, .pinned], laidTests := true, laidLooks := .later }
def TopCapturedCardSaid : Prop := Claim7.holds Tryz.pinned (.plain (OpenSpec.ofChange topCapturedSpec)) topCapturedCard

/-- THE TIED CARD OF 'awardingbodylaw21.IntakeCanonical'. -/
def intakeCanonicalCard : Claim7 := { stood := { row := intakeCanonicalRow, standIns := [], harness := (true, "07d5a4e0333912d66ba27bae26af6feda2101984d3923871f51cbd8381246782"), looks := false }, kinds := [], alts := [], laidByText := true, laidKinds := [.data, .pinned], laidTests := true, laidLooks := .later }
def IntakeCanonicalCardSaid : Prop := Claim7.holds Tryz.pinned (.plain (OpenSpec.ofChange intakeCanonicalSpec)) intakeCanonicalCard

/-- THE TIED CARD OF 'awardingbodylaw21.IntakeDiffers'. -/
def intakeDiffersCard : Claim7 := { stood := { row := intakeDiffersRow, standIns := [], harness := (true, "07d5a4e0333912d66ba27bae26af6feda2101984d3923871f51cbd8381246782"), looks := false }, kinds := [], alts := [], laidByText := true, laidKinds := [.data, .pinned], laidTests := true, laidLooks := .later }
def IntakeDiffersCardSaid : Prop := Claim7.holds Tryz.pinned (.plain (OpenSpec.ofChange intakeDiffersSpec)) intakeDiffersCard

/-- THE TIED CARD OF 'awardingbodylaw21.IntakeFits'. -/
def intakeFitsCard : Claim7 := { stood := { row := intakeFitsRow, standIns := [], harness := (true, "07d5a4e0333912d66ba27bae26af6feda2101984d3923871f51cbd8381246782"), looks := false }, kinds := [], alts := [], laidByText := true, laidKinds := [.data, .pinned], laidTests := true, laidLooks := .later }
def IntakeFitsCardSaid : Prop := Claim7.holds Tryz.pinned (.plain (OpenSpec.ofChange intakeFitsSpec)) intakeFitsCard

/-- THE TIED CARD OF 'awardingbodylaw21.IntakeAnyOrder'. -/
def intakeAnyOrderCard : Claim7 := { stood := { row := intakeAnyOrderRow, standIns := [], harness := (true, "07d5a4e0333912d66ba27bae26af6feda2101984d3923871f51cbd8381246782"), looks := false }, kinds := [], alts := [], laidByText := true, laidKinds := [.data, .pinned], laidTests := true, laidLooks := .later }
def IntakeAnyOrderCardSaid : Prop := Claim7.holds Tryz.pinned (.plain (OpenSpec.ofChange intakeAnyOrderSpec)) intakeAnyOrderCard

/-- THE TIED CARD OF 'awardingbodylaw21.IntakeOnce'. -/
def intakeOnceCard : Claim7 := { stood := { row := intakeOnceRow, standIns := [], harness := (true, "07d5a4e0333912d66ba27bae26af6feda2101984d3923871f51cbd8381246782"), looks := false }, kinds := [], alts := [], laidByText := true, laidKinds := [.data, .pinned], laidTests := true, laidLooks := .later }
def IntakeOnceCardSaid : Prop := Claim7.holds Tryz.pinned (.plain (OpenSpec.ofChange intakeOnceSpec)) intakeOnceCard

/-- THE SECOND FORM's CARD OF 'awardingbodylaw19.StripTurns'. -/
def stripTurnsUptoCard : Claim7 := { stood := { row := stripTurnsUptoRow, standIns := [], harness := (true, "07d5a4e0333912d66ba27bae26af6feda2101984d3923871f51cbd8381246782"), looks := false }, kinds := [], alts := [], laidByText := true, laidKinds := [.data, .pinned], laidTests := true, laidLooks := .later }
def StripTurnsUptoCardSaid : Prop := Claim7.holds Tryz.pinned (.plain (OpenSpec.upto stripTurnsSpec)) stripTurnsUptoCard

/-- THE SECOND FORM's CARD OF 'awardingbodytop.TopStable'. -/
def topStableUptoCard : Claim7 := { stood := { row := topStableUptoRow, standIns := [], harness := (true, "07d5a4e0333912d66ba27bae26af6feda2101984d3923871f51cbd8381246782"), looks := false }, kinds := [], alts := [], laidByText := true, laidKinds := [.data, .pinned], laidTests := true, laidLooks := .later }
def TopStableUptoCardSaid : Prop := Claim7.holds Tryz.pinned (.plain (OpenSpec.upto topStableSpec)) topStableUptoCard

/-- THE SECOND FORM's CARD OF 'awardingbodylaw21.IntakeChecks'. -/
def intakeChecksUptoCard : Claim7 := { stood := { row := intakeChecksUptoRow, standIns := [], harness := (true, "07d5a4e0333912d66ba27bae26af6feda2101984d3923871f51cbd8381246782"), looks := false }, kinds := [], alts := [], laidByText := true, laidKinds := [.data, .pinned], laidTests := true, laidLooks := .later }
def IntakeChecksUptoCardSaid : Prop := Claim7.holds Tryz.pinned (.plain (OpenSpec.upto intakeChecksSpec)) intakeChecksUptoCard

/-- THE SECOND FORM's CARD OF 'awardingbodytop.TopCaptured'. -/
def topCapturedUptoCard : Claim7 := { stood := { row := topCapturedUptoRow, standIns := [], harness := (true, "07d5a4e0333912d66ba27bae26af6feda2101984d3923871f51cbd8381246782"), looks := false }, kinds := [], alts := [], laidByText := true, laidKinds := [.data, .pinned], laidTests := true, laidLooks := .later }
def TopCapturedUptoCardSaid : Prop := Claim7.holds Tryz.pinned (.plain (OpenSpec.upto topCapturedSpec)) topCapturedUptoCard

/-- THE SECOND FORM's CARD OF 'awardingbodylaw21.IntakeCanonical'. -/
def intakeCanonicalUptoCard : Claim7 := { stood := { row := intakeCanonicalUptoRow, standIns := [], harness := (true, "07d5a4e0333912d66ba27bae26af6feda2101984d3923871f51cbd8381246782"), looks := false }, kinds := [], alts := [], laidByText := true, laidKinds := [.data, .pinned], laidTests := true, laidLooks := .later }
def IntakeCanonicalUptoCardSaid : Prop := Claim7.holds Tryz.pinned (.plain (OpenSpec.upto intakeCanonicalSpec)) intakeCanonicalUptoCard

/-- THE SECOND FORM's CARD OF 'awardingbodylaw21.IntakeDiffers'. -/
def intakeDiffersUptoCard : Claim7 := { stood := { row := intakeDiffersUptoRow, standIns := [], harness := (true, "07d5a4e0333912d66ba27bae26af6feda2101984d3923871f51cbd8381246782"), looks := false }, kinds := [], alts := [], laidByText := true, laidKinds := [.data, .pinned], laidTests := true, laidLooks := .later }
def IntakeDiffersUptoCardSaid : Prop := Claim7.holds Tryz.pinned (.plain (OpenSpec.upto intakeDiffersSpec)) intakeDiffersUptoCard

/-- THE SECOND FORM's CARD OF 'awardingbodylaw21.IntakeFits'. -/
def intakeFitsUptoCard : Claim7 := { stood := { row := intakeFitsUptoRow, standIns := [], harness := (true, "07d5a4e0333912d66ba27bae26af6feda2101984d3923871f51cbd8381246782"), looks := false }, kinds := [], alts := [], laidByText := true, laidKinds := [.data, .pinned], laidTests := true, laidLooks := .later }
def IntakeFitsUptoCardSaid : Prop := Claim7.holds Tryz.pinned (.plain (OpenSpec.upto intakeFitsSpec)) intakeFitsUptoCard

/-- THE SECOND FORM's CARD OF 'awardingbodylaw21.IntakeAnyOrder'. -/
def intakeAnyOrderUptoCard : Claim7 := { stood := { row := intakeAnyOrderUptoRow, standIns := [], harness := (true, "07d5a4e0333912d66ba27bae26af6feda2101984d3923871f51cbd8381246782"), looks := false }, kinds := [], alts := [], laidByText := true, laidKinds := [.data, .pinned], laidTests := true, laidLooks := .later }
def IntakeAnyOrderUptoCardSaid : Prop := Claim7.holds Tryz.pinned (.plain (OpenSpec.upto intakeAnyOrderSpec)) intakeAnyOrderUptoCard

/-- THE SECOND FORM's CARD OF 'awardingbodylaw21.IntakeOnce'. -/
def intakeOnceUptoCard : Claim7 := { stood := { row := intakeOnceUptoRow, standIns := [], harness := (true, "07d5a4e0333912d66ba27bae26af6feda2101984d3923871f51cbd8381246782"), looks := false }, kinds := [], alts := [], laidByText := true, laidKinds := [.data, .pinned], laidTests := true, laidLooks := .later }
def IntakeOnceUptoCardSaid : Prop := Claim7.holds Tryz.pinned (.plain (OpenSpec.upto intakeOnceSpec)) intakeOnceUptoCard
end Rows
end Go.Proofs.YtcpmgkedmmiioaaGreatDoor
