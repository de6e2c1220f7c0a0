/-
  DERIVED. GIVEN WITH THE SEED: THE CARDS: each row of YtcpmgkedmmiioaaDoorRows.lean that lists a variable, with what it lists TIED to the program's text (the seventh form; the later family's looks); each row that meets fmt, with fmt's text TOLD by the authors' own Lean function (tested against real Go, not proved from fmt's source: count such statements apart). THE CARD IS WHAT COUNTS. Prove the row's statement (the work); the ties are given (YtcpmgkedmmiioaaDoorTie.lean); close each card by the builder's one call (the guide's Derived/Test/ToyasCard.lean, 'card_holds'). Laid BY PROGRAM, IN A SANDBOX (cutbox-door.mjs). By AI agents, Wed Nov 11 2026. No macro, syntax, notation, axiom, sorry.
-/
import Derived.Test.YtcpmgkedmmiioaaDoorRows
import GoSem.ClaimSeven
namespace Go.Proofs.YtcpmgkedmmiioaaDoor
namespace Rows

/-- THE TIED CARD OF 'awardingbodylaw19.StripCandidates'. -/
def stripCandidatesCard : Claim7 := { stood := { row := stripCandidatesRow, standIns := [], harness := (true, "16e512fbb34b33f48bc7fa497eec1e27bc2b817f51ced12e70a806e954460f60"), looks := false }, kinds := [], alts := [], laidByText := true, laidKinds := [.data, .pinned], laidTests := true, laidLooks := .later }
def StripCandidatesCardSaid : Prop := Claim7.holds Tryd.pinned (.plain (OpenSpec.ofChange stripCandidatesSpec)) stripCandidatesCard

/-- THE TIED CARD OF 'awardingbodylaw19.StripSurvives'. -/
def stripSurvivesCard : Claim7 := { stood := { row := stripSurvivesRow, standIns := [], harness := (true, "16e512fbb34b33f48bc7fa497eec1e27bc2b817f51ced12e70a806e954460f60"), looks := false }, kinds := [], alts := [], laidByText := true, laidKinds := [.data, .pinned], laidTests := true, laidLooks := .later }
def StripSurvivesCardSaid : Prop := Claim7.holds Tryd.pinned (.plain (OpenSpec.ofChange stripSurvivesSpec)) stripSurvivesCard

/-- THE TIED CARD OF 'awardingbodylaw19.StripApart'. -/
def stripApartCard : Claim7 := { stood := { row := stripApartRow, standIns := [], harness := (true, "16e512fbb34b33f48bc7fa497eec1e27bc2b817f51ced12e70a806e954460f60"), looks := false }, kinds := [], alts := [], laidByText := true, laidKinds := [.data, .pinned], laidTests := true, laidLooks := .later }
def StripApartCardSaid : Prop := Claim7.holds Tryd.pinned (.plain (OpenSpec.ofChange stripApartSpec)) stripApartCard

/-- THE SECOND FORM's CARD OF 'awardingbodylaw19.StripCandidates'. -/
def stripCandidatesUptoCard : Claim7 := { stood := { row := stripCandidatesUptoRow, standIns := [], harness := (true, "16e512fbb34b33f48bc7fa497eec1e27bc2b817f51ced12e70a806e954460f60"), looks := false }, kinds := [], alts := [], laidByText := true, laidKinds := [.data, .pinned], laidTests := true, laidLooks := .later }
def StripCandidatesUptoCardSaid : Prop := Claim7.holds Tryd.pinned (.plain (OpenSpec.upto stripCandidatesSpec)) stripCandidatesUptoCard

/-- THE SECOND FORM's CARD OF 'awardingbodylaw19.StripSurvives'. -/
def stripSurvivesUptoCard : Claim7 := { stood := { row := stripSurvivesUptoRow, standIns := [], harness := (true, "16e512fbb34b33f48bc7fa497eec1e27bc2b817f51ced12e70a806e954460f60"), looks := false }, kinds := [], alts := [], laidByText := true, laidKinds := [.data, .pinned], laidTests := true, laidLooks := .later }
def StripSurvivesUptoCardSaid : Prop := Claim7.holds Tryd.pinned (.plain (OpenSpec.upto stripSurvivesSpec)) stripSurvivesUptoCard

/-- THE SECOND FORM's CARD OF 'awardingbodylaw19.StripApart'. -/
def stripApartUptoCard : Claim7 := { stood := { row := stripApartUptoRow, standIns := [], harness := (true, "16e512fbb34b33f48bc7fa497eec1e27bc2b817f51ced12e70a806e954460f60"), looks := false }, kinds := [], alts := [], laidByText := true, laidKinds := [.data, .pinned], laidTests := true, laidLooks := .later }
def StripApartUptoCardSaid : Prop := Claim7.holds Tryd.pinned (.plain (OpenSpec.upto stripApartSpec)) stripApartUptoCard
end Rows
end Go.Proofs.YtcpmgkedmmiioaaDoor
