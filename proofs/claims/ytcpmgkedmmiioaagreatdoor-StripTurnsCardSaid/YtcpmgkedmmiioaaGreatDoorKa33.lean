/- stripTurns_card, part 33: what the row's proof needs: words of the print, contracts of functions, the plain law. -/
import Derived.Test.YtcpmgkedmmiioaaGreatDoorRows
import Derived.Test.YtcpmgkedmmiioaaGreatDoorCards
import Derived.WalkKit
import Derived.ProofKit
import Derived.JoinedOf
import Derived.SevenTiedAt
section
namespace Go.Proofs.YtcpmgkedmmiioaaGreatDoor.stripTurns
set_option maxRecDepth 100000
set_option linter.unusedVariables false
theorem and_t {a b : Bool} (ha : a = true) (hb : b = true) : (a && b) = true := by rw [ha, hb]; rfl
theorem jf0 : (Rows.stripTurnsRow.wf (OpenSpec.ofChange Rows.stripTurnsSpec)) = true := by kernel_rfl
theorem jf1 : (laidOutB Tryz.prog) = true := by kernel_rfl
theorem jf2 : (mapsRowed Tryz.prog) = true := by kernel_rfl
theorem jf3 : (Tryz.f3.params.all (Tryz.prog.readableRec ·)) = true := by kernel_rfl
theorem jf4 : (namedTie Tryz.prog Rows.stripTurnsRow.named Rows.stripTurnsSpec.vars) = true := by kernel_rfl
theorem jf5 : (Rows.stripTurnsRow.stops == []) = true := by kernel_rfl
theorem jf6 : (Tryz.prog.stops == []) = true := by kernel_rfl
theorem jf7 : (Rows.stripTurnsRow.knobs == []) = true := by kernel_rfl
theorem jf8 : (Tryz.prog.stopKnobs == []) = true := by kernel_rfl
theorem jf9 : (Rows.stripTurnsRow.inPlace == Tryz.prog.inPlace 3) = true := by kernel_rfl
theorem jf10 : (Rows.stripTurnsRow.unfollowed == Tryz.prog.unfollowed 3) = true := by kernel_rfl
theorem jf11 : (Rows.stripTurnsRow.recurses == Tryz.prog.recurses 3) = true := by kernel_rfl
theorem jf12 : (Rows.stripTurnsRow.named == Tryz.prog.varsNamed 3) = true := by kernel_rfl
theorem jf13 : (Rows.stripTurnsRow.maps == (Tryz.f3.params.toList ++ Rows.stripTurnsSpec.plain.varTypes Tryz.prog).any (Tryz.prog.mapsRec ·)) = true := by kernel_rfl
theorem jf14 : (Rows.stripTurnsRow.ifaces == (Tryz.f3.params.toList ++ Rows.stripTurnsSpec.plain.varTypes Tryz.prog).any (Tryz.prog.ifacesRec ·)) = true := by kernel_rfl
theorem jf15 : (Rows.stripTurnsRow.mapsOut == Tryz.prog.mapsAmong Tryz.f3.resultTypes.toList) = true := by kernel_rfl
theorem jf16 : (Rows.stripTurnsRow.loops == (Tryz.f3.params.toList ++ Rows.stripTurnsSpec.plain.varTypes Tryz.prog).any (Tryz.prog.loopsFrom ·)) = true := by kernel_rfl
theorem jf17 : (Rows.stripTurnsRow.wideKeys == (Tryz.f3.params.toList ++ Rows.stripTurnsSpec.plain.varTypes Tryz.prog ++ Tryz.f3.resultTypes.toList).any (Tryz.prog.wideKeysFrom ·)) = true := by kernel_rfl
theorem jf18 : (Rows.stripTurnsSpec.vars.all (Tryz.prog.varReadable ·)) = true := by kernel_rfl
theorem jf19 : (Tryz.f3.resultTypes.all (fun t => Tryz.prog.readableRec t && decide (t < Tryz.prog.types.size))) = true := by kernel_rfl
theorem jf20 : (Rows.stripTurnsRow.ifacesOut == Tryz.f3.resultTypes.toList.any (Tryz.prog.ifacesRec ·)) = true := by kernel_rfl
theorem jf21 : (Rows.stripTurnsRow.loopsOut == Tryz.f3.resultTypes.toList.any (Tryz.prog.loopsFrom ·)) = true := by kernel_rfl
theorem jf22 : (Rows.stripTurnsRow.plainKeys == Tryz.prog.plainKeys) = true := by kernel_rfl
theorem jf23 : (Rows.stripTurnsRow.shortTexts.isNone) = true := by kernel_rfl
theorem jf24 : (Tryz.prog.stopsHeard) = true := by kernel_rfl
theorem jf25 : (Tryz.prog.mayEnter) = true := by kernel_rfl
theorem jf26 : (Rows.stripTurnsRow.lifted == Tryz.prog.liftsFinal) = true := by kernel_rfl
theorem jf27 : (Tryz.prog.make == some Rows.stripTurnsRow.make) = true := by kernel_rfl
theorem jf28 : (Rows.stripTurnsRow.kinds == (if Rows.stripTurnsRow.domain.isEmpty then [] else Tryz.f3.params.toList.map fun t => match Tryz.prog.underlying t with | some (.int k) => some k | _ => none)) = true := by kernel_rfl
theorem jf29 : (Rows.stripTurnsRow.pinned == Rows.stripTurnsRow.pinnedBy) = true := by kernel_rfl
theorem jf30 : (Rows.stripTurnsRow.veiled == (Tryz.f3.params.toList ++ Rows.stripTurnsSpec.plain.varTypes Tryz.prog ++ Tryz.f3.resultTypes.toList).any (Tryz.prog.veiledRec ·)) = true := by kernel_rfl
theorem jf31 : (Rows.stripTurnsRow.veiledFits Tryz.prog Tryz.f3.params.toList (Tryz.f3.params.toList ++ Rows.stripTurnsSpec.plain.varTypes Tryz.prog ++ Tryz.f3.resultTypes.toList)) = true := by kernel_rfl
theorem joined : joinedFacts Tryz.prog 3 Tryz.f3 Rows.stripTurnsSpec Rows.stripTurnsRow = true := by
  unfold joinedFacts
  refine and_t ?_ jf31
  refine and_t ?_ jf30
  refine and_t ?_ jf29
  refine and_t ?_ jf28
  refine and_t ?_ jf27
  refine and_t ?_ jf26
  refine and_t ?_ jf25
  refine and_t ?_ jf24
  refine and_t ?_ jf23
  refine and_t ?_ jf22
  refine and_t ?_ jf21
  refine and_t ?_ jf20
  refine and_t ?_ jf19
  refine and_t ?_ jf18
  refine and_t ?_ jf17
  refine and_t ?_ jf16
  refine and_t ?_ jf15
  refine and_t ?_ jf14
  refine and_t ?_ jf13
  refine and_t ?_ jf12
  refine and_t ?_ jf11
  refine and_t ?_ jf10
  refine and_t ?_ jf9
  refine and_t ?_ jf8
  refine and_t ?_ jf7
  refine and_t ?_ jf6
  refine and_t ?_ jf5
  refine and_t ?_ jf4
  refine and_t ?_ jf3
  refine and_t ?_ jf2
  refine and_t ?_ jf1
  exact jf0
theorem named_ : Tryz.prog.funcNamed "awardingbody/awardingbodylaw19.StripTurns" = some 3 := by kernel_rfl
theorem byText : Rows.stripTurnsRow.wfByText (OpenSpec.ofChange Rows.stripTurnsSpec) = true := by kernel_rfl
theorem main_ : Tryz.prog.mainIs = some (Rows.stripTurnsCard.stood.harness.1, Rows.stripTurnsCard.stood.harness.2.toList) := by kernel_rfl
theorem goes : false = Rows.stripTurnsRow.goesBy Tryz.prog := by kernel_rfl
theorem looks_ : false = Tryz.prog.looks [] := by kernel_rfl
theorem stand_ : ([22, 9].all fun u => !Tryz.prog.wantsStandIn u) = true := by kernel_rfl
end Go.Proofs.YtcpmgkedmmiioaaGreatDoor.stripTurns
end
