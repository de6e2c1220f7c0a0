/-
  NARROWER THAN 'FOR EVERY INPUT', by the rows' own cells (each row's printed sentence says how): StripTurns: laid · TopStable: laid · IntakeChecks: laid · TopCaptured: laid · IntakeCanonical: laid · IntakeDiffers: laid · IntakeFits: laid · IntakeAnyOrder: laid · IntakeOnce: laid.
  DERIVED. THE GIVEN ROWS OF THIS SEAT. 9 by the template 'for every input the law returns true; each argument reads behind the call as it read before'; 0 by the template 'total and deterministic' (their statements: YtcpmgkedmmiioaaGreatDoorTotals.lean).
  GIVEN WITH THE SEED: the statements are not yours to turn. If you find one false, say at which input.
  Laid BY PROGRAM, IN A SANDBOX (cutbox-rows.mjs): the forced cells as the released guide's own fill.sh prints them over the translation 5bf1d9ba6de49d16… (all of the seat's roots in one cut). By AI agents, Wed Nov 11 2026. No macro, syntax, notation, axiom, sorry.
-/
import Derived.Test.YtcpmgkedmmiioaaGreatDoorChecked
import GoSem.PinnedTables
import GoSem.Claim
import GoSem.ClaimJoined
import GoSem.ClaimMapViews
import Derived.JoinedTies
import Derived.KernelRfl
namespace Go.Proofs.YtcpmgkedmmiioaaGreatDoor
/- THE CELL 'sum', in the pinned program and in every row, IS THE sha256 OF THE DUMP (.gsa) THAT YtcpmgkedmmiioaaGreatDoorProg.lean LOADS. Nothing in Lean hashes anything: it is a label: what it is worth is what the hold of that sum in a sandbox is worth. -/
noncomputable def Tryz.pinned : Pinned := { name := "ytcpmgkedmmiioaagreatdoor", sum := "5bf1d9ba6de49d1601b4ae9949be93439d6c34fb70e4cbf760119e06dd3ddd99", checked := Tryz.checked }
namespace Rows
def none {H : Type} : Left H := { results := [], args := [] }

/- WHAT THE LISTED PACKAGE-LEVEL VARIABLES READ AS WHEN THE CALL BEGINS. Each datum BY PROGRAM (the guide's laid-datum.mjs) off the statement by which the dump's own 'gosem.cut.vars' lays the variable. In a bare row this is a premise. The card (YtcpmgkedmmiioaaGreatDoorCards.lean) ties it to the program's text. -/
def laid_unicode_utf8_acceptRanges {H : Type} : DataW H := .agg [.agg [.lit (.int .u8 128), .lit (.int .u8 191)], .agg [.lit (.int .u8 160), .lit (.int .u8 191)], .agg [.lit (.int .u8 128), .lit (.int .u8 159)], .agg [.lit (.int .u8 144), .lit (.int .u8 191)], .agg [.lit (.int .u8 128), .lit (.int .u8 143)], .agg [.lit (.int .u8 0), .lit (.int .u8 0)], .agg [.lit (.int .u8 0), .lit (.int .u8 0)], .agg [.lit (.int .u8 0), .lit (.int .u8 0)], .agg [.lit (.int .u8 0), .lit (.int .u8 0)], .agg [.lit (.int .u8 0), .lit (.int .u8 0)], .agg [.lit (.int .u8 0), .lit (.int .u8 0)], .agg [.lit (.int .u8 0), .lit (.int .u8 0)], .agg [.lit (.int .u8 0), .lit (.int .u8 0)], .agg [.lit (.int .u8 0), .lit (.int .u8 0)], .agg [.lit (.int .u8 0), .lit (.int .u8 0)], .agg [.lit (.int .u8 0), .lit (.int .u8 0)]]
/-- One of Go's own tables, pinned by name: the form's constant. -/
def laid_unicode_utf8_first : DataW Unit := Go.Pinned.utf8First

/-- 'awardingbodylaw19.StripTurns': WHATEVER THE INPUT: true; the input reads as it did. -/
def stripTurnsSpec : ChangeSpec := { name := "stripTurns", fn := fun _ => fun
  | [d1, d2] => { results := [.lit (.bool true)], args := [d1, d2] }
  | _ => none }
def stripTurnsRow : OpenClaim := { program := "ytcpmgkedmmiioaagreatdoor", sum := "5bf1d9ba6de49d1601b4ae9949be93439d6c34fb70e4cbf760119e06dd3ddd99", func := "awardingbody/awardingbodylaw19.StripTurns", spec := "stripTurns", inPlace := ["internal/bytealg.IndexByteString", "internal/bytealg.IndexString", "internal/bytealg.CountString", "internal/abi.NoEscape", "internal/bytealg.MakeNoZero"], unfollowed := true, recurses := true, named := ["unicode/utf8.first", "unicode/utf8.acceptRanges", "internal/bytealg.MaxLen"], plainKeys := false, apart := false, laid := [("unicode/utf8.acceptRanges", laid_unicode_utf8_acceptRanges), ("unicode/utf8.first", laid_unicode_utf8_first)] }
def StripTurnsSaid : Prop := stripTurnsRow.holds Tryz.pinned (OpenSpec.ofChange stripTurnsSpec)

/-- ITS FALSE NEIGHBOUR: 'it returns false'. Refute it at one input. -/
def stripTurnsWrong : ChangeSpec := { name := "stripTurns", fn := fun _ => fun
  | [d1, d2] => { results := [.lit (.bool false)], args := [d1, d2] }
  | _ => none }
def StripTurnsWrongFalsely : Prop := stripTurnsRow.holds Tryz.pinned (OpenSpec.ofChange stripTurnsWrong)

/-- 'awardingbodytop.TopStable': WHATEVER THE INPUT: true; the input reads as it did. -/
def topStableSpec : ChangeSpec := { name := "topStable", fn := fun _ => fun
  | [d] => { results := [.lit (.bool true)], args := [d] }
  | _ => none }
def topStableRow : OpenClaim := { program := "ytcpmgkedmmiioaagreatdoor", sum := "5bf1d9ba6de49d1601b4ae9949be93439d6c34fb70e4cbf760119e06dd3ddd99", func := "awardingbody/awardingbodytop.TopStable", spec := "topStable", inPlace := ["internal/abi.NoEscape", "internal/bytealg.MakeNoZero", "internal/bytealg.IndexByteString", "internal/bytealg.IndexString", "internal/bytealg.CountString"], unfollowed := true, recurses := true, named := ["unicode/utf8.first", "unicode/utf8.acceptRanges", "internal/bytealg.MaxLen"], plainKeys := false, apart := false, laid := [("unicode/utf8.acceptRanges", laid_unicode_utf8_acceptRanges), ("unicode/utf8.first", laid_unicode_utf8_first)] }
def TopStableSaid : Prop := topStableRow.holds Tryz.pinned (OpenSpec.ofChange topStableSpec)

/-- ITS FALSE NEIGHBOUR: 'it returns false'. Refute it at one input. -/
def topStableWrong : ChangeSpec := { name := "topStable", fn := fun _ => fun
  | [d] => { results := [.lit (.bool false)], args := [d] }
  | _ => none }
def TopStableWrongFalsely : Prop := topStableRow.holds Tryz.pinned (OpenSpec.ofChange topStableWrong)

/-- 'awardingbodylaw21.IntakeChecks': WHATEVER THE INPUT: true; the input reads as it did. -/
def intakeChecksSpec : ChangeSpec := { name := "intakeChecks", fn := fun _ => fun
  | [d] => { results := [.lit (.bool true)], args := [d] }
  | _ => none }
def intakeChecksRow : OpenClaim := { program := "ytcpmgkedmmiioaagreatdoor", sum := "5bf1d9ba6de49d1601b4ae9949be93439d6c34fb70e4cbf760119e06dd3ddd99", func := "awardingbody/awardingbodylaw21.IntakeChecks", spec := "intakeChecks", inPlace := ["internal/abi.NoEscape", "internal/bytealg.MakeNoZero", "internal/bytealg.IndexByteString", "internal/bytealg.IndexString", "internal/bytealg.CountString"], unfollowed := true, recurses := true, named := ["unicode/utf8.first", "unicode/utf8.acceptRanges", "internal/bytealg.MaxLen"], plainKeys := false, apart := false, laid := [("unicode/utf8.acceptRanges", laid_unicode_utf8_acceptRanges), ("unicode/utf8.first", laid_unicode_utf8_first)] }
def IntakeChecksSaid : Prop := intakeChecksRow.holds Tryz.pinned (OpenSpec.ofChange intakeChecksSpec)

/-- ITS FALSE NEIGHBOUR: 'it returns false'. Refute it at one input. -/
def intakeChecksWrong : ChangeSpec := { name := "intakeChecks", fn := fun _ => fun
  | [d] => { results := [.lit (.bool false)], args := [d] }
  | _ => none }
def IntakeChecksWrongFalsely : Prop := intakeChecksRow.holds Tryz.pinned (OpenSpec.ofChange intakeChecksWrong)

/-- 'awardingbodytop.TopCaptured': WHATEVER THE INPUT: true; the input reads as it did. -/
def topCapturedSpec : ChangeSpec := { name := "topCaptured", fn := fun _ => fun
  | [d] => { results := [.lit (.bool true)], args := [d] }
  | _ => none }
def topCapturedRow : OpenClaim := { program := "ytcpmgkedmmiioaagreatdoor", sum := "5bf1d9ba6de49d1601b4ae9949be93439d6c34fb70e4cbf760119e06dd3ddd99", func := "awardingbody/awardingbodytop.TopCaptured", spec := "topCaptured", inPlace := ["internal/abi.NoEscape", "internal/bytealg.MakeNoZero", "internal/bytealg.IndexByteString", "internal/bytealg.IndexString", "internal/bytealg.CountString"], unfollowed := true, recurses := true, named := ["unicode/utf8.first", "unicode/utf8.acceptRanges", "internal/bytealg.MaxLen"], plainKeys := false, apart := false, laid := [("unicode/utf8.acceptRanges", laid_unicode_utf8_acceptRanges), ("unicode/utf8.first", laid_unicode_utf8_first)] }
def TopCapturedSaid : Prop := topCapturedRow.holds Tryz.pinned (OpenSpec.ofChange topCapturedSpec)

/-- ITS FALSE NEIGHBOUR: 'it returns false'. Refute it at one input. -/
def topCapturedWrong : ChangeSpec := { name := "topCaptured", fn := fun _ => fun
  | [d] => { results := [.lit (.bool false)], args := [d] }
  | _ => none }
def TopCapturedWrongFalsely : Prop := topCapturedRow.holds Tryz.pinned (OpenSpec.ofChange topCapturedWrong)

/-- 'awardingbodylaw21.IntakeCanonical': WHATEVER THE INPUT: true; the input reads as it did. -/
def intakeCanonicalSpec : ChangeSpec := { name := "intakeCanonical", fn := fun _ => fun
  | [d] => { results := [.lit (.bool true)], args := [d] }
  | _ => none }
def intakeCanonicalRow : OpenClaim := { program := "ytcpmgkedmmiioaagreatdoor", sum := "5bf1d9ba6de49d1601b4ae9949be93439d6c34fb70e4cbf760119e06dd3ddd99", func := "awardingbody/awardingbodylaw21.IntakeCanonical", spec := "intakeCanonical", inPlace := ["internal/abi.NoEscape", "internal/bytealg.MakeNoZero", "internal/bytealg.IndexByteString", "internal/bytealg.IndexString", "internal/bytealg.CountString"], unfollowed := true, recurses := true, named := ["unicode/utf8.first", "unicode/utf8.acceptRanges", "internal/bytealg.MaxLen"], plainKeys := false, apart := false, laid := [("unicode/utf8.acceptRanges", laid_unicode_utf8_acceptRanges), ("unicode/utf8.first", laid_unicode_utf8_first)] }
def IntakeCanonicalSaid : Prop := intakeCanonicalRow.holds Tryz.pinned (OpenSpec.ofChange intakeCanonicalSpec)

/-- ITS FALSE NEIGHBOUR: 'it returns false'. Refute it at one input. -/
def intakeCanonicalWrong : ChangeSpec := { name := "intakeCanonical", fn := fun _ => fun
  | [d] => { results := [.lit (.bool false)], args := [d] }
  | _ => none }
def IntakeCanonicalWrongFalsely : Prop := intakeCanonicalRow.holds Tryz.pinned (OpenSpec.ofChange intakeCanonicalWrong)

/-- 'awardingbodylaw21.IntakeDiffers': WHATEVER THE INPUT: true; the input reads as it did. -/
def intakeDiffersSpec : ChangeSpec := { name := "intakeDiffers", fn := fun _ => fun
  | [d1, d2] => { results := [.lit (.bool true)], args := [d1, d2] }
  | _ => none }
def intakeDiffersRow : OpenClaim := { program := "ytcpmgkedmmiioaagreatdoor", sum := "5bf1d9ba6de49d1601b4ae9949be93439d6c34fb70e4cbf760119e06dd3ddd99", func := "awardingbody/awardingbodylaw21.IntakeDiffers", spec := "intakeDiffers", inPlace := ["internal/abi.NoEscape", "internal/bytealg.MakeNoZero", "internal/bytealg.IndexByteString", "internal/bytealg.IndexString", "internal/bytealg.CountString"], unfollowed := true, recurses := true, named := ["unicode/utf8.first", "unicode/utf8.acceptRanges", "internal/bytealg.MaxLen"], plainKeys := false, apart := false, laid := [("unicode/utf8.acceptRanges", laid_unicode_utf8_acceptRanges), ("unicode/utf8.first", laid_unicode_utf8_first)] }
def IntakeDiffersSaid : Prop := intakeDiffersRow.holds Tryz.pinned (OpenSpec.ofChange intakeDiffersSpec)

/-- ITS FALSE NEIGHBOUR: 'it returns false'. Refute it at one input. -/
def intakeDiffersWrong : ChangeSpec := { name := "intakeDiffers", fn := fun _ => fun
  | [d1, d2] => { results := [.lit (.bool false)], args := [d1, d2] }
  | _ => none }
def IntakeDiffersWrongFalsely : Prop := intakeDiffersRow.holds Tryz.pinned (OpenSpec.ofChange intakeDiffersWrong)

/-- 'awardingbodylaw21.IntakeFits': WHATEVER THE INPUT: true; the input reads as it did. -/
def intakeFitsSpec : ChangeSpec := { name := "intakeFits", fn := fun _ => fun
  | [d1, d2, d3] => { results := [.lit (.bool true)], args := [d1, d2, d3] }
  | _ => none }
def intakeFitsRow : OpenClaim := { program := "ytcpmgkedmmiioaagreatdoor", sum := "5bf1d9ba6de49d1601b4ae9949be93439d6c34fb70e4cbf760119e06dd3ddd99", func := "awardingbody/awardingbodylaw21.IntakeFits", spec := "intakeFits", inPlace := ["internal/abi.NoEscape", "internal/bytealg.MakeNoZero", "internal/bytealg.IndexByteString", "internal/bytealg.IndexString", "internal/bytealg.CountString"], unfollowed := true, recurses := true, named := ["unicode/utf8.first", "unicode/utf8.acceptRanges", "internal/bytealg.MaxLen"], plainKeys := false, apart := false, laid := [("unicode/utf8.acceptRanges", laid_unicode_utf8_acceptRanges), ("unicode/utf8.first", laid_unicode_utf8_first)] }
def IntakeFitsSaid : Prop := intakeFitsRow.holds Tryz.pinned (OpenSpec.ofChange intakeFitsSpec)

/-- ITS FALSE NEIGHBOUR: 'it returns false'. Refute it at one input. -/
def intakeFitsWrong : ChangeSpec := { name := "intakeFits", fn := fun _ => fun
  | [d1, d2, d3] => { results := [.lit (.bool false)], args := [d1, d2, d3] }
  | _ => none }
def IntakeFitsWrongFalsely : Prop := intakeFitsRow.holds Tryz.pinned (OpenSpec.ofChange intakeFitsWrong)

/-- 'awardingbodylaw21.IntakeAnyOrder': WHATEVER THE INPUT: true; the input reads as it did. -/
def intakeAnyOrderSpec : ChangeSpec := { name := "intakeAnyOrder", fn := fun _ => fun
  | [d] => { results := [.lit (.bool true)], args := [d] }
  | _ => none }
def intakeAnyOrderRow : OpenClaim := { program := "ytcpmgkedmmiioaagreatdoor", sum := "5bf1d9ba6de49d1601b4ae9949be93439d6c34fb70e4cbf760119e06dd3ddd99", func := "awardingbody/awardingbodylaw21.IntakeAnyOrder", spec := "intakeAnyOrder", inPlace := ["internal/bytealg.IndexByteString", "internal/bytealg.IndexString", "internal/bytealg.CountString", "internal/abi.NoEscape", "internal/bytealg.MakeNoZero"], unfollowed := true, recurses := true, named := ["unicode/utf8.first", "unicode/utf8.acceptRanges", "internal/bytealg.MaxLen"], plainKeys := false, apart := false, laid := [("unicode/utf8.acceptRanges", laid_unicode_utf8_acceptRanges), ("unicode/utf8.first", laid_unicode_utf8_first)] }
def IntakeAnyOrderSaid : Prop := intakeAnyOrderRow.holds Tryz.pinned (OpenSpec.ofChange intakeAnyOrderSpec)

/-- ITS FALSE NEIGHBOUR: 'it returns false'. Refute it at one input. -/
def intakeAnyOrderWrong : ChangeSpec := { name := "intakeAnyOrder", fn := fun _ => fun
  | [d] => { results := [.lit (.bool false)], args := [d] }
  | _ => none }
def IntakeAnyOrderWrongFalsely : Prop := intakeAnyOrderRow.holds Tryz.pinned (OpenSpec.ofChange intakeAnyOrderWrong)

/-- 'awardingbodylaw21.IntakeOnce': WHATEVER THE INPUT: true; the input reads as it did. -/
def intakeOnceSpec : ChangeSpec := { name := "intakeOnce", fn := fun _ => fun
  | [d] => { results := [.lit (.bool true)], args := [d] }
  | _ => none }
def intakeOnceRow : OpenClaim := { program := "ytcpmgkedmmiioaagreatdoor", sum := "5bf1d9ba6de49d1601b4ae9949be93439d6c34fb70e4cbf760119e06dd3ddd99", func := "awardingbody/awardingbodylaw21.IntakeOnce", spec := "intakeOnce", inPlace := ["internal/bytealg.IndexByteString", "internal/bytealg.IndexString", "internal/bytealg.CountString", "internal/abi.NoEscape", "internal/bytealg.MakeNoZero"], unfollowed := true, recurses := true, named := ["unicode/utf8.first", "unicode/utf8.acceptRanges", "internal/bytealg.MaxLen"], plainKeys := false, apart := false, laid := [("unicode/utf8.acceptRanges", laid_unicode_utf8_acceptRanges), ("unicode/utf8.first", laid_unicode_utf8_first)] }
def IntakeOnceSaid : Prop := intakeOnceRow.holds Tryz.pinned (OpenSpec.ofChange intakeOnceSpec)

/-- ITS FALSE NEIGHBOUR: 'it returns false'. Refute it at one input. -/
def intakeOnceWrong : ChangeSpec := { name := "intakeOnce", fn := fun _ => fun
  | [d] => { results := [.lit (.bool false)], args := [d] }
  | _ => none }
def IntakeOnceWrongFalsely : Prop := intakeOnceRow.holds Tryz.pinned (OpenSpec.ofChange intakeOnceWrong)

/- THE SECOND FORM. 'bulk': how many values and letters a reading holds, each counted each time it is reached (what is shared counts as often as it is met; a slice's spare places count too). A statement '..UptoSaid' is the law's where the arguments, and the package variables that the reading takes, are together of bulk at most 1048576: NARROWER than '..Said'. Prove '..Said' where nothing that the law and all that it calls make is longer than what came in: it says more and counts as full. Else prove '..UptoSaid'. A law counts once. -/
mutual
def uptoBulk {H : Type} : DataW H → Nat
  | .lit (.string bytes) => bytes.length + 1
  | .lit _ => 1
  | .nil => 1
  | .ptr d => uptoBulk d + 1
  | .slice elems spare => uptoBulkAll elems + uptoBulkAll spare + 1
  | .agg parts => uptoBulkAll parts + 1
  | .iface _ d => uptoBulk d + 1
  | .map entries => uptoBulkEntries entries + 1
  | .held _ => 1
def uptoBulkAll {H : Type} : List (DataW H) → Nat
  | [] => 0
  | d :: r => uptoBulk d + uptoBulkAll r
def uptoBulkEntries {H : Type} : List (Lit × DataW H) → Nat
  | [] => 0
  | x :: r => uptoBulkEntry x + uptoBulkEntries r
def uptoBulkEntry {H : Type} : Lit × DataW H → Nat
  | (.string bytes, d) => bytes.length + uptoBulk d + 1
  | (_, d) => uptoBulk d + 1
 end
def uptoSmall : (H : Type) → List (DataW H) → Bool := fun _ ds => decide (uptoBulkAll ds ≤ 1048576)
def OpenSpec.upto (s : _root_.Go.ChangeSpec) : _root_.Go.OpenSpec := { _root_.Go.OpenSpec.ofChange s with cond := some uptoSmall }

/-- 'awardingbodylaw19.StripTurns', WHERE WHAT IT READS IS OF BULK AT MOST 1048576: true; the input reads as it did. -/
def stripTurnsUptoRow : OpenClaim := { program := "ytcpmgkedmmiioaagreatdoor", sum := "5bf1d9ba6de49d1601b4ae9949be93439d6c34fb70e4cbf760119e06dd3ddd99", func := "awardingbody/awardingbodylaw19.StripTurns", spec := "stripTurns", inPlace := ["internal/bytealg.IndexByteString", "internal/bytealg.IndexString", "internal/bytealg.CountString", "internal/abi.NoEscape", "internal/bytealg.MakeNoZero"], unfollowed := true, recurses := true, named := ["unicode/utf8.first", "unicode/utf8.acceptRanges", "internal/bytealg.MaxLen"], plainKeys := false, apart := false, laid := [("unicode/utf8.acceptRanges", laid_unicode_utf8_acceptRanges), ("unicode/utf8.first", laid_unicode_utf8_first)], narrowed := true }
def StripTurnsUptoSaid : Prop := stripTurnsUptoRow.holds Tryz.pinned (OpenSpec.upto stripTurnsSpec)

/-- 'awardingbodytop.TopStable', WHERE WHAT IT READS IS OF BULK AT MOST 1048576: true; the input reads as it did. -/
def topStableUptoRow : OpenClaim := { program := "ytcpmgkedmmiioaagreatdoor", sum := "5bf1d9ba6de49d1601b4ae9949be93439d6c34fb70e4cbf760119e06dd3ddd99", func := "awardingbody/awardingbodytop.TopStable", spec := "topStable", inPlace := ["internal/abi.NoEscape", "internal/bytealg.MakeNoZero", "internal/bytealg.IndexByteString", "internal/bytealg.IndexString", "internal/bytealg.CountString"], unfollowed := true, recurses := true, named := ["unicode/utf8.first", "unicode/utf8.acceptRanges", "internal/bytealg.MaxLen"], plainKeys := false, apart := false, laid := [("unicode/utf8.acceptRanges", laid_unicode_utf8_acceptRanges), ("unicode/utf8.first", laid_unicode_utf8_first)], narrowed := true }
def TopStableUptoSaid : Prop := topStableUptoRow.holds Tryz.pinned (OpenSpec.upto topStableSpec)

/-- 'awardingbodylaw21.IntakeChecks', WHERE WHAT IT READS IS OF BULK AT MOST 1048576: true; the input reads as it did. -/
def intakeChecksUptoRow : OpenClaim := { program := "ytcpmgkedmmiioaagreatdoor", sum := "5bf1d9ba6de49d1601b4ae9949be93439d6c34fb70e4cbf760119e06dd3ddd99", func := "awardingbody/awardingbodylaw21.IntakeChecks", spec := "intakeChecks", inPlace := ["internal/abi.NoEscape", "internal/bytealg.MakeNoZero", "internal/bytealg.IndexByteString", "internal/bytealg.IndexString", "internal/bytealg.CountString"], unfollowed := true, recurses := true, named := ["unicode/utf8.first", "unicode/utf8.acceptRanges", "internal/bytealg.MaxLen"], plainKeys := false, apart := false, laid := [("unicode/utf8.acceptRanges", laid_unicode_utf8_acceptRanges), ("unicode/utf8.first", laid_unicode_utf8_first)], narrowed := true }
def IntakeChecksUptoSaid : Prop := intakeChecksUptoRow.holds Tryz.pinned (OpenSpec.upto intakeChecksSpec)

/-- 'awardingbodytop.TopCaptured', WHERE WHAT IT READS IS OF BULK AT MOST 1048576: true; the input reads as it did. -/
def topCapturedUptoRow : OpenClaim := { program := "ytcpmgkedmmiioaagreatdoor", sum := "5bf1d9ba6de49d1601b4ae9949be93439d6c34fb70e4cbf760119e06dd3ddd99", func := "awardingbody/awardingbodytop.TopCaptured", spec := "topCaptured", inPlace := ["internal/abi.NoEscape", "internal/bytealg.MakeNoZero", "internal/bytealg.IndexByteString", "internal/bytealg.IndexString", "internal/bytealg.CountString"], unfollowed := true, recurses := true, named := ["unicode/utf8.first", "unicode/utf8.acceptRanges", "internal/bytealg.MaxLen"], plainKeys := false, apart := false, laid := [("unicode/utf8.acceptRanges", laid_unicode_utf8_acceptRanges), ("unicode/utf8.first", laid_unicode_utf8_first)], narrowed := true }
def TopCapturedUptoSaid : Prop := topCapturedUptoRow.holds Tryz.pinned (OpenSpec.upto topCapturedSpec)

/-- 'awardingbodylaw21.IntakeCanonical', WHERE WHAT IT READS IS OF BULK AT MOST 1048576: true; the input reads as it did. -/
def intakeCanonicalUptoRow : OpenClaim := { program := "ytcpmgkedmmiioaagreatdoor", sum := "5bf1d9ba6de49d1601b4ae9949be93439d6c34fb70e4cbf760119e06dd3ddd99", func := "awardingbody/awardingbodylaw21.IntakeCanonical", spec := "intakeCanonical", inPlace := ["internal/abi.NoEscape", "internal/bytealg.MakeNoZero", "internal/bytealg.IndexByteString", "internal/bytealg.IndexString", "internal/bytealg.CountString"], unfollowed := true, recurses := true, named := ["unicode/utf8.first", "unicode/utf8.acceptRanges", "internal/bytealg.MaxLen"], plainKeys := false, apart := false, laid := [("unicode/utf8.acceptRanges", laid_unicode_utf8_acceptRanges), ("unicode/utf8.first", laid_unicode_utf8_first)], narrowed := true }
def IntakeCanonicalUptoSaid : Prop := intakeCanonicalUptoRow.holds Tryz.pinned (OpenSpec.upto intakeCanonicalSpec)

/-- 'awardingbodylaw21.IntakeDiffers', WHERE WHAT IT READS IS OF BULK AT MOST 1048576: true; the input reads as it did. -/
def intakeDiffersUptoRow : OpenClaim := { program := "ytcpmgkedmmiioaagreatdoor", sum := "5bf1d9ba6de49d1601b4ae9949be93439d6c34fb70e4cbf760119e06dd3ddd99", func := "awardingbody/awardingbodylaw21.IntakeDiffers", spec := "intakeDiffers", inPlace := ["internal/abi.NoEscape", "internal/bytealg.MakeNoZero", "internal/bytealg.IndexByteString", "internal/bytealg.IndexString", "internal/bytealg.CountString"], unfollowed := true, recurses := true, named := ["unicode/utf8.first", "unicode/utf8.acceptRanges", "internal/bytealg.MaxLen"], plainKeys := false, apart := false, laid := [("unicode/utf8.acceptRanges", laid_unicode_utf8_acceptRanges), ("unicode/utf8.first", laid_unicode_utf8_first)], narrowed := true }
def IntakeDiffersUptoSaid : Prop := intakeDiffersUptoRow.holds Tryz.pinned (OpenSpec.upto intakeDiffersSpec)

/-- 'awardingbodylaw21.IntakeFits', WHERE WHAT IT READS IS OF BULK AT MOST 1048576: true; the input reads as it did. -/
def intakeFitsUptoRow : OpenClaim := { program := "ytcpmgkedmmiioaagreatdoor", sum := "5bf1d9ba6de49d1601b4ae9949be93439d6c34fb70e4cbf760119e06dd3ddd99", func := "awardingbody/awardingbodylaw21.IntakeFits", spec := "intakeFits", inPlace := ["internal/abi.NoEscape", "internal/bytealg.MakeNoZero", "internal/bytealg.IndexByteString", "internal/bytealg.IndexString", "internal/bytealg.CountString"], unfollowed := true, recurses := true, named := ["unicode/utf8.first", "unicode/utf8.acceptRanges", "internal/bytealg.MaxLen"], plainKeys := false, apart := false, laid := [("unicode/utf8.acceptRanges", laid_unicode_utf8_acceptRanges), ("unicode/utf8.first", laid_unicode_utf8_first)], narrowed := true }
def IntakeFitsUptoSaid : Prop := intakeFitsUptoRow.holds Tryz.pinned (OpenSpec.upto intakeFitsSpec)

/-- 'awardingbodylaw21.IntakeAnyOrder', WHERE WHAT IT READS IS OF BULK AT MOST 1048576: true; the input reads as it did. -/
def intakeAnyOrderUptoRow : OpenClaim := { program := "ytcpmgkedmmiioaagreatdoor", sum := "5bf1d9ba6de49d1601b4ae9949be93439d6c34fb70e4cbf760119e06dd3ddd99", func := "awardingbody/awardingbodylaw21.IntakeAnyOrder", spec := "intakeAnyOrder", inPlace := ["internal/bytealg.IndexByteString", "internal/bytealg.IndexString", "internal/bytealg.CountString", "internal/abi.NoEscape", "internal/bytealg.MakeNoZero"], unfollowed := true, recurses := true, named := ["unicode/utf8.first", "unicode/utf8.acceptRanges", "internal/bytealg.MaxLen"], plainKeys := false, apart := false, laid := [("unicode/utf8.acceptRanges", laid_unicode_utf8_acceptRanges), ("unicode/utf8.first", laid_unicode_utf8_first)], narrowed := true }
def IntakeAnyOrderUptoSaid : Prop := intakeAnyOrderUptoRow.holds Tryz.pinned (OpenSpec.upto intakeAnyOrderSpec)

/-- 'awardingbodylaw21.IntakeOnce', WHERE WHAT IT READS IS OF BULK AT MOST 1048576: true; the input reads as it did. -/
def intakeOnceUptoRow : OpenClaim := { program := "ytcpmgkedmmiioaagreatdoor", sum := "5bf1d9ba6de49d1601b4ae9949be93439d6c34fb70e4cbf760119e06dd3ddd99", func := "awardingbody/awardingbodylaw21.IntakeOnce", spec := "intakeOnce", inPlace := ["internal/bytealg.IndexByteString", "internal/bytealg.IndexString", "internal/bytealg.CountString", "internal/abi.NoEscape", "internal/bytealg.MakeNoZero"], unfollowed := true, recurses := true, named := ["unicode/utf8.first", "unicode/utf8.acceptRanges", "internal/bytealg.MaxLen"], plainKeys := false, apart := false, laid := [("unicode/utf8.acceptRanges", laid_unicode_utf8_acceptRanges), ("unicode/utf8.first", laid_unicode_utf8_first)], narrowed := true }
def IntakeOnceUptoSaid : Prop := intakeOnceUptoRow.holds Tryz.pinned (OpenSpec.upto intakeOnceSpec)

end Rows
end Go.Proofs.YtcpmgkedmmiioaaGreatDoor
