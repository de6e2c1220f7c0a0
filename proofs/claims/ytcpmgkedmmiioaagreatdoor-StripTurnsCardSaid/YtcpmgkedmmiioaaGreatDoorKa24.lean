/- stripTurns_card, part 24: what the row's proof needs: words of the print, contracts of functions, the plain law. -/
import Derived.Test.YtcpmgkedmmiioaaGreatDoorKa23
import Derived.Test.YtcpmgkedmmiioaaGreatDoorKa1
section
set_option linter.unusedVariables false
namespace Go.Proofs.YtcpmgkedmmiioaaGreatDoor.P
open Go.RowKit Go.Proofs.YtcpmgkedmmiioaaGreatDoorW.PrintWords Go.Proofs.YtcpmgkedmmiioaaGreatDoorW.PrintLast Go.Proofs.YtcpmgkedmmiioaaGreatDoorW.PrintMore
def symbs (l : List Int) : Bool := decide (1 ≤ l.length) && (decide (l.length ≤ 9) && l.all fun x => decide (0 ≤ x) && decide (x ≤ 31))
def awardingbodyref18_Encode.f (l0 : List Int) : Option (List Int × Int) := if symbs l0 = true then some ((H.encf l0).1, 0) else none
theorem awardingbodyref18_Encode.calls (A0 : Option Addr) (c0 : Nat) (l0 : List Int) (r1 : List Int) (r2 : Int) (w : World) (hr0 : Kd.C (Kd.int .i64) w A0 l0.length l0) (hc0 : l0.length ≤ c0) (h : awardingbodyref18_Encode.f l0 = some (r1, r2)) :
    Calls Tryz.prog 115 #[.slice A0 l0.length c0] w fun e w' => ∃ v0_ : Value, e = .returned (.tuple #[v0_, .int .i64 r2]) ∧ Kd.R (Kd.int .i64) 3 w' w.heap.size (fun _ => True) v0_ r1 ∧ Below w.heap.size w w' := by
  unfold awardingbodyref18_Encode.f at h
  split at h
  · next hs =>
    unfold symbs at hs
    rw [Bool.and_eq_true, Bool.and_eq_true, decide_eq_true_eq, decide_eq_true_eq, List.all_eq_true] at hs
    have e := Option.some.inj h
    obtain ⟨rfl, rfl⟩ := Prod.mk.inj e
    refine R.encode_calls A0 c0 l0 w hr0 hc0 hs.1 hs.2.1 fun i hi => ?_
    have hm := hs.2.2 (l0.getD i 0) (by rw [List.getD_eq_getElem?_getD, List.getElem?_eq_getElem hi]; exact List.getElem_mem hi)
    rw [Bool.and_eq_true, decide_eq_true_eq, decide_eq_true_eq] at hm
    exact hm
  · cases h
end Go.Proofs.YtcpmgkedmmiioaaGreatDoor.P
end
