/- stripTurns_card, part 17: what the row's proof needs: words of the print, contracts of functions, the plain law. -/
import Derived.Laws.Tables
import Derived.Deep.WholeRow
import Derived.Test.YtcpmgkedmmiioaaGreatDoorKa8
import Derived.Test.YtcpmgkedmmiioaaGreatDoorKa15
section
set_option linter.unusedVariables false
namespace Go.Proofs.YtcpmgkedmmiioaaGreatDoor.R
open Go.RowKit Go.Proofs.YtcpmgkedmmiioaaGreatDoorW.PrintWords Go.Proofs.YtcpmgkedmmiioaaGreatDoorW.PrintLast Go.Proofs.YtcpmgkedmmiioaaGreatDoorW.PrintMore Go.Proofs.YtcpmgkedmmiioaaGreatDoor.Gf
def powI (n : Nat) : Value := .int .i64 (Gf.expsL.getD n 0 : Nat)
def powC : Array Value := #[.int .i64 1, .int .i64 2, .int .i64 4, .int .i64 8, .int .i64 16, .int .i64 5, .int .i64 10, .int .i64 20, .int .i64 13, .int .i64 26, .int .i64 17, .int .i64 7, .int .i64 14, .int .i64 28, .int .i64 29, .int .i64 31, .int .i64 27, .int .i64 19, .int .i64 3, .int .i64 6, .int .i64 12, .int .i64 24, .int .i64 21, .int .i64 15, .int .i64 30, .int .i64 25, .int .i64 23, .int .i64 11, .int .i64 22, .int .i64 9, .int .i64 18]
theorem powC_get (n : Nat) (hn : n < 31) : powC[n]? = some (powI n) := by
  match n, hn with
  | 0, _ => rfl
  | 1, _ => rfl
  | 2, _ => rfl
  | 3, _ => rfl
  | 4, _ => rfl
  | 5, _ => rfl
  | 6, _ => rfl
  | 7, _ => rfl
  | 8, _ => rfl
  | 9, _ => rfl
  | 10, _ => rfl
  | 11, _ => rfl
  | 12, _ => rfl
  | 13, _ => rfl
  | 14, _ => rfl
  | 15, _ => rfl
  | 16, _ => rfl
  | 17, _ => rfl
  | 18, _ => rfl
  | 19, _ => rfl
  | 20, _ => rfl
  | 21, _ => rfl
  | 22, _ => rfl
  | 23, _ => rfl
  | 24, _ => rfl
  | 25, _ => rfl
  | 26, _ => rfl
  | 27, _ => rfl
  | 28, _ => rfl
  | 29, _ => rfl
  | 30, _ => rfl
  | n + 31, h => exact absurd h (by omega)
theorem pow_cell (W : World) (n : Nat) (hn : n < 31) : (W.alloc (.cells powC 298)).cell? ⟨W.heap.size, n, none⟩ = some (powI n) := by
  unfold World.cell?
  rw [heap_alloc_new]
  exact powC_get n hn
theorem pow_store (W : World) : (storeCells ⟨W.heap.size, 0, none⟩ powC.toList 0).run Tryz.prog (W.alloc (.cells #[.int .i64 0, .int .i64 0, .int .i64 0, .int .i64 0, .int .i64 0, .int .i64 0, .int .i64 0, .int .i64 0, .int .i64 0, .int .i64 0, .int .i64 0, .int .i64 0, .int .i64 0, .int .i64 0, .int .i64 0, .int .i64 0, .int .i64 0, .int .i64 0, .int .i64 0, .int .i64 0, .int .i64 0, .int .i64 0, .int .i64 0, .int .i64 0, .int .i64 0, .int .i64 0, .int .i64 0, .int .i64 0, .int .i64 0, .int .i64 0, .int .i64 0] 298)) = .ok () (W.alloc (.cells powC 298)) :=
  run_storeCells_new W 298 _ powC (by kernel_rfl) rfl (by kernel_rfl)
set_option maxHeartbeats 1000000 in
set_option maxRecDepth 100000 in
theorem power_calls (a : Int) (w : World) :
    Calls Tryz.prog 228 #[.int .i64 a] w fun e w' => e = .returned (.int .i64 (H.fi (pow (a % 31).toNat))) ∧ Below w.heap.size w w' := by
  obtain ⟨n, hn⟩ : ∃ n : Nat, a % 31 = n := ⟨(a % 31).toNat, by omega⟩
  have hn31 : n < 31 := by omega
  have HE : Aside0 (Value.int .i64 (H.fi (pow (a % 31).toNat)) = powI n) := ⟨by
    rw [hn]
    unfold powI H.fi
    rw [toNat_pow, Int.toNat_natCast]
    unfold gpow
    rw [Nat.mod_eq_of_lt hn31]⟩
  have c1 := pow_cell w n hn31
  have hst := pow_store w
  have HT : Aside0 ((Int.tmod a 31 < 0 → wrap64 (Int.tmod a 31 + 31) = n) ∧ (¬ Int.tmod a 31 < 0 → Int.tmod a 31 = n)) := ⟨by
    have h0 := Int.tmod_eq_emod (a := a) (b := 31)
    constructor
    · intro h; unfold wrap64; split at h0 <;> omega
    · intro h; split at h0 <;> omega⟩
  clear hn
  have p1 := eq_true (show (0 : Int) ≤ (n : Int) by omega)
  have p2 := eq_true (show (n : Int) < 31 by omega)
  have p3 := eq_true hn31
  by_cases h : Int.tmod a 31 < 0
  · have t1 : decide (Int.tmod a 31 < 0) = true := decide_eq_true h
    have e1 := HT.out.1 h
    clear h
    go_enter Tryz.func228, Tryz.ntmps228
    go_wp2_with (first | ((with_reducible refine gate_dst (N := 10) rfl ?_); refine Kd.event_run (v := .agg powC) (w1 := w) rfl (by kernel_rfl) ?_))
    go_ret
    exact ⟨by rw [HE.out]; rfl, below_alloc (Below.refl _ _) _⟩
  · have t1 : decide (Int.tmod a 31 < 0) = false := decide_eq_false h
    have e1 := HT.out.2 h
    clear h
    go_enter Tryz.func228, Tryz.ntmps228
    go_wp2_with (first | ((with_reducible refine gate_dst (N := 10) rfl ?_); refine Kd.event_run (v := .agg powC) (w1 := w) rfl (by kernel_rfl) ?_))
    go_ret
    exact ⟨by rw [HE.out]; rfl, below_alloc (Below.refl _ _) _⟩
def awardingbodyref18_Power.f (a0 : Int) : Option (Int) := some (H.fi (pow (a0 % 31).toNat))
theorem awardingbodyref18_Power.calls (a0 : Int) (r : Int) (w : World) (h : awardingbodyref18_Power.f a0 = some r) :
    Calls Tryz.prog 228 #[.int .i64 a0] w fun e w' => e = .returned (.int .i64 r) ∧ Below w.heap.size w w' := by
  obtain rfl := Option.some.inj h
  exact power_calls a0 w
end Go.Proofs.YtcpmgkedmmiioaaGreatDoor.R
end
