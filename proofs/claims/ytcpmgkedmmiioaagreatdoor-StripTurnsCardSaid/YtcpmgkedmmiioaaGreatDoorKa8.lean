/- stripTurns_card, part 8: what the row's proof needs: words of the print, contracts of functions, the plain law. -/
import Derived.Test.YtcpmgkedmmiioaaGreatDoorKa6
import Derived.Test.YtcpmgkedmmiioaaGreatDoorKa7
section
namespace Go.Proofs.YtcpmgkedmmiioaaGreatDoor.H
open Go.RowKit Go.Proofs.YtcpmgkedmmiioaaGreatDoorW.PrintWords Go.Proofs.YtcpmgkedmmiioaaGreatDoorW.PrintLast Go.Proofs.YtcpmgkedmmiioaaGreatDoorW.PrintMore Go.Proofs.YtcpmgkedmmiioaaGreatDoor.B Go.Proofs.YtcpmgkedmmiioaaGreatDoor.Gf
/-- an element as Go's int -/
def fi (x : F) : Int := (x.toNat : Int)
theorem fi_bound (x : F) : 0 ≤ fi x ∧ fi x ≤ 31 := by unfold fi; have := x.isLt; omega
theorem fi_zero : fi 0 = 0 := rfl
theorem fi_inj {x y : F} (h : fi x = fi y) : x = y := by unfold fi at h; exact BitVec.eq_of_toNat_eq (by omega)
/-- Go's int as an element -/
def fo (x : Int) : F := BitVec.ofInt 5 x
theorem fi_fo {x : Int} (h0 : 0 ≤ x) (h : x ≤ 31) : fi (fo x) = x := by
  unfold fi fo; rw [BitVec.toNat_ofInt]; omega
theorem fo_fi (x : F) : fo (fi x) = x := fi_inj (fi_fo (fi_bound x).1 (fi_bound x).2)
theorem power_dec : ∀ m : Fin 31, rscode_Power.l0 32 1 (m.val : Int) 0 = some (gpow m.val : Int) := by decide +kernel
theorem mul_dec : ∀ a b : Fin 32, rscode_Mul.f 40 (a.val : Int) (b.val : Int) = some (gmulN a.val b.val : Int) := by decide +kernel
theorem inv_dec : ∀ a : Fin 32, rscode_Inverse.f 40 (a.val : Int) = some (((inv (BitVec.ofNat 5 a.val)).toNat : Nat) : Int) := by decide +kernel
theorem xor_dec : ∀ a b : Fin 32, Go.bits .xor .i64 (a.val : Int) (b.val : Int) = ((a.val ^^^ b.val : Nat) : Int) := by decide +kernel
theorem power_f (n : Int) : rscode_Power.f 32 n = some (fi (pow (n % 31).toNat)) := by
  unfold rscode_Power.f
  have e : Int.tmod (wrap64 (Int.tmod n 31 + 31)) 31 = (((n % 31).toNat : Nat) : Int) := by
    have h1 : -31 < Int.tmod n 31 := by
      rw [Int.tmod_eq_emod]; split <;> (simp; omega)
    have h2 : Int.tmod n 31 < 31 := by
      rw [Int.tmod_eq_emod]; split <;> (simp; omega)
    have h3 : (Int.tmod n 31) % 31 = n % 31 := by
      rw [Int.tmod_eq_emod]; split <;> (simp; try omega)
    have hw : wrap64 (Int.tmod n 31 + 31) = Int.tmod n 31 + 31 := by unfold wrap64; omega
    rw [hw, Int.tmod_eq_emod_of_nonneg (by omega)]
    omega
  rw [e]
  have := power_dec ⟨(n % 31).toNat, by omega⟩
  simp only at this
  rw [this]; unfold fi; rw [toNat_pow]
theorem times_f (a b : F) : rscode_gf_times.f 40 (fi a) (fi b) = some (fi (mul a b)) := by
  unfold rscode_gf_times.f
  have := mul_dec ⟨a.toNat, a.isLt⟩ ⟨b.toNat, b.isLt⟩
  simp only at this
  unfold fi; rw [this, toNat_mul]; rfl
theorem mul_f (a b : F) : rscode_Mul.f 40 (fi a) (fi b) = some (fi (mul a b)) := by
  have := mul_dec ⟨a.toNat, a.isLt⟩ ⟨b.toNat, b.isLt⟩
  simp only at this
  unfold fi; rw [this, toNat_mul]
theorem inverse_f (a : F) : rscode_gf_inverse.f 40 (fi a) = some (fi (inv a)) := by
  unfold rscode_gf_inverse.f
  have := inv_dec ⟨a.toNat, a.isLt⟩
  simp only at this
  unfold fi; rw [this]; simp
theorem xor_f (a b : F) : Go.bits .xor .i64 (fi a) (fi b) = fi (a ^^^ b) := by
  have := xor_dec ⟨a.toNat, a.isLt⟩ ⟨b.toNat, b.isLt⟩
  simp only at this
  unfold fi; rw [this, BitVec.toNat_xor]
theorem plus_f (a b : F) : rscode_gf_plus.f (fi a) (fi b) = some (fi (a ^^^ b)) := by unfold rscode_gf_plus.f; rw [xor_f]
theorem pow_mod (m : Nat) : pow (m % 31) = pow m := by unfold pow; rw [gpow_mod]
theorem power_calls (n : Int) (w : World) : Calls Tryz.prog 244 #[.int .i64 n] w fun e w' => e = .returned (.int .i64 (fi (pow (n % 31).toNat))) ∧ w = w' :=
  rscode_Power.calls 32 n _ w (power_f n)
theorem mul_calls (a b : F) (w : World) : Calls Tryz.prog 243 #[.int .i64 (fi a), .int .i64 (fi b)] w fun e w' => e = .returned (.int .i64 (fi (mul a b))) ∧ w = w' :=
  rscode_Mul.calls 40 _ _ _ w (mul_f a b)
theorem times_calls (a b : F) (w : World) : Calls Tryz.prog 176 #[.int .i64 (fi a), .int .i64 (fi b)] w fun e w' => e = .returned (.int .i64 (fi (mul a b))) ∧ w = w' :=
  rscode_gf_times.calls 40 _ _ _ w (times_f a b)
theorem plus_calls (a b : F) (w : World) : Calls Tryz.prog 175 #[.int .i64 (fi a), .int .i64 (fi b)] w fun e w' => e = .returned (.int .i64 (fi (a ^^^ b))) ∧ w = w' :=
  rscode_gf_plus.calls _ _ _ w (plus_f a b)
theorem inverse_calls (a : F) (w : World) : Calls Tryz.prog 325 #[.int .i64 (fi a)] w fun e w' => e = .returned (.int .i64 (fi (inv a))) ∧ w = w' :=
  rscode_gf_inverse.calls 40 _ _ w (inverse_f a)
theorem _root_.Go.Calls.turned {P : Program} {f : FuncId} {args : Array Value} {w : World} {v : Value} (h : Calls P f args w fun e w' => e = .returned v ∧ w = w') : Calls P f args w fun e w' => e = .returned v ∧ w' = w :=
  h.mono fun _ _ ⟨he, hw⟩ => ⟨he, hw.symm⟩
theorem power_still (n : Int) (w : World) : Calls Tryz.prog 244 #[.int .i64 n] w fun e w' => e = .returned (.int .i64 (fi (pow (n % 31).toNat))) ∧ w' = w := (power_calls n w).turned
theorem mul_still (a b : F) (w : World) : Calls Tryz.prog 243 #[.int .i64 (fi a), .int .i64 (fi b)] w fun e w' => e = .returned (.int .i64 (fi (mul a b))) ∧ w' = w := (mul_calls a b w).turned
theorem times_still (a b : F) (w : World) : Calls Tryz.prog 176 #[.int .i64 (fi a), .int .i64 (fi b)] w fun e w' => e = .returned (.int .i64 (fi (mul a b))) ∧ w' = w := (times_calls a b w).turned
theorem plus_still (a b : F) (w : World) : Calls Tryz.prog 175 #[.int .i64 (fi a), .int .i64 (fi b)] w fun e w' => e = .returned (.int .i64 (fi (a ^^^ b))) ∧ w' = w := (plus_calls a b w).turned
end Go.Proofs.YtcpmgkedmmiioaaGreatDoor.H
end
