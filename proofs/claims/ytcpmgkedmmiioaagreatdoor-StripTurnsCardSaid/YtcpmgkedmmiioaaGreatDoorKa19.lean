/- stripTurns_card, part 19: what the row's proof needs: words of the print, contracts of functions, the plain law. -/
import Derived.Test.YtcpmgkedmmiioaaGreatDoorKa9
import Derived.Test.YtcpmgkedmmiioaaGreatDoorKa18
section
set_option linter.unusedVariables false
namespace Go.Proofs.YtcpmgkedmmiioaaGreatDoor.R
open Go.RowKit Go.Proofs.YtcpmgkedmmiioaaGreatDoorW.PrintWords Go.Proofs.YtcpmgkedmmiioaaGreatDoorW.PrintLast Go.Proofs.YtcpmgkedmmiioaaGreatDoorW.PrintMore Go.Proofs.YtcpmgkedmmiioaaGreatDoor.Gf
open H (fi fo fi_zero fi_inj fi_bound fi_fo val xor_f)
theorem mul_dec : ∀ a b : Fin 32, awardingbodyref18_Mul.f 20 (a.val : Int) (b.val : Int) = some (gmulN a.val b.val : Int) := by decide +kernel
theorem mul_f (a b : F) : awardingbodyref18_Mul.f 20 (fi a) (fi b) = some (fi (mul a b)) := by
  have := mul_dec ⟨a.toNat, a.isLt⟩ ⟨b.toNat, b.isLt⟩
  simp only at this
  unfold H.fi; rw [this, toNat_mul]
theorem mul_up (a b : F) (j : Nat) : awardingbodyref18_Mul.f (20 + j) (fi a) (fi b) = some (fi (mul a b)) := by
  induction j with
  | zero => exact mul_f a b
  | succ j ih => exact awardingbodyref18_Mul.mono _ _ _ _ ih
theorem mul_ge (a b : F) {k : Nat} (hk : 20 ≤ k) : awardingbodyref18_Mul.f k (fi a) (fi b) = some (fi (mul a b)) := by
  obtain ⟨j, rfl⟩ : ∃ j, k = 20 + j := ⟨k - 20, by omega⟩
  exact mul_up a b j
theorem inv_dec : ∀ a : Fin 32, awardingbodyref18_Inverse.f 60 (a.val : Int) = some (((inv (BitVec.ofNat 5 a.val)).toNat : Nat) : Int) := by decide +kernel
theorem inverse_f (a : F) : awardingbodyref18_Inverse.f 60 (fi a) = some (fi (inv a)) := by
  have := inv_dec ⟨a.toNat, a.isLt⟩
  simp only at this
  unfold H.fi; rw [this]; simp
theorem mul_calls (a b : F) (w : World) : Calls Tryz.prog 231 #[.int .i64 (fi a), .int .i64 (fi b)] w fun e w' => e = .returned (.int .i64 (fi (mul a b))) ∧ w = w' :=
  awardingbodyref18_Mul.calls 20 _ _ _ w (mul_f a b)
theorem mul_still (a b : F) (w : World) : Calls Tryz.prog 231 #[.int .i64 (fi a), .int .i64 (fi b)] w fun e w' => e = .returned (.int .i64 (fi (mul a b))) ∧ w' = w := (mul_calls a b w).turned
theorem inverse_calls (a : F) (w : World) : Calls Tryz.prog 230 #[.int .i64 (fi a)] w fun e w' => e = .returned (.int .i64 (fi (inv a))) ∧ w = w' :=
  awardingbodyref18_Inverse.calls 60 _ _ w (inverse_f a)
/-- Horner's sum of the first i -/
def hor (x : F) (v : Nat → F) (i : Nat) : F := sum i (fun q => mul (v q) (fpow x (i - 1 - q)))
theorem hor_succ (x : F) (v : Nat → F) (i : Nat) : mul (hor x v i) x ^^^ v i = hor x v (i + 1) := by
  unfold hor
  rw [sum_mul]
  show _ = sum i (fun q => mul (v q) (fpow x (i + 1 - 1 - q))) ^^^ mul (v i) (fpow x (i + 1 - 1 - i))
  have e1 : i + 1 - 1 - i = 0 := by omega
  rw [e1]
  have e2 : fpow x 0 = 1 := rfl
  rw [e2, mul_one]
  congr 1
  refine sum_congr fun q hq => ?_
  have e3 : i + 1 - 1 - q = (i - 1 - q) + 1 := by omega
  rw [e3, mul_assoc]
  congr 1
theorem hor_syn (N : Nat) (v : Nat → F) (j : Nat) : hor (pow (1 + j)) v N = syn N v j := by
  unfold hor syn px
  refine sum_congr fun q hq => ?_
  rw [fpow_pow, fpow_pow, Nat.mul_comm]
theorem val_of {l : List Int} {i : Nat} (h : 0 ≤ l.getD i 0 ∧ l.getD i 0 ≤ 31) : rd l (i : Int) = fi (val l i) := by
  have e : rd l (i : Int) = l.getD i 0 := by simp [rd]
  rw [e]
  unfold H.val
  rw [show max (l.getD i 0) 0 = l.getD i 0 by omega, fi_fo h.1 h.2]
theorem syn_l (l : List Int) (hl : l.length ≤ 15) (hv : ∀ i, i < l.length → 0 ≤ l.getD i 0 ∧ l.getD i 0 ≤ 31) (x : F) : ∀ j i, i + j = l.length → awardingbodyref18_Syndrome.l0 (j + 25) l (fi (hor x (val l) i)) (fi x) (i : Int) = some (fi (hor x (val l) l.length)) := by
  intro j
  induction j with
  | zero =>
    intro i hi
    obtain rfl : i = l.length := by omega
    unfold awardingbodyref18_Syndrome.l0
    rw [if_neg (by omega)]
  | succ j ih =>
    intro i hi
    rw [show j + 1 + 25 = (j + 25) + 1 from by omega]
    unfold awardingbodyref18_Syndrome.l0
    rw [if_pos (by omega), mul_ge _ _ (by omega), Option.bind_some, if_pos (by omega), val_of (hv i (by omega)), xor_f, hor_succ]
    have e : wrap64 ((i : Int) + 1) = ((i + 1 : Nat) : Int) := by unfold wrap64; omega
    rw [e]
    exact ih (i + 1) (by omega)
theorem syndrome_f (l : List Int) (hl : l.length ≤ 15) (hv : ∀ i, i < l.length → 0 ≤ l.getD i 0 ∧ l.getD i 0 ≤ 31) (j : Nat) (hj : j < 6) : awardingbodyref18_Syndrome.f 40 l ((j : Int) + 1) = some (fi (syn l.length (val l) j)) := by
  unfold awardingbodyref18_Syndrome.f awardingbodyref18_Power.f
  rw [Option.bind_some]
  have e : (((j : Int) + 1) % 31).toNat = 1 + j := by omega
  rw [e]
  have h := syn_l l hl hv (pow (1 + j)) l.length 0 (by omega)
  have h0 : fi (hor (pow (1 + j)) (val l) 0) = 0 := rfl
  rw [h0, hor_syn] at h
  obtain ⟨d, hd⟩ : ∃ d, 40 = l.length + 25 + d := ⟨15 - l.length, by omega⟩
  rw [hd]
  clear hd
  induction d with
  | zero => exact h
  | succ d ih => exact (awardingbodyref18_Syndrome.mono_l (l.length + 25 + d)) _ _ _ _ _ ih
theorem syndrome_calls (A : Option Addr) (c : Nat) (l : List Int) (w : World) (hr : Kd.C (Kd.int .i64) w A l.length l) (hc : l.length ≤ c) (hl : l.length ≤ 15) (hv : ∀ i, i < l.length → 0 ≤ l.getD i 0 ∧ l.getD i 0 ≤ 31) (j : Nat) (hj : j < 6) :
    Calls Tryz.prog 229 #[.slice A l.length c, .int .i64 ((j : Int) + 1)] w fun e w' => e = .returned (.int .i64 (fi (syn l.length (val l) j))) ∧ Below w.heap.size w w' :=
  awardingbodyref18_Syndrome.calls 40 A c l _ _ w hr hc (syndrome_f l hl hv j hj)
theorem symbols_true {l : List Int} (hl : l.length ≤ 15) : ∀ j i, i + j = l.length → ∃ b, awardingbodyref18_symbols.l0 (j + 1) l 0 (i : Int) = some b ∧ (b = true → ∀ q, i ≤ q → q < l.length → 0 ≤ l.getD q 0 ∧ l.getD q 0 ≤ 31) := by
  intro j
  induction j with
  | zero =>
    intro i hi
    unfold awardingbodyref18_symbols.l0
    rw [if_neg (by omega)]
    exact ⟨true, rfl, fun _ q h1 h2 => by omega⟩
  | succ j ih =>
    intro i hi
    unfold awardingbodyref18_symbols.l0
    rw [if_pos (by omega), if_pos (by omega)]
    have e0 : rd l (i : Int) = l.getD i 0 := by simp [rd]
    rw [e0]
    by_cases h1 : l.getD i 0 < 0
    · rw [if_pos h1]; exact ⟨false, rfl, fun h => by cases h⟩
    · rw [if_neg h1]
      by_cases h2 : l.getD i 0 > 31
      · rw [if_pos h2]; exact ⟨false, rfl, fun h => by cases h⟩
      · rw [if_neg h2]
        have e : wrap64 ((i : Int) + 1) = ((i + 1 : Nat) : Int) := by unfold wrap64; omega
        rw [e]
        obtain ⟨b, hb, hq⟩ := ih (i + 1) (by omega)
        refine ⟨b, hb, fun hbt q hq1 hq2 => ?_⟩
        by_cases hqi : q = i
        · subst hqi; omega
        · exact hq hbt q (by omega) hq2
theorem codeword_l {l : List Int} (hl : l.length ≤ 15) (hv : ∀ i, i < l.length → 0 ≤ l.getD i 0 ∧ l.getD i 0 ≤ 31) : ∀ j i : Nat, i + j = 6 → ∃ b, awardingbodyref18_Codeword.l0 (j + 41) l ((i : Int) + 1) = some b := by
  intro j
  induction j with
  | zero =>
    intro i hi
    unfold awardingbodyref18_Codeword.l0
    rw [if_neg (by omega)]
    exact ⟨true, rfl⟩
  | succ j ih =>
    intro i hi
    rw [show j + 1 + 41 = (j + 41) + 1 from by omega]
    unfold awardingbodyref18_Codeword.l0
    have hs : awardingbodyref18_Syndrome.f (j + 41) l ((i : Int) + 1) = some (fi (syn l.length (val l) i)) := by
      have h := syndrome_f l hl hv i (by omega)
      rw [show j + 41 = 40 + (j + 1) from by omega]
      generalize j + 1 = d
      induction d with
      | zero => exact h
      | succ d ih => exact awardingbodyref18_Syndrome.mono _ _ _ _ ih
    rw [if_pos (by omega), hs, Option.bind_some]
    by_cases h : fi (syn l.length (val l) i) = 0
    · rw [if_pos h]
      have e : wrap64 ((i : Int) + 1 + 1) = ((i + 1 : Nat) : Int) + 1 := by unfold wrap64; omega
      rw [e]
      exact ih (i + 1) (by omega)
    · rw [if_neg h]; exact ⟨false, rfl⟩
theorem codeword_f (l : List Int) : ∃ k b, awardingbodyref18_Codeword.f k l = some b := by
  by_cases h7 : (l.length : Int) < 7
  · refine ⟨1, false, ?_⟩
    unfold awardingbodyref18_Codeword.f awardingbodyref18_symbols.f
    rw [if_pos h7]; rfl
  · by_cases hl : l.length ≤ 15
    · obtain ⟨b, hb, hq⟩ := symbols_true (l := l) hl l.length 0 (by omega)
      have hs : ∀ d, awardingbodyref18_symbols.f (l.length + 1 + 1 + d) l 0 = some b := by
        intro d
        induction d with
        | zero =>
          unfold awardingbodyref18_symbols.f
          rw [if_neg h7]
          show (if decide ((l.length : Int) > 15) = true then (some false) else awardingbodyref18_symbols.l0 (l.length + 1) l 0 0) = _
          rw [if_neg (by simp; omega)]
          exact hb
        | succ d ih => exact awardingbodyref18_symbols.mono _ _ _ _ ih
      cases b with
      | false =>
        refine ⟨l.length + 1 + 1, false, ?_⟩
        unfold awardingbodyref18_Codeword.f
        rw [show l.length + 1 + 1 = l.length + 1 + 1 + 0 from rfl, hs 0]; rfl
      | true =>
        obtain ⟨b2, hb2⟩ := codeword_l hl (fun i hi => hq rfl i (Nat.zero_le _) hi) 6 0 rfl
        refine ⟨47, b2, ?_⟩
        unfold awardingbodyref18_Codeword.f
        have := hs (45 - l.length)
        rw [show l.length + 1 + 1 + (45 - l.length) = 47 from by omega] at this
        rw [this, Option.bind_some, if_pos rfl]
        exact hb2
    · refine ⟨1, false, ?_⟩
      unfold awardingbodyref18_Codeword.f awardingbodyref18_symbols.f
      rw [if_neg h7]
      show ((if decide ((l.length : Int) > 15) = true then some false else _) : Option Bool).bind _ = _
      rw [if_pos (by simp; omega)]; rfl
theorem codeword_calls (A : Option Addr) (c : Nat) (l : List Int) (w : World) (hr : Kd.C (Kd.int .i64) w A l.length l) (hc : l.length ≤ c) :
    Calls Tryz.prog 232 #[.slice A l.length c] w fun e w' => (∃ b, e = .returned (.bool b)) ∧ Below w.heap.size w w' := by
  obtain ⟨k, b, h⟩ := codeword_f l
  exact (awardingbodyref18_Codeword.calls k A c l b w hr hc h).mono fun e w' ⟨h1, h2⟩ => ⟨⟨b, h1⟩, h2⟩
end Go.Proofs.YtcpmgkedmmiioaaGreatDoor.R
end
