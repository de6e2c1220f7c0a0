/- stripTurns_card, part 16: what the row's proof needs: words of the print, contracts of functions, the plain law. -/
import Derived.Test.YtcpmgkedmmiioaaGreatDoorKa15
section
namespace Go.Proofs.YtcpmgkedmmiioaaGreatDoor.R
open Go.RowKit Go.Proofs.YtcpmgkedmmiioaaGreatDoorW.PrintWords Go.Proofs.YtcpmgkedmmiioaaGreatDoorW.PrintLast Go.Proofs.YtcpmgkedmmiioaaGreatDoorW.PrintMore
attribute [local go_sem] max2_int min2_int max_two min_two max_three min_three max_four min_four   -- for this text's walks alone
set_option linter.unusedVariables false
set_option linter.unusedSimpArgs false
mutual
def awardingbodyref18_symbols.j0 : Nat → List Int → Int → Bool → Option (Bool)
  | 0, _, _, _ => none
  | k + 1, x0, x1, x13 => if x13 = true then (some false) else (awardingbodyref18_symbols.l0 k x0 x1 0)
def awardingbodyref18_symbols.l0 : Nat → List Int → Int → Int → Option (Bool)
  | 0, _, _, _ => none
  | k + 1, x0, x1, x5 => if x5 < (x0.length : Int) then (if 0 ≤ x5 then (if (rd x0 x5) < x1 then (some false) else (if (rd x0 x5) > 31 then (some false) else (awardingbodyref18_symbols.l0 k x0 x1 (wrap64 (x5 + 1))))) else (none)) else (some true)
end
def awardingbodyref18_symbols.f (k : Nat) (l0 : List Int) (a1 : Int) : Option (Bool) := if (l0.length : Int) < 7 then (awardingbodyref18_symbols.j0 k l0 a1 true) else (awardingbodyref18_symbols.j0 k l0 a1 (decide ((l0.length : Int) > 15)))
theorem awardingbodyref18_symbols.mono_l : ∀ k, (∀ y0 y1 y2, LeO (awardingbodyref18_symbols.j0 k y0 y1 y2) (awardingbodyref18_symbols.j0 (k + 1) y0 y1 y2)) ∧ (∀ y0 y1 y2, LeO (awardingbodyref18_symbols.l0 k y0 y1 y2) (awardingbodyref18_symbols.l0 (k + 1) y0 y1 y2))
  | 0 => ⟨fun _ _ _ r h => by simp [awardingbodyref18_symbols.j0] at h, fun _ _ _ r h => by simp [awardingbodyref18_symbols.l0] at h⟩
  | k + 1 => by
    obtain ⟨ih0, ih1⟩ := awardingbodyref18_symbols.mono_l k
    refine ⟨?_, ?_⟩
    · intro y0 y1 y2
      unfold awardingbodyref18_symbols.j0
      repeat' first
      | (with_reducible exact ih0 _ _ _)
      | (with_reducible exact ih1 _ _ _)
      | (with_reducible exact LeO.refl _)
      | (with_reducible exact LeO.none _)
      | (with_reducible refine LeO.ite ?_ ?_)
      | (with_reducible refine LeO.bind ?_ (fun _ => ?_))
      | exact ih0 _ _ _
      | exact ih1 _ _ _
      | exact LeO.none _
      | refine LeO.ite ?_ ?_
      | refine LeO.bind ?_ (fun _ => ?_)
    · intro y0 y1 y2
      unfold awardingbodyref18_symbols.l0
      repeat' first
      | (with_reducible exact ih0 _ _ _)
      | (with_reducible exact ih1 _ _ _)
      | (with_reducible exact LeO.refl _)
      | (with_reducible exact LeO.none _)
      | (with_reducible refine LeO.ite ?_ ?_)
      | (with_reducible refine LeO.bind ?_ (fun _ => ?_))
      | exact ih0 _ _ _
      | exact ih1 _ _ _
      | exact LeO.none _
      | refine LeO.ite ?_ ?_
      | refine LeO.bind ?_ (fun _ => ?_)
theorem awardingbodyref18_symbols.mono : ∀ a0 a1 k, LeO (awardingbodyref18_symbols.f k a0 a1) (awardingbodyref18_symbols.f (k + 1) a0 a1) := by
  intro a0 a1 k
  obtain ⟨ih0, ih1⟩ := awardingbodyref18_symbols.mono_l k
  unfold awardingbodyref18_symbols.f
  repeat' first
      | (with_reducible exact ih0 _ _ _)
      | (with_reducible exact ih1 _ _ _)
      | (with_reducible exact LeO.refl _)
      | (with_reducible exact LeO.none _)
      | (with_reducible refine LeO.ite ?_ ?_)
      | (with_reducible refine LeO.bind ?_ (fun _ => ?_))
      | exact ih0 _ _ _
      | exact ih1 _ _ _
      | exact LeO.none _
      | refine LeO.ite ?_ ?_
      | refine LeO.bind ?_ (fun _ => ?_)
set_option maxHeartbeats 8000000 in
set_option maxRecDepth 100000 in
theorem awardingbodyref18_symbols.calls (k : Nat) (A0 : Option Addr) (c0 : Nat) (l0 : List Int) (a1 : Int) (r : Bool) (w : World) (hr0 : Kd.C (Kd.int .i64) w A0 l0.length l0) (hc0 : l0.length ≤ c0) (h : awardingbodyref18_symbols.f k l0 a1 = some r) :
    Calls Tryz.prog 223 #[.slice A0 l0.length c0, .int .i64 a1] w fun e w' => e = .returned (.bool r) ∧ w = w' := by
  have HR0 := Aside0.mk hr0
  have HC0 := Aside0.mk hc0
  clear hr0 hc0
  have H : (if (l0.length : Int) < 7 then (awardingbodyref18_symbols.j0 k l0 a1 true) else (awardingbodyref18_symbols.j0 k l0 a1 (decide ((l0.length : Int) > 15)))) = some r := h
  clear h
  have HC3 := Aside0.mk H
  clear H
  go_enter Tryz.func223, Tryz.ntmps223
  go_upto_region 1 with (fail)
  go_cut [13] (fun v13 wc => ∃ (kq : Nat) (x13_2 : Bool), v13 = .bool x13_2 ∧ Aside0 (awardingbodyref18_symbols.j0 kq l0 a1 x13_2 = some r) ∧ Aside0 (kq ≤ k) ∧ w = wc)
  case first =>
    have H := HC3.out
    clear HC3
    by_cases c4 : (l0.length : Int) < 7
    · rw [if_pos c4] at H
      have c4b0 : decide ((l0.length : Int) < 7) = true := decide_eq_true c4
      have c4b1 : decide (l0.length < 7) = true := decide_eq_true (by omega)
      clear c4
      (first | rw [c4b0] | (simp only [i64_w, i32_w]; rw [c4b0]) | skip)
      have H' := Aside0.mk H
      clear H
      go_wp2
      go_meet
      case rel => exact ⟨_, (true), (by first | rfl | (simp; done) | (simp [*]; done)), H', ⟨by first | omega | exact Nat.le_refl _⟩, rfl⟩
    · rw [if_neg c4] at H
      have c4b0 : decide ((l0.length : Int) < 7) = false := decide_eq_false c4
      have c4b1 : decide (l0.length < 7) = false := decide_eq_false (by omega)
      clear c4
      (first | rw [c4b0] | (simp only [i64_w, i32_w]; rw [c4b0]) | skip)
      have H' := Aside0.mk H
      clear H
      go_wp2
      go_meet
      case rel => exact ⟨_, (decide ((l0.length : Int) > 15)), (by first | rfl | (simp; done) | (simp [*]; done)), H', ⟨by first | omega | exact Nat.le_refl _⟩, rfl⟩
  case rest =>
    clear HC3
    try clear c2
    try clear p2
    try clear c4
    try clear c4b0
    try clear c4b1
    obtain ⟨kq, x13_2, rfl, HA, HJ2, rfl⟩ := hcut
    cases kq with
    | zero => exact absurd HA.out (by simp [awardingbodyref18_symbols.j0])
    | succ kj2 =>
      have H := HA.out
      clear HA
      simp only [awardingbodyref18_symbols.j0] at H
      by_cases c5 : x13_2 = true
      · subst c5
        have H1 : (some false) = some r := by rw [if_pos rfl] at H; exact H
        clear H
        have H := H1
        clear H1
        obtain rfl := Option.some.inj H
        go_wp2
        go_ret
        exact ⟨by first | rfl | (simp; done) | (simp [*]; done), rfl⟩
      · replace c5 := Bool.eq_false_iff.mpr c5
        subst c5
        have H1 : (awardingbodyref18_symbols.l0 kj2 l0 a1 0) = some r := by rw [if_neg (show ¬ (false = true) by decide)] at H; exact H
        clear H
        have H := H1
        clear H1
        have H' := Aside0.mk H
        clear H
        go_wp2
        go_loopg [5] kj2 (fun kq v5 w' => ∃ (x5_2 : Int), v5 = .int .i64 x5_2 ∧ Aside0 (awardingbodyref18_symbols.l0 kq l0 a1 x5_2 = some r) ∧ Aside0 (kq ≤ kj2) ∧ w = w')
        case atStart => exact ⟨(0), (by first | rfl | (simp; done) | (simp [*]; done)), H', ⟨Nat.le_refl _⟩, rfl⟩
        case round =>
          clear H'
          try clear c2
          try clear p2
          try clear c4
          try clear c4b0
          try clear c4b1
          try clear c5
          try clear p2
          obtain ⟨x5_2, rfl, HA, HK2, rfl⟩ := hrel
          cases gk with
          | zero => exact absurd HA.out (by simp [awardingbodyref18_symbols.l0])
          | succ k2 =>
            have H := HA.out
            clear HA
            simp only [awardingbodyref18_symbols.l0] at H
            by_cases c6 : x5_2 < (l0.length : Int)
            · rw [if_pos c6] at H
              have c6b0 : decide (x5_2 < (l0.length : Int)) = true := decide_eq_true c6
              clear c6
              by_cases c7 : 0 ≤ x5_2
              · rw [if_pos c7] at H
                have c7b0 : decide (0 ≤ x5_2) = true := decide_eq_true c7
                clear c7
                by_cases c8 : (rd l0 x5_2) < a1
                · rw [if_pos c8] at H
                  have c8b0 : decide ((rd l0 x5_2) < a1) = true := decide_eq_true c8
                  clear c8
                  obtain rfl := Option.some.inj H
                  have p101 : 0 ≤ (x5_2 : Int) := of_decide_eq_true (by first | (with_reducible assumption) | assumption)
                  have q101 : x5_2 < (l0.length : Int) := of_decide_eq_true (by first | (with_reducible assumption) | assumption)
                  obtain ⟨ad101, e101, hx101_0⟩ := Kd.at_int HR0.out x5_2 p101 q101
                  cases e101
                  replace p101 := eq_true p101
                  replace q101 := eq_true q101
                  go_wp2
                  go_ret
                  exact ⟨by first | rfl | (simp; done) | (simp [*]; done), rfl⟩
                · rw [if_neg c8] at H
                  have c8b0 : decide ((rd l0 x5_2) < a1) = false := decide_eq_false c8
                  clear c8
                  by_cases c9 : (rd l0 x5_2) > 31
                  · rw [if_pos c9] at H
                    have c9b0 : decide (31 < (rd l0 x5_2)) = true := decide_eq_true c9
                    clear c9
                    obtain rfl := Option.some.inj H
                    have p101 : 0 ≤ (x5_2 : Int) := of_decide_eq_true (by first | (with_reducible assumption) | assumption)
                    have q101 : x5_2 < (l0.length : Int) := of_decide_eq_true (by first | (with_reducible assumption) | assumption)
                    obtain ⟨ad101, e101, hx101_0⟩ := Kd.at_int HR0.out x5_2 p101 q101
                    cases e101
                    replace p101 := eq_true p101
                    replace q101 := eq_true q101
                    have p102 : 0 ≤ (x5_2 : Int) := of_decide_eq_true (by first | (with_reducible assumption) | assumption)
                    have q102 : x5_2 < (l0.length : Int) := of_decide_eq_true (by first | (with_reducible assumption) | assumption)
                    obtain ⟨ad102, e102, hx102_0⟩ := Kd.at_int HR0.out x5_2 p102 q102
                    obtain rfl : ad101 = ad102 := (by injection e102)
                    replace p102 := eq_true p102
                    replace q102 := eq_true q102
                    go_wp2
                    go_ret
                    exact ⟨by first | rfl | (simp; done) | (simp [*]; done), rfl⟩
                  · rw [if_neg c9] at H
                    have c9b0 : decide (31 < (rd l0 x5_2)) = false := decide_eq_false c9
                    clear c9
                    have H' := Aside0.mk H
                    clear H
                    have p101 : 0 ≤ (x5_2 : Int) := of_decide_eq_true (by first | (with_reducible assumption) | assumption)
                    have q101 : x5_2 < (l0.length : Int) := of_decide_eq_true (by first | (with_reducible assumption) | assumption)
                    obtain ⟨ad101, e101, hx101_0⟩ := Kd.at_int HR0.out x5_2 p101 q101
                    cases e101
                    replace p101 := eq_true p101
                    replace q101 := eq_true q101
                    have p102 : 0 ≤ (x5_2 : Int) := of_decide_eq_true (by first | (with_reducible assumption) | assumption)
                    have q102 : x5_2 < (l0.length : Int) := of_decide_eq_true (by first | (with_reducible assumption) | assumption)
                    obtain ⟨ad102, e102, hx102_0⟩ := Kd.at_int HR0.out x5_2 p102 q102
                    obtain rfl : ad101 = ad102 := (by injection e102)
                    replace p102 := eq_true p102
                    replace q102 := eq_true q102
                    go_wp2
                    go_roundg k2
                    case measure => have := HJ2.out; have := HK2.out; omega
                    case rel => exact ⟨(wrap64 (x5_2 + 1)), (by first | rfl | (simp; done) | (simp [*]; done)), H', ⟨by have := HJ2.out; have := HK2.out; omega⟩, rfl⟩
              · rw [if_neg c7] at H
                exact absurd H (by simp)
            · rw [if_neg c6] at H
              have c6b0 : decide (x5_2 < (l0.length : Int)) = false := decide_eq_false c6
              clear c6
              obtain rfl := Option.some.inj H
              go_wp2
              go_ret
              exact ⟨by first | rfl | (simp; done) | (simp [*]; done), rfl⟩
def awardingbodyref18_element.f (a0 : Int) : Option (Bool) := if a0 ≥ 0 then (some (decide (a0 < 32))) else (some false)
set_option maxHeartbeats 8000000 in
set_option maxRecDepth 100000 in
theorem awardingbodyref18_element.calls (a0 : Int) (r : Bool) (w : World) (h : awardingbodyref18_element.f a0 = some r) :
    Calls Tryz.prog 169 #[.int .i64 a0] w fun e w' => e = .returned (.bool r) ∧ w = w' := by
  have H : (if a0 ≥ 0 then (some (decide (a0 < 32))) else (some false)) = some r := h
  clear h
  by_cases c2 : a0 ≥ 0
  · rw [if_pos c2] at H
    have c2b0 : decide (0 ≤ a0) = true := decide_eq_true c2
    clear c2
    obtain rfl := Option.some.inj H
    go_enter Tryz.func169, Tryz.ntmps169
    go_wp2
    go_ret
    exact ⟨by first | rfl | (simp; done) | (simp [*]; done), rfl⟩
  · rw [if_neg c2] at H
    have c2b0 : decide (0 ≤ a0) = false := decide_eq_false c2
    clear c2
    obtain rfl := Option.some.inj H
    go_enter Tryz.func169, Tryz.ntmps169
    go_wp2
    go_ret
    exact ⟨by first | rfl | (simp; done) | (simp [*]; done), rfl⟩
mutual
def awardingbodyref18_Mul.j0 : Nat → Int → Int → Bool → Option (Int)
  | 0, _, _, _ => none
  | k + 1, x0, x1, x15 => if x15 = true then (some 0) else (awardingbodyref18_Mul.l0 k x0 x1 0 0)
def awardingbodyref18_Mul.l0 : Nat → Int → Int → Int → Int → Option (Int)
  | 0, _, _, _, _ => none
  | k + 1, x0, x1, x5, x6 => if x6 < 5 then (if 0 ≤ (IntKind.u64.wrap (x6)) then (if (Go.bits .and .i64 (shr .i64 x1 (IntKind.u64.wrap (x6))) 1) = 1 then (awardingbodyref18_Mul.l0 k x0 x1 (Go.bits .xor .i64 x5 (shl .i64 x0 (IntKind.u64.wrap (x6)))) (wrap64 (x6 + 1))) else (awardingbodyref18_Mul.l0 k x0 x1 x5 (wrap64 (x6 + 1)))) else (none)) else (awardingbodyref18_Mul.l1 k x5 8)
def awardingbodyref18_Mul.l1 : Nat → Int → Int → Option (Int)
  | 0, _, _ => none
  | k + 1, x5, x7 => if x7 ≥ 5 then (if 0 ≤ (IntKind.u64.wrap (x7)) then (if (Go.bits .and .i64 (shr .i64 x5 (IntKind.u64.wrap (x7))) 1) = 1 then (if 0 ≤ (IntKind.u64.wrap (wrap64 (x7 - 5))) then (awardingbodyref18_Mul.l1 k (Go.bits .xor .i64 x5 (shl .i64 37 (IntKind.u64.wrap (wrap64 (x7 - 5))))) (wrap64 (x7 - 1))) else (none)) else (awardingbodyref18_Mul.l1 k x5 (wrap64 (x7 - 1)))) else (none)) else (some x5)
end
def awardingbodyref18_Mul.f (k : Nat) (a0 : Int) (a1 : Int) : Option (Int) := (awardingbodyref18_element.f a0).bind fun t103 => (if t103 = true then ((awardingbodyref18_element.f a1).bind fun t104 => (awardingbodyref18_Mul.j0 k a0 a1 (!t104))) else (awardingbodyref18_Mul.j0 k a0 a1 true))
theorem awardingbodyref18_Mul.mono_l : ∀ k, (∀ y0 y1 y2, LeO (awardingbodyref18_Mul.j0 k y0 y1 y2) (awardingbodyref18_Mul.j0 (k + 1) y0 y1 y2)) ∧ (∀ y0 y1 y2 y3, LeO (awardingbodyref18_Mul.l0 k y0 y1 y2 y3) (awardingbodyref18_Mul.l0 (k + 1) y0 y1 y2 y3)) ∧ (∀ y0 y1, LeO (awardingbodyref18_Mul.l1 k y0 y1) (awardingbodyref18_Mul.l1 (k + 1) y0 y1))
  | 0 => ⟨fun _ _ _ r h => by simp [awardingbodyref18_Mul.j0] at h, fun _ _ _ _ r h => by simp [awardingbodyref18_Mul.l0] at h, fun _ _ r h => by simp [awardingbodyref18_Mul.l1] at h⟩
  | k + 1 => by
    obtain ⟨ih0, ih1, ih2⟩ := awardingbodyref18_Mul.mono_l k
    refine ⟨?_, ?_, ?_⟩
    · intro y0 y1 y2
      unfold awardingbodyref18_Mul.j0
      repeat' first
      | (with_reducible exact ih0 _ _ _)
      | (with_reducible exact ih1 _ _ _ _)
      | (with_reducible exact ih2 _ _)
      | (with_reducible exact LeO.refl _)
      | (with_reducible exact LeO.none _)
      | (with_reducible refine LeO.ite ?_ ?_)
      | (with_reducible refine LeO.bind ?_ (fun _ => ?_))
      | exact ih0 _ _ _
      | exact ih1 _ _ _ _
      | exact ih2 _ _
      | exact LeO.none _
      | refine LeO.ite ?_ ?_
      | refine LeO.bind ?_ (fun _ => ?_)
    · intro y0 y1 y2 y3
      unfold awardingbodyref18_Mul.l0
      repeat' first
      | (with_reducible exact ih0 _ _ _)
      | (with_reducible exact ih1 _ _ _ _)
      | (with_reducible exact ih2 _ _)
      | (with_reducible exact LeO.refl _)
      | (with_reducible exact LeO.none _)
      | (with_reducible refine LeO.ite ?_ ?_)
      | (with_reducible refine LeO.bind ?_ (fun _ => ?_))
      | exact ih0 _ _ _
      | exact ih1 _ _ _ _
      | exact ih2 _ _
      | exact LeO.none _
      | refine LeO.ite ?_ ?_
      | refine LeO.bind ?_ (fun _ => ?_)
    · intro y0 y1
      unfold awardingbodyref18_Mul.l1
      repeat' first
      | (with_reducible exact ih0 _ _ _)
      | (with_reducible exact ih1 _ _ _ _)
      | (with_reducible exact ih2 _ _)
      | (with_reducible exact LeO.refl _)
      | (with_reducible exact LeO.none _)
      | (with_reducible refine LeO.ite ?_ ?_)
      | (with_reducible refine LeO.bind ?_ (fun _ => ?_))
      | exact ih0 _ _ _
      | exact ih1 _ _ _ _
      | exact ih2 _ _
      | exact LeO.none _
      | refine LeO.ite ?_ ?_
      | refine LeO.bind ?_ (fun _ => ?_)
theorem awardingbodyref18_Mul.mono : ∀ a0 a1 k, LeO (awardingbodyref18_Mul.f k a0 a1) (awardingbodyref18_Mul.f (k + 1) a0 a1) := by
  intro a0 a1 k
  obtain ⟨ih0, ih1, ih2⟩ := awardingbodyref18_Mul.mono_l k
  unfold awardingbodyref18_Mul.f
  repeat' first
      | (with_reducible exact ih0 _ _ _)
      | (with_reducible exact ih1 _ _ _ _)
      | (with_reducible exact ih2 _ _)
      | (with_reducible exact LeO.refl _)
      | (with_reducible exact LeO.none _)
      | (with_reducible refine LeO.ite ?_ ?_)
      | (with_reducible refine LeO.bind ?_ (fun _ => ?_))
      | exact ih0 _ _ _
      | exact ih1 _ _ _ _
      | exact ih2 _ _
      | exact LeO.none _
      | refine LeO.ite ?_ ?_
      | refine LeO.bind ?_ (fun _ => ?_)
set_option maxHeartbeats 8000000 in
set_option maxRecDepth 100000 in
theorem awardingbodyref18_Mul.calls (k : Nat) (a0 : Int) (a1 : Int) (r : Int) (w : World) (h : awardingbodyref18_Mul.f k a0 a1 = some r) :
    Calls Tryz.prog 231 #[.int .i64 a0, .int .i64 a1] w fun e w' => e = .returned (.int .i64 r) ∧ w = w' := by
  have H : ((awardingbodyref18_element.f a0).bind fun t103 => (if t103 = true then ((awardingbodyref18_element.f a1).bind fun t104 => (awardingbodyref18_Mul.j0 k a0 a1 (!t104))) else (awardingbodyref18_Mul.j0 k a0 a1 true))) = some r := h
  clear h
  have HC3 := Aside0.mk H
  clear H
  go_enter Tryz.func231, Tryz.ntmps231
  go_upto_region 1 with (fail)
  go_cut [15] (fun v15 wc => ∃ (kq : Nat) (x15_2 : Bool), v15 = .bool x15_2 ∧ Aside0 (awardingbodyref18_Mul.j0 kq a0 a1 x15_2 = some r) ∧ Aside0 (kq ≤ k) ∧ w = wc)
  case first =>
    have H := HC3.out
    clear HC3
    replace H := Option.bind_eq_some_iff.mp H
    obtain ⟨t103, A40, H⟩ := H
    replace H : (if t103 = true then ((awardingbodyref18_element.f a1).bind fun t104 => (awardingbodyref18_Mul.j0 k a0 a1 (!t104))) else (awardingbodyref18_Mul.j0 k a0 a1 true)) = some r := H
    have A4 := Aside0.mk A40
    clear A40
    by_cases c5 : t103 = true
    · subst c5
      have H1 : ((awardingbodyref18_element.f a1).bind fun t104 => (awardingbodyref18_Mul.j0 k a0 a1 (!t104))) = some r := by rw [if_pos rfl] at H; exact H
      clear H
      have H := H1
      clear H1
      replace H := Option.bind_eq_some_iff.mp H
      obtain ⟨t104, A60, H⟩ := H
      replace H : (awardingbodyref18_Mul.j0 k a0 a1 (!t104)) = some r := H
      have A6 := Aside0.mk A60
      clear A60
      have H' := Aside0.mk H
      clear H
      go_wp2_with (first | ((with_reducible refine gate_callee (f := 169) rfl ?_); refine goesL_ (some 9) rfl rfl Tryz.func169 (by kernel_rfl) rfl #[.int .i64 a0] rfl (by (try simp only [List.map_toArray, List.map_cons, List.map_nil]); first | done | rfl | (simp only [List.length_drop, List.length_take]; rfl)) ?_; (with_reducible refine (awardingbodyref18_element.calls a0 true _ A4.out).mono ?_); rintro e w' ⟨rfl, rfl⟩; refine ⟨_, rfl, ?_⟩) | (go_at_call 169; (with_reducible refine (awardingbodyref18_element.calls a1 t104 _ A6.out).mono ?_); rintro e w' ⟨rfl, rfl⟩))
      go_meet
      case rel => exact ⟨_, (!t104), (by first | rfl | (simp; done) | (simp [*]; done)), H', ⟨by first | omega | exact Nat.le_refl _⟩, rfl⟩
    · replace c5 := Bool.eq_false_iff.mpr c5
      subst c5
      have H1 : (awardingbodyref18_Mul.j0 k a0 a1 true) = some r := by rw [if_neg (show ¬ (false = true) by decide)] at H; exact H
      clear H
      have H := H1
      clear H1
      have H' := Aside0.mk H
      clear H
      go_wp2_with (first | ((with_reducible refine gate_callee (f := 169) rfl ?_); refine goesL_ (some 9) rfl rfl Tryz.func169 (by kernel_rfl) rfl #[.int .i64 a0] rfl (by (try simp only [List.map_toArray, List.map_cons, List.map_nil]); first | done | rfl | (simp only [List.length_drop, List.length_take]; rfl)) ?_; (with_reducible refine (awardingbodyref18_element.calls a0 false _ A4.out).mono ?_); rintro e w' ⟨rfl, rfl⟩; refine ⟨_, rfl, ?_⟩))
      go_meet
      case rel => exact ⟨_, (true), (by first | rfl | (simp; done) | (simp [*]; done)), H', ⟨by first | omega | exact Nat.le_refl _⟩, rfl⟩
  case rest =>
    clear HC3
    try clear c1
    try clear c2
    try clear p2
    try clear c5
    obtain ⟨kq, x15_2, rfl, HA, HJ2, rfl⟩ := hcut
    cases kq with
    | zero => exact absurd HA.out (by simp [awardingbodyref18_Mul.j0])
    | succ kj2 =>
      have H := HA.out
      clear HA
      simp only [awardingbodyref18_Mul.j0] at H
      by_cases c7 : x15_2 = true
      · subst c7
        have H1 : (some 0) = some r := by rw [if_pos rfl] at H; exact H
        clear H
        have H := H1
        clear H1
        obtain rfl := Option.some.inj H
        go_wp2
        go_ret
        exact ⟨by first | rfl | (simp; done) | (simp [*]; done), rfl⟩
      · replace c7 := Bool.eq_false_iff.mpr c7
        subst c7
        have H1 : (awardingbodyref18_Mul.l0 kj2 a0 a1 0 0) = some r := by rw [if_neg (show ¬ (false = true) by decide)] at H; exact H
        clear H
        have H := H1
        clear H1
        have H' := Aside0.mk H
        clear H
        go_wp2
        go_loopg [5, 6] kj2 (fun kq v5 v6 w' => ∃ (x5_2 : Int) (x6_2 : Int), v5 = .int .i64 x5_2 ∧ v6 = .int .i64 x6_2 ∧ Aside0 (awardingbodyref18_Mul.l0 kq a0 a1 x5_2 x6_2 = some r) ∧ Aside0 (kq ≤ kj2) ∧ w = w')
        case atStart => exact ⟨(0), (0), (by first | rfl | (simp; done) | (simp [*]; done)), (by first | rfl | (simp; done) | (simp [*]; done)), H', ⟨Nat.le_refl _⟩, rfl⟩
        case round =>
          clear H'
          try clear c1
          try clear c2
          try clear p2
          try clear c5
          try clear c7
          try clear p2
          obtain ⟨x5_2, x6_2, rfl, rfl, HA, HK2, rfl⟩ := hrel
          cases gk with
          | zero => exact absurd HA.out (by simp [awardingbodyref18_Mul.l0])
          | succ k2 =>
            have H := HA.out
            clear HA
            simp only [awardingbodyref18_Mul.l0] at H
            by_cases c8 : x6_2 < 5
            · rw [if_pos c8] at H
              have c8b0 : decide (x6_2 < 5) = true := decide_eq_true c8
              clear c8
              obtain ⟨ji9, hji9⟩ : ∃ j_ : Int, (IntKind.u64.wrap (x6_2)) = j_ := ⟨_, rfl⟩
              replace H : (if 0 ≤ (ji9) then (if (Go.bits .and .i64 (shr .i64 a1 (ji9)) 1) = 1 then (awardingbodyref18_Mul.l0 k2 a0 a1 (Go.bits .xor .i64 x5_2 (shl .i64 a0 (ji9))) (wrap64 (x6_2 + 1))) else (awardingbodyref18_Mul.l0 k2 a0 a1 x5_2 (wrap64 (x6_2 + 1)))) else (none)) = some r := by first | (rw [hji9] at H; exact H) | (simp only [hji9] at H ⊢; exact H)
              by_cases c10 : 0 ≤ (ji9)
              · rw [if_pos c10] at H
                have c10b0 := eq_true c10
                have c10b1 : decide (0 ≤ (ji9)) = true := decide_eq_true c10
                clear c10
                obtain ⟨ji11, hji11⟩ : ∃ j_ : Int, (shr .i64 a1 (ji9)) = j_ := ⟨_, rfl⟩
                replace H : (if (Go.bits .and .i64 (ji11) 1) = 1 then (awardingbodyref18_Mul.l0 k2 a0 a1 (Go.bits .xor .i64 x5_2 (shl .i64 a0 (ji9))) (wrap64 (x6_2 + 1))) else (awardingbodyref18_Mul.l0 k2 a0 a1 x5_2 (wrap64 (x6_2 + 1)))) = some r := by first | (rw [hji11] at H; exact H) | (simp only [hji11] at H ⊢; exact H)
                have hji11_ : (a1 / 2 ^ min (ji9).toNat 64) = ji11 := hji11
                have hji11z : (ji9) ≤ 64 → (a1 / 2 ^ (ji9).toNat) = ji11 := shr_small hji11
                by_cases c12 : (Go.bits .and .i64 (ji11) 1) = 1
                · rw [if_pos c12] at H
                  have c12b0 : ((Go.bits .and .i64 (ji11) 1) == 1) = true := beq_iff_eq.mpr c12
                  have c12b1 : ((Go.bits .and .i64 (ji11) 1) != 1) = false := bne_eq_false_iff_eq.mpr c12
                  clear c12
                  have c13b0 := eq_true (of_decide_eq_true (by first | (with_reducible assumption) | assumption) : 0 ≤ (ji9))
                  obtain ⟨ji14, hji14⟩ : ∃ j_ : Int, (shl .i64 a0 (ji9)) = j_ := ⟨_, rfl⟩
                  replace H : (awardingbodyref18_Mul.l0 k2 a0 a1 (Go.bits .xor .i64 x5_2 (ji14)) (wrap64 (x6_2 + 1))) = some r := by first | (rw [hji14] at H; exact H) | (simp only [hji14] at H ⊢; exact H)
                  have hji14_ : (IntKind.i64.wrap (a0 * 2 ^ min (ji9).toNat 64)) = ji14 := hji14
                  have hji14z : (ji9) ≤ 64 → (IntKind.i64.wrap (a0 * 2 ^ (ji9).toNat)) = ji14 := shl_small hji14
                  have hji14y : (wrap64 (a0 * 2 ^ min (ji9).toNat 64)) = ji14 := (i64_w _).symm.trans hji14_
                  have hji14x : (ji9) ≤ 64 → (wrap64 (a0 * 2 ^ (ji9).toNat)) = ji14 := fun h_ => (i64_w _).symm.trans (hji14z h_)
                  have H' := Aside0.mk H
                  clear H
                  go_wp2
                  go_roundg k2
                  case measure => have := HJ2.out; have := HK2.out; omega
                  case rel => exact ⟨(Go.bits .xor .i64 x5_2 (ji14)), (wrap64 (x6_2 + 1)), (by first | rfl | (simp; done) | (simp only [← hji14] <;> (first | rfl | simp)) | (simp [*]; done)), (by first | rfl | (simp; done) | (simp [*]; done)), H', ⟨by have := HJ2.out; have := HK2.out; omega⟩, rfl⟩
                · rw [if_neg c12] at H
                  have c12b0 : ((Go.bits .and .i64 (ji11) 1) == 1) = false := beq_eq_false_iff_ne.mpr c12
                  have c12b1 : ((Go.bits .and .i64 (ji11) 1) != 1) = true := bne_iff_ne.mpr c12
                  have H' := Aside0.mk H
                  clear H
                  go_wp2
                  go_roundg k2
                  case measure => have := HJ2.out; have := HK2.out; omega
                  case rel => exact ⟨(x5_2), (wrap64 (x6_2 + 1)), (by first | rfl | (simp; done) | (simp [*]; done)), (by first | rfl | (simp; done) | (simp [*]; done)), H', ⟨by have := HJ2.out; have := HK2.out; omega⟩, rfl⟩
              · rw [if_neg c10] at H
                exact absurd H (by simp)
            · rw [if_neg c8] at H
              have c8b0 : decide (x6_2 < 5) = false := decide_eq_false c8
              clear c8
              have H' := Aside0.mk H
              clear H
              go_wp2
              go_loopg [5, 7] k2 (fun kq v5 v7 w' => ∃ (x5_3 : Int) (x7_3 : Int), v5 = .int .i64 x5_3 ∧ v7 = .int .i64 x7_3 ∧ Aside0 (awardingbodyref18_Mul.l1 kq x5_3 x7_3 = some r) ∧ Aside0 (kq ≤ k2) ∧ w = w')
              case atStart => exact ⟨(x5_2), (8), (by first | rfl | (simp; done) | (simp [*]; done)), (by first | rfl | (simp; done) | (simp [*]; done)), H', ⟨Nat.le_refl _⟩, rfl⟩
              case round =>
                clear H'
                try clear c1
                try clear c2
                try clear p2
                try clear c5
                try clear p6
                try clear c7
                try clear c8
                try clear c8b0
                try clear c10
                try clear c10b0
                try clear c10b1
                try clear c12
                try clear c12b0
                try clear c12b1
                try clear c13
                try clear c13b0
                try clear p2
                obtain ⟨x5_3, x7_3, rfl, rfl, HA, HK3, rfl⟩ := hrel
                cases gk with
                | zero => exact absurd HA.out (by simp [awardingbodyref18_Mul.l1])
                | succ k3 =>
                  have H := HA.out
                  clear HA
                  simp only [awardingbodyref18_Mul.l1] at H
                  by_cases c15 : x7_3 ≥ 5
                  · rw [if_pos c15] at H
                    have c15b0 : decide (5 ≤ x7_3) = true := decide_eq_true c15
                    clear c15
                    obtain ⟨ji16, hji16⟩ : ∃ j_ : Int, (IntKind.u64.wrap (x7_3)) = j_ := ⟨_, rfl⟩
                    replace H : (if 0 ≤ (ji16) then (if (Go.bits .and .i64 (shr .i64 x5_3 (ji16)) 1) = 1 then (if 0 ≤ (IntKind.u64.wrap (wrap64 (x7_3 - 5))) then (awardingbodyref18_Mul.l1 k3 (Go.bits .xor .i64 x5_3 (shl .i64 37 (IntKind.u64.wrap (wrap64 (x7_3 - 5))))) (wrap64 (x7_3 - 1))) else (none)) else (awardingbodyref18_Mul.l1 k3 x5_3 (wrap64 (x7_3 - 1)))) else (none)) = some r := by first | (rw [hji16] at H; exact H) | (simp only [hji16] at H ⊢; exact H)
                    by_cases c17 : 0 ≤ (ji16)
                    · rw [if_pos c17] at H
                      have c17b0 := eq_true c17
                      have c17b1 : decide (0 ≤ (ji16)) = true := decide_eq_true c17
                      clear c17
                      obtain ⟨ji18, hji18⟩ : ∃ j_ : Int, (shr .i64 x5_3 (ji16)) = j_ := ⟨_, rfl⟩
                      replace H : (if (Go.bits .and .i64 (ji18) 1) = 1 then (if 0 ≤ (IntKind.u64.wrap (wrap64 (x7_3 - 5))) then (awardingbodyref18_Mul.l1 k3 (Go.bits .xor .i64 x5_3 (shl .i64 37 (IntKind.u64.wrap (wrap64 (x7_3 - 5))))) (wrap64 (x7_3 - 1))) else (none)) else (awardingbodyref18_Mul.l1 k3 x5_3 (wrap64 (x7_3 - 1)))) = some r := by first | (rw [hji18] at H; exact H) | (simp only [hji18] at H ⊢; exact H)
                      have hji18_ : (x5_3 / 2 ^ min (ji16).toNat 64) = ji18 := hji18
                      have hji18z : (ji16) ≤ 64 → (x5_3 / 2 ^ (ji16).toNat) = ji18 := shr_small hji18
                      by_cases c19 : (Go.bits .and .i64 (ji18) 1) = 1
                      · rw [if_pos c19] at H
                        have c19b0 : ((Go.bits .and .i64 (ji18) 1) == 1) = true := beq_iff_eq.mpr c19
                        have c19b1 : ((Go.bits .and .i64 (ji18) 1) != 1) = false := bne_eq_false_iff_eq.mpr c19
                        clear c19
                        obtain ⟨ji20, hji20⟩ : ∃ j_ : Int, (IntKind.u64.wrap (wrap64 (x7_3 - 5))) = j_ := ⟨_, rfl⟩
                        replace H : (if 0 ≤ (ji20) then (awardingbodyref18_Mul.l1 k3 (Go.bits .xor .i64 x5_3 (shl .i64 37 (ji20))) (wrap64 (x7_3 - 1))) else (none)) = some r := by first | (rw [hji20] at H; exact H) | (simp only [hji20] at H ⊢; exact H)
                        by_cases c21 : 0 ≤ (ji20)
                        · rw [if_pos c21] at H
                          have c21b0 := eq_true c21
                          have c21b1 : decide (0 ≤ (ji20)) = true := decide_eq_true c21
                          clear c21
                          obtain ⟨ji22, hji22⟩ : ∃ j_ : Int, (shl .i64 37 (ji20)) = j_ := ⟨_, rfl⟩
                          replace H : (awardingbodyref18_Mul.l1 k3 (Go.bits .xor .i64 x5_3 (ji22)) (wrap64 (x7_3 - 1))) = some r := by first | (rw [hji22] at H; exact H) | (simp only [hji22] at H ⊢; exact H)
                          have hji22_ : (IntKind.i64.wrap (37 * 2 ^ min (ji20).toNat 64)) = ji22 := hji22
                          have hji22z : (ji20) ≤ 64 → (IntKind.i64.wrap (37 * 2 ^ (ji20).toNat)) = ji22 := shl_small hji22
                          have hji22y : (wrap64 (37 * 2 ^ min (ji20).toNat 64)) = ji22 := (i64_w _).symm.trans hji22_
                          have hji22x : (ji20) ≤ 64 → (wrap64 (37 * 2 ^ (ji20).toNat)) = ji22 := fun h_ => (i64_w _).symm.trans (hji22z h_)
                          have H' := Aside0.mk H
                          clear H
                          go_wp2
                          go_roundg k3
                          case measure => have := HJ2.out; have := HK2.out; have := HK3.out; omega
                          case rel => exact ⟨(Go.bits .xor .i64 x5_3 (ji22)), (wrap64 (x7_3 - 1)), (by first | rfl | (simp; done) | (simp only [← hji22] <;> (first | rfl | simp)) | (simp [*]; done)), (by first | rfl | (simp; done) | (simp [*]; done)), H', ⟨by have := HJ2.out; have := HK2.out; have := HK3.out; omega⟩, rfl⟩
                        · rw [if_neg c21] at H
                          exact absurd H (by simp)
                      · rw [if_neg c19] at H
                        have c19b0 : ((Go.bits .and .i64 (ji18) 1) == 1) = false := beq_eq_false_iff_ne.mpr c19
                        have c19b1 : ((Go.bits .and .i64 (ji18) 1) != 1) = true := bne_iff_ne.mpr c19
                        have H' := Aside0.mk H
                        clear H
                        go_wp2
                        go_roundg k3
                        case measure => have := HJ2.out; have := HK2.out; have := HK3.out; omega
                        case rel => exact ⟨(x5_3), (wrap64 (x7_3 - 1)), (by first | rfl | (simp; done) | (simp [*]; done)), (by first | rfl | (simp; done) | (simp [*]; done)), H', ⟨by have := HJ2.out; have := HK2.out; have := HK3.out; omega⟩, rfl⟩
                    · rw [if_neg c17] at H
                      exact absurd H (by simp)
                  · rw [if_neg c15] at H
                    have c15b0 : decide (5 ≤ x7_3) = false := decide_eq_false c15
                    clear c15
                    obtain rfl := Option.some.inj H
                    go_wp2
                    go_ret
                    exact ⟨by first | rfl | (simp; done) | (simp [*]; done), rfl⟩
def awardingbodyref18_Inverse.l0 : Nat → Int → Int → Option (Int)
  | 0, _, _ => none
  | k + 1, x0, x3 => if x3 < 32 then ((awardingbodyref18_Mul.f k x0 x3).bind fun t105 => (if t105 = 1 then (some x3) else (awardingbodyref18_Inverse.l0 k x0 (wrap64 (x3 + 1))))) else (some 0)
def awardingbodyref18_Inverse.f (k : Nat) (a0 : Int) : Option (Int) := awardingbodyref18_Inverse.l0 k a0 1
set_option maxHeartbeats 8000000 in
set_option maxRecDepth 100000 in
theorem awardingbodyref18_Inverse.calls (k : Nat) (a0 : Int) (r : Int) (w : World) (h : awardingbodyref18_Inverse.f k a0 = some r) :
    Calls Tryz.prog 230 #[.int .i64 a0] w fun e w' => e = .returned (.int .i64 r) ∧ w = w' := by
  have H : (awardingbodyref18_Inverse.l0 k a0 1) = some r := h
  clear h
  have H' := Aside0.mk H
  clear H
  go_enter Tryz.func230, Tryz.ntmps230
  go_wp2
  go_loopg [3] k (fun kq v3 w' => ∃ (x3_1 : Int), v3 = .int .i64 x3_1 ∧ Aside0 (awardingbodyref18_Inverse.l0 kq a0 x3_1 = some r) ∧ Aside0 (kq ≤ k) ∧ w = w')
  case atStart => exact ⟨(1), (by first | rfl | (simp; done) | (simp [*]; done)), H', ⟨Nat.le_refl _⟩, rfl⟩
  case round =>
    clear H'
    obtain ⟨x3_1, rfl, HA, HK1, rfl⟩ := hrel
    cases gk with
    | zero => exact absurd HA.out (by simp [awardingbodyref18_Inverse.l0])
    | succ k1 =>
      have H := HA.out
      clear HA
      simp only [awardingbodyref18_Inverse.l0] at H
      by_cases c2 : x3_1 < 32
      · rw [if_pos c2] at H
        have c2b0 : decide (x3_1 < 32) = true := decide_eq_true c2
        clear c2
        replace H := Option.bind_eq_some_iff.mp H
        obtain ⟨t105, A30, H⟩ := H
        replace H : (if t105 = 1 then (some x3_1) else (awardingbodyref18_Inverse.l0 k1 a0 (wrap64 (x3_1 + 1)))) = some r := H
        have A3 := Aside0.mk A30
        clear A30
        by_cases c4 : t105 = 1
        · rw [if_pos c4] at H
          have c4b0 : (t105 == 1) = true := beq_iff_eq.mpr c4
          have c4b1 : (t105 != 1) = false := bne_eq_false_iff_eq.mpr c4
          clear c4
          obtain rfl := Option.some.inj H
          go_wp2_with (first | ((with_reducible refine gate_callee (f := 231) rfl ?_); refine goesL_ (some 10) rfl rfl Tryz.func231 (by kernel_rfl) rfl #[.int .i64 a0, .int .i64 x3_1] rfl (by (try simp only [List.map_toArray, List.map_cons, List.map_nil]); first | done | rfl | (simp only [List.length_drop, List.length_take]; rfl)) ?_; (with_reducible refine (awardingbodyref18_Mul.calls k1 a0 x3_1 t105 _ A3.out).mono ?_); rintro e w' ⟨rfl, rfl⟩; refine ⟨_, rfl, ?_⟩))
          go_ret
          exact ⟨by first | rfl | (simp; done) | (simp [*]; done), rfl⟩
        · rw [if_neg c4] at H
          have c4b0 : (t105 == 1) = false := beq_eq_false_iff_ne.mpr c4
          have c4b1 : (t105 != 1) = true := bne_iff_ne.mpr c4
          have H' := Aside0.mk H
          clear H
          go_wp2_with (first | ((with_reducible refine gate_callee (f := 231) rfl ?_); refine goesL_ (some 10) rfl rfl Tryz.func231 (by kernel_rfl) rfl #[.int .i64 a0, .int .i64 x3_1] rfl (by (try simp only [List.map_toArray, List.map_cons, List.map_nil]); first | done | rfl | (simp only [List.length_drop, List.length_take]; rfl)) ?_; (with_reducible refine (awardingbodyref18_Mul.calls k1 a0 x3_1 t105 _ A3.out).mono ?_); rintro e w' ⟨rfl, rfl⟩; refine ⟨_, rfl, ?_⟩))
          go_roundg k1
          case measure => have := HK1.out; omega
          case rel => exact ⟨(wrap64 (x3_1 + 1)), (by first | rfl | (simp; done) | (simp [*]; done)), H', ⟨by have := HK1.out; omega⟩, rfl⟩
      · rw [if_neg c2] at H
        have c2b0 : decide (x3_1 < 32) = false := decide_eq_false c2
        clear c2
        obtain rfl := Option.some.inj H
        go_wp2
        go_ret
        exact ⟨by first | rfl | (simp; done) | (simp [*]; done), rfl⟩
theorem awardingbodyref18_Mul.callsD (k : Nat) (a0 : Int) (a1 : Int) (r : Int) (w : World) (h : awardingbodyref18_Mul.f k a0 a1 = some r) :
    Calls Tryz.prog 231 #[.int .i64 a0, .int .i64 a1] w fun e w' => e = .returned (.int .i64 r) ∧ Drawn0 w w' := (awardingbodyref18_Mul.calls k a0 a1 r w h).mono fun _ _ ⟨h1, h2⟩ => ⟨h1, h2 ▸ Drawn0.refl _⟩
end Go.Proofs.YtcpmgkedmmiioaaGreatDoor.R
end
