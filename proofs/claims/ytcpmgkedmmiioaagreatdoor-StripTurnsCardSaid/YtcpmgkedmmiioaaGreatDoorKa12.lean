/- stripTurns_card, part 12: what the row's proof needs: words of the print, contracts of functions, the plain law. -/
import Derived.Test.YtcpmgkedmmiioaaGreatDoorKa11
section
set_option linter.unusedVariables false
namespace Go.Proofs.YtcpmgkedmmiioaaGreatDoor.H
open Go.RowKit Go.Proofs.YtcpmgkedmmiioaaGreatDoorW.PrintWords Go.Proofs.YtcpmgkedmmiioaaGreatDoorW.PrintLast Go.Proofs.YtcpmgkedmmiioaaGreatDoorW.PrintMore Go.Proofs.YtcpmgkedmmiioaaGreatDoor.B Go.Proofs.YtcpmgkedmmiioaaGreatDoor.Gf
/-- a number out of 0 to 31 -/
def bad31 (s : Int) : Bool := decide (s < 0) || decide (31 < s)
set_option maxHeartbeats 4000000 in
set_option maxRecDepth 100000 in
theorem valid1_calls (s : Int) (w : World) :
    Calls Tryz.prog 126 #[.int .i64 s] w fun e w' => e = .returned (.bool (bad31 s)) ∧ w = w' := by
  by_cases h1 : s < 0
  · have t1 : decide (s < 0) = true := decide_eq_true h1
    have HE : Aside0 (bad31 s = true) := ⟨by unfold bad31; rw [t1]; rfl⟩
    go_enter Tryz.func126, Tryz.ntmps126
    go_wp2
    go_ret
    exact ⟨by rw [HE.out]; rfl, rfl⟩
  · have t1 : decide (s < 0) = false := decide_eq_false h1
    have HE : Aside0 (bad31 s = decide (31 < s)) := ⟨by unfold bad31; rw [t1]; rfl⟩
    go_enter Tryz.func126, Tryz.ntmps126
    go_wp2
    go_ret
    exact ⟨by rw [HE.out]; rfl, rfl⟩
set_option maxHeartbeats 4000000 in
set_option maxRecDepth 100000 in
theorem indexf31_calls (A : Option Addr) (c : Nat) (l : List Int) (w : World) (hr : Kd.C (Kd.int .i64) w A l.length l) (hc : l.length ≤ c) (hl : l.length < 17592186044416) :
    Calls Tryz.prog 160 #[.slice A l.length c, .func (.func 126) #[] #[]] w fun e w' => ∃ r : Int, e = .returned (.int .i64 r) ∧ decide (0 ≤ r) = l.any bad31 ∧ w = w' := by
  have HR := Aside0.mk hr
  clear hr
  go_enter Tryz.func160, Tryz.ntmps160
  go_wp2
  go_loopg [8] l.length (fun g v8 wx => ∃ k : Nat, k ≤ l.length ∧ v8 = .int .i64 k ∧ Aside0 (g = l.length - k) ∧ Aside0 (w = wx) ∧ Aside0 ((l.take k).any bad31 = false))
  case atStart => exact ⟨0, Nat.zero_le _, rfl, ⟨rfl⟩, ⟨rfl⟩, ⟨rfl⟩⟩
  case round =>
    obtain ⟨k, hk, rfl, HG, HW, HN⟩ := hrel
    replace HW := HW.out
    subst HW
    by_cases hkl : k < l.length
    · have t1 : decide ((k : Int) < (l.length : Int)) = true := decide_eq_true (by omega)
      obtain ⟨ad, e, hc1⟩ := Kd.at_int HR.out (k : Int) (by omega) (by omega)
      cases e
      simp only [Int.toNat_natCast] at hc1
      have p1 := eq_true (show (0 : Int) ≤ (k : Int) by omega)
      have q1 := eq_true (show (k : Int) < (l.length : Int) by omega)
      have HE : Aside0 ((l.take (k + 1)).any bad31 = bad31 (rd l (k : Int))) := ⟨by
        rw [List.take_succ_eq_append_getElem hkl, List.any_append, HN.out]
        simp [rd, hkl]⟩
      cases hb : bad31 (rd l (k : Int)) with
      | true =>
        have HB := Aside0.mk hb
        clear hb
        go_wp2_with (first | (go_at_call 126; refine (valid1_calls _ _).mono ?_; rintro e w1 ⟨rfl, rfl⟩; rw [HB.out]))
        go_ret
        refine ⟨_, rfl, ?_, rfl⟩
        rw [decide_eq_true (by omega)]
        have h1 := HE.out
        rw [HB.out] at h1
        have := List.any_eq_true.1 h1
        obtain ⟨y, hy, hy2⟩ := this
        exact (List.any_eq_true.2 ⟨y, List.mem_of_mem_take hy, hy2⟩).symm
      | false =>
        have HB := Aside0.mk hb
        clear hb
        go_wp2_with (first | (go_at_call 126; refine (valid1_calls _ _).mono ?_; rintro e w1 ⟨rfl, rfl⟩; rw [HB.out]))
        go_roundg (l.length - (k + 1))
        case measure => have := HG.out; omega
        case rel => exact ⟨k + 1, by omega, by first | rfl | (simp; done), ⟨rfl⟩, ⟨rfl⟩, ⟨by rw [HE.out, HB.out]⟩⟩
    · have t1 : decide ((k : Int) < (l.length : Int)) = false := decide_eq_false (by omega)
      obtain rfl : k = l.length := by omega
      go_wp2
      go_ret
      refine ⟨_, rfl, ?_, rfl⟩
      have := HN.out
      rw [List.take_length] at this
      rw [this]; rfl
set_option maxHeartbeats 4000000 in
set_option maxRecDepth 100000 in
theorem containsf31_calls (A : Option Addr) (c : Nat) (l : List Int) (w : World) (hr : Kd.C (Kd.int .i64) w A l.length l) (hc : l.length ≤ c) (hl : l.length < 17592186044416) :
    Calls Tryz.prog 105 #[.slice A l.length c, .func (.func 126) #[] #[]] w fun e w' => e = .returned (.bool (l.any bad31)) ∧ w = w' := by
  have HR := Aside0.mk hr
  clear hr
  go_enter Tryz.func105, Tryz.ntmps105
  go_wp2_with (first | (go_at_call 160; refine (indexf31_calls A c l _ HR.out hc hl).mono ?_; rintro e w1 ⟨r, rfl, hr, rfl⟩; have HB := Aside0.mk hr; clear hr))
  go_ret
  refine ⟨?_, rfl⟩
  rw [← HB.out]; rfl
/-- a label's numbers are in their ranges -/
def labelf (a b c d : Int) : Bool := !bad31 a && !bad31 c && !bad31 d && decide (0 ≤ b) && decide (b ≤ 9999)
theorem any31 (a c d : Int) : ([a, c, d] : List Int).any bad31 = (bad31 a || (bad31 c || (bad31 d || false))) := rfl
theorem lit_C (w : World) (k : IntKind) (xs : List Int) (e : TypeId) (hm : xs.length ≤ 9223372036854775807) : Kd.C (Kd.int k) (w.alloc (.cells (nums k xs).toArray e)) (some ⟨w.heap.size, 0, none⟩) xs.length xs := by
  have := Kd.R_reads' (Kd.R_of_own (enc := Value.int k) (h1 := fun _ => rfl) (ok := fun _ => True) (own_lit w w.heap.size e k xs (Nat.le_refl _) hm) (fun _ _ => trivial))
  exact this.2.2
set_option maxHeartbeats 4000000 in
set_option maxRecDepth 100000 in
theorem valid_calls (a b c d : Int) (w : World) :
    Calls Tryz.prog 58 #[.agg #[.int .i64 a, .int .i64 b, .int .i64 c, .int .i64 d]] w fun e w' => e = .returned (.bool (labelf a b c d)) ∧ Below w.heap.size w w' := by
  have HC : Aside0 (Kd.C (Kd.int .i64) ((w.alloc (.cells #[.int .i64 a, .int .i64 b, .int .i64 c, .int .i64 d] 29)).alloc (.cells #[.int .i64 a, .int .i64 c, .int .i64 d] 3)) (some ⟨w.heap.size + 1, 0, none⟩) [a, c, d].length [a, c, d]) := ⟨by
    have := lit_C (w.alloc (.cells #[.int .i64 a, .int .i64 b, .int .i64 c, .int .i64 d] 29)) .i64 [a, c, d] 3 (by simp)
    rw [World.size_alloc] at this
    exact this⟩
  have HB0 : Aside0 (Below w.heap.size w ((w.alloc (.cells #[.int .i64 a, .int .i64 b, .int .i64 c, .int .i64 d] 29)).alloc (.cells #[.int .i64 a, .int .i64 c, .int .i64 d] 3))) := ⟨below_alloc (below_alloc (Below.refl _ _) _) _⟩
  cases ha : ([a, c, d] : List Int).any bad31 with
  | true =>
    have HE : Aside0 (labelf a b c d = false) := ⟨by
      rw [any31] at ha
      unfold labelf
      cases h1 : bad31 a <;> cases h2 : bad31 c <;> cases h3 : bad31 d <;> simp_all⟩
    have HA := Aside0.mk ha
    clear ha
    go_enter Tryz.func58, Tryz.ntmps58
    go_wp2_with (first | (go_at_call 105; refine (containsf31_calls (some ⟨w.heap.size + 1, 0, none⟩) 3 [a, c, d] _ HC.out (by simp) (by simp)).mono ?_; rintro e w1 ⟨rfl, rfl⟩; rw [HA.out]))
    go_ret
    exact ⟨by rw [HE.out]; rfl, HB0.out⟩
  | false =>
    have HE : Aside0 (labelf a b c d = (decide (0 ≤ b) && decide (b ≤ 9999))) := ⟨by
      rw [any31] at ha
      unfold labelf
      cases h1 : bad31 a <;> cases h2 : bad31 c <;> cases h3 : bad31 d <;> simp_all⟩
    have HA := Aside0.mk ha
    clear ha
    by_cases hb : 0 ≤ b
    · have t1 : decide (0 ≤ b) = true := decide_eq_true hb
      rw [t1, Bool.true_and] at HE
      go_enter Tryz.func58, Tryz.ntmps58
      go_wp2_with (first | (go_at_call 105; refine (containsf31_calls (some ⟨w.heap.size + 1, 0, none⟩) 3 [a, c, d] _ HC.out (by simp) (by simp)).mono ?_; rintro e w1 ⟨rfl, rfl⟩; rw [HA.out]))
      go_ret
      exact ⟨by rw [HE.out]; rfl, HB0.out⟩
    · have t1 : decide (0 ≤ b) = false := decide_eq_false hb
      rw [t1, Bool.false_and] at HE
      go_enter Tryz.func58, Tryz.ntmps58
      go_wp2_with (first | (go_at_call 105; refine (containsf31_calls (some ⟨w.heap.size + 1, 0, none⟩) 3 [a, c, d] _ HC.out (by simp) (by simp)).mono ?_; rintro e w1 ⟨rfl, rfl⟩; rw [HA.out]))
      go_ret
      exact ⟨by rw [HE.out]; rfl, HB0.out⟩
/-- a label's symbols -/
def symf (a b c d : Int) : List Int := [a, b / 1024, b / 32 % 32, b % 32, c, d]
set_option maxHeartbeats 4000000 in
set_option maxRecDepth 100000 in
theorem symbols_calls (a b c d : Int) (w : World) :
    Calls Tryz.prog 127 #[.agg #[.int .i64 a, .int .i64 b, .int .i64 c, .int .i64 d]] w fun e w' => Below w.heap.size w w' ∧ ((labelf a b c d = false ∧ e = .returned (.tuple #[.slice none 0 0, .int .i64 2])) ∨
      (labelf a b c d = true ∧ ∃ A, e = .returned (.tuple #[.slice A (symf a b c d).length 6, .int .i64 0]) ∧ Kd.C (Kd.int .i64) w' A (symf a b c d).length (symf a b c d))) := by
  have HB0 : Aside0 (Below w.heap.size w (w.alloc (.cells #[.int .i64 a, .int .i64 b, .int .i64 c, .int .i64 d] 29))) := ⟨below_alloc (Below.refl _ _) _⟩
  have c0 : (w.alloc (.cells #[.int .i64 a, .int .i64 b, .int .i64 c, .int .i64 d] 29)).cell? ⟨w.heap.size, 0, none⟩ = some (.int .i64 a) := by unfold World.cell?; rw [heap_alloc_new]; rfl
  have c1 : (w.alloc (.cells #[.int .i64 a, .int .i64 b, .int .i64 c, .int .i64 d] 29)).cell? ⟨w.heap.size, 1, none⟩ = some (.int .i64 b) := by unfold World.cell?; rw [heap_alloc_new]; rfl
  have c2 : (w.alloc (.cells #[.int .i64 a, .int .i64 b, .int .i64 c, .int .i64 d] 29)).cell? ⟨w.heap.size, 2, none⟩ = some (.int .i64 c) := by unfold World.cell?; rw [heap_alloc_new]; rfl
  have c3 : (w.alloc (.cells #[.int .i64 a, .int .i64 b, .int .i64 c, .int .i64 d] 29)).cell? ⟨w.heap.size, 3, none⟩ = some (.int .i64 d) := by unfold World.cell?; rw [heap_alloc_new]; rfl
  have HC0 := Aside0.mk c0
  have HC1 := Aside0.mk c1
  have HC2 := Aside0.mk c2
  have HC3 := Aside0.mk c3
  clear c0 c1 c2 c3
  cases hl : labelf a b c d with
  | false =>
    have HL := Aside0.mk hl
    clear hl
    go_enter Tryz.func127, Tryz.ntmps127
    go_wp2_with (first | (go_at_call 58; refine (valid_calls a b c d _).mono ?_; rintro e w1 ⟨rfl, hb⟩; rw [HL.out]; have HB1 := Aside0.mk hb; clear hb))
    go_ret2
    exact ⟨HB0.out.trans (HB1.out.mono HB0.out.size), .inl ⟨by first | rfl | trivial, rfl⟩⟩
  | true =>
    have HL := Aside0.mk hl
    have hb : 0 ≤ b ∧ b ≤ 9999 := by unfold labelf at hl; simp only [Bool.and_eq_true, decide_eq_true_eq] at hl; exact ⟨hl.1.2, hl.2⟩
    obtain ⟨hb0, hb9⟩ := hb
    clear hl
    have q1 : Int.tdiv b 1024 = b / 1024 := Int.tdiv_eq_ediv_of_nonneg hb0
    have q2 : Int.tdiv b 32 = b / 32 := Int.tdiv_eq_ediv_of_nonneg hb0
    have q3 : Int.tmod b 32 = b % 32 := Int.tmod_eq_emod_of_nonneg hb0
    have q4 : Int.tmod (b / 32) 32 = b / 32 % 32 := Int.tmod_eq_emod_of_nonneg (by omega)
    go_enter Tryz.func127, Tryz.ntmps127
    go_wp2_with (first | (go_at_call 58; refine (valid_calls a b c d _).mono ?_; rintro e w1 ⟨rfl, hb⟩; rw [HL.out]; have HB1 := Aside0.mk hb; have c0 := (hb.cell (World.block_lt_of_cell? _ _ HC0.out)).trans HC0.out; have c1 := (hb.cell (World.block_lt_of_cell? _ _ HC1.out)).trans HC1.out; have c2 := (hb.cell (World.block_lt_of_cell? _ _ HC2.out)).trans HC2.out; have c3 := (hb.cell (World.block_lt_of_cell? _ _ HC3.out)).trans HC3.out; clear hb))
    go_ret2
    refine ⟨below_alloc (HB0.out.trans (HB1.out.mono HB0.out.size)) _, .inr ⟨by first | rfl | trivial, some ⟨w1.heap.size, 0, none⟩, rfl, ?_⟩⟩
    exact lit_C w1 .i64 (symf a b c d) 3 (by simp [symf])
end Go.Proofs.YtcpmgkedmmiioaaGreatDoor.H
end
