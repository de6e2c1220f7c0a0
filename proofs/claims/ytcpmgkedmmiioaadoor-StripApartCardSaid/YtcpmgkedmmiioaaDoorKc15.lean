/- stripApart_card, part 15: what the row's proof needs: words of the print, contracts of functions, the plain law. -/
import Derived.Test.YtcpmgkedmmiioaaDoorKc1
import Derived.Test.YtcpmgkedmmiioaaDoorKc14
section
namespace Go.Proofs.YtcpmgkedmmiioaaDoor.P
open Go.RowKit Go.Proofs.YtcpmgkedmmiioaaDoorW.PrintWords Go.Proofs.YtcpmgkedmmiioaaDoorW.PrintLast Go.Proofs.YtcpmgkedmmiioaaDoorW.PrintMore
attribute [local go_sem] max2_int min2_int max_two min_two max_three min_three max_four min_four   -- for this text's walks alone
set_option linter.unusedVariables false
set_option linter.unusedSimpArgs false
def strip_Upright.f (a0 : ByteArray) : Option (ByteArray × Int) := (strip_valid.f a0).bind fun t165 => (if t165 = true then ((strip_Flip.f a0).bind fun t166 => ((strip_begins.f a0).bind fun t167 => (if t167 = true then (some (a0, 0)) else ((strip_begins.f t166).bind fun t168 => (if t168 = true then (some (t166, 0)) else (some ((⟨#[]⟩ : ByteArray), 26))))))) else (some ((⟨#[]⟩ : ByteArray), 7)))
set_option maxHeartbeats 8000000 in
set_option maxRecDepth 100000 in
theorem strip_Upright.calls (a0 : ByteArray) (r1 : ByteArray) (r2 : Int) (w : World) (h : strip_Upright.f a0 = some (r1, r2)) :
    Calls Tryd.prog 20 #[.string a0] w fun e w' => e = .returned (.tuple #[.string r1, .int .i64 r2]) ∧ Below w.heap.size w w' := by
  have HB := Aside0.mk (Below.refl w.heap.size w)
  have H : ((strip_valid.f a0).bind fun t165 => (if t165 = true then ((strip_Flip.f a0).bind fun t166 => ((strip_begins.f a0).bind fun t167 => (if t167 = true then (some (a0, 0)) else ((strip_begins.f t166).bind fun t168 => (if t168 = true then (some (t166, 0)) else (some ((⟨#[]⟩ : ByteArray), 26))))))) else (some ((⟨#[]⟩ : ByteArray), 7)))) = some (r1, r2) := h
  clear h
  replace H := Option.bind_eq_some_iff.mp H
  obtain ⟨t165, A20, H⟩ := H
  replace H : (if t165 = true then ((strip_Flip.f a0).bind fun t166 => ((strip_begins.f a0).bind fun t167 => (if t167 = true then (some (a0, 0)) else ((strip_begins.f t166).bind fun t168 => (if t168 = true then (some (t166, 0)) else (some ((⟨#[]⟩ : ByteArray), 26))))))) else (some ((⟨#[]⟩ : ByteArray), 7))) = some (r1, r2) := H
  have A2 := Aside0.mk A20
  clear A20
  by_cases c3 : t165 = true
  · subst c3
    have H1 : ((strip_Flip.f a0).bind fun t166 => ((strip_begins.f a0).bind fun t167 => (if t167 = true then (some (a0, 0)) else ((strip_begins.f t166).bind fun t168 => (if t168 = true then (some (t166, 0)) else (some ((⟨#[]⟩ : ByteArray), 26))))))) = some (r1, r2) := by rw [if_pos rfl] at H; exact H
    clear H
    have H := H1
    clear H1
    replace H := Option.bind_eq_some_iff.mp H
    obtain ⟨t166, A40, H⟩ := H
    replace H : ((strip_begins.f a0).bind fun t167 => (if t167 = true then (some (a0, 0)) else ((strip_begins.f t166).bind fun t168 => (if t168 = true then (some (t166, 0)) else (some ((⟨#[]⟩ : ByteArray), 26)))))) = some (r1, r2) := H
    have A4 := Aside0.mk A40
    clear A40
    replace H := Option.bind_eq_some_iff.mp H
    obtain ⟨t167, A50, H⟩ := H
    replace H : (if t167 = true then (some (a0, 0)) else ((strip_begins.f t166).bind fun t168 => (if t168 = true then (some (t166, 0)) else (some ((⟨#[]⟩ : ByteArray), 26))))) = some (r1, r2) := H
    have A5 := Aside0.mk A50
    clear A50
    by_cases c6 : t167 = true
    · subst c6
      have H1 : (some (a0, 0)) = some (r1, r2) := by rw [if_pos rfl] at H; exact H
      clear H
      have H := H1
      clear H1
      simp only [Option.some.injEq, Prod.mk.injEq] at H
      obtain ⟨rfl, rfl⟩ := H
      go_enter Tryd.func20, Tryd.ntmps20
      go_wp2_with (first | ((with_reducible refine gate_callee (f := 38) rfl ?_); refine goesL_ (some 6) rfl rfl Tryd.func38 (by kernel_rfl) rfl #[.string a0] rfl (by (try simp only [List.map_toArray, List.map_cons, List.map_nil]); first | done | rfl | (simp only [List.length_drop, List.length_take]; rfl)) ?_; (with_reducible refine (strip_valid.calls a0 true _ A2.out).mono ?_); rintro e w7 ⟨rfl, hb⟩; refine ⟨_, rfl, ?_⟩; have n0_ := Aside0.mk (below_step (by repeat (first | (with_reducible first | exact HB.out | apply below_alloc | apply pw_below_drewN | apply below_drew1) | exact HB.out)) hb); clear HB; have HB := n0_; clear n0_; (try clear hb); (try clear hb2); (try clear hk); (try clear hi)) | ((with_reducible refine gate_callee (f := 17) rfl ?_); refine goesL_ (some 9) rfl rfl Tryd.func17 (by kernel_rfl) rfl #[.string a0] rfl (by (try simp only [List.map_toArray, List.map_cons, List.map_nil]); first | done | rfl | (simp only [List.length_drop, List.length_take]; rfl)) ?_; (with_reducible refine (strip_Flip.calls a0 t166 _ A4.out).mono ?_); rintro e w8 ⟨rfl, hb⟩; refine ⟨_, rfl, ?_⟩; have n0_ := Aside0.mk (below_step (by repeat (first | (with_reducible first | exact HB.out | apply below_alloc | apply pw_below_drewN | apply below_drew1) | exact HB.out)) hb); clear HB; have HB := n0_; clear n0_; (try clear hb); (try clear hb2); (try clear hk); (try clear hi)) | ((with_reducible refine gate_callee (f := 40) rfl ?_); refine goesL_ (some 12) rfl rfl Tryd.func40 (by kernel_rfl) rfl #[.string a0] rfl (by (try simp only [List.map_toArray, List.map_cons, List.map_nil]); first | done | rfl | (simp only [List.length_drop, List.length_take]; rfl)) ?_; (with_reducible refine (strip_begins.calls a0 true _ A5.out).mono ?_); rintro e w9 ⟨rfl, hb⟩; refine ⟨_, rfl, ?_⟩; have n0_ := Aside0.mk (below_step (by repeat (first | (with_reducible first | exact HB.out | apply below_alloc | apply pw_below_drewN | apply below_drew1) | exact HB.out)) hb); clear HB; have HB := n0_; clear n0_; (try clear hb); (try clear hb2); (try clear hk); (try clear hi)))
      go_ret2
      exact ⟨by first | rfl | (simp [errW_none, errW_some] <;> rfl) | (simp [*, errW_none, errW_some] <;> rfl), by repeat (first | (with_reducible first | exact HB.out | apply below_alloc | apply pw_below_drewN | apply below_drew1) | exact HB.out)⟩
    · replace c6 := Bool.eq_false_iff.mpr c6
      subst c6
      have H1 : ((strip_begins.f t166).bind fun t168 => (if t168 = true then (some (t166, 0)) else (some ((⟨#[]⟩ : ByteArray), 26)))) = some (r1, r2) := by rw [if_neg (show ¬ (false = true) by decide)] at H; exact H
      clear H
      have H := H1
      clear H1
      replace H := Option.bind_eq_some_iff.mp H
      obtain ⟨t168, A100, H⟩ := H
      replace H : (if t168 = true then (some (t166, 0)) else (some ((⟨#[]⟩ : ByteArray), 26))) = some (r1, r2) := H
      have A10 := Aside0.mk A100
      clear A100
      by_cases c11 : t168 = true
      · subst c11
        have H1 : (some (t166, 0)) = some (r1, r2) := by rw [if_pos rfl] at H; exact H
        clear H
        have H := H1
        clear H1
        simp only [Option.some.injEq, Prod.mk.injEq] at H
        obtain ⟨rfl, rfl⟩ := H
        go_enter Tryd.func20, Tryd.ntmps20
        go_wp2_with (first | ((with_reducible refine gate_callee (f := 38) rfl ?_); refine goesL_ (some 6) rfl rfl Tryd.func38 (by kernel_rfl) rfl #[.string a0] rfl (by (try simp only [List.map_toArray, List.map_cons, List.map_nil]); first | done | rfl | (simp only [List.length_drop, List.length_take]; rfl)) ?_; (with_reducible refine (strip_valid.calls a0 true _ A2.out).mono ?_); rintro e w12 ⟨rfl, hb⟩; refine ⟨_, rfl, ?_⟩; have n0_ := Aside0.mk (below_step (by repeat (first | (with_reducible first | exact HB.out | apply below_alloc | apply pw_below_drewN | apply below_drew1) | exact HB.out)) hb); clear HB; have HB := n0_; clear n0_; (try clear hb); (try clear hb2); (try clear hk); (try clear hi)) | ((with_reducible refine gate_callee (f := 17) rfl ?_); refine goesL_ (some 9) rfl rfl Tryd.func17 (by kernel_rfl) rfl #[.string a0] rfl (by (try simp only [List.map_toArray, List.map_cons, List.map_nil]); first | done | rfl | (simp only [List.length_drop, List.length_take]; rfl)) ?_; (with_reducible refine (strip_Flip.calls a0 t166 _ A4.out).mono ?_); rintro e w13 ⟨rfl, hb⟩; refine ⟨_, rfl, ?_⟩; have n0_ := Aside0.mk (below_step (by repeat (first | (with_reducible first | exact HB.out | apply below_alloc | apply pw_below_drewN | apply below_drew1) | exact HB.out)) hb); clear HB; have HB := n0_; clear n0_; (try clear hb); (try clear hb2); (try clear hk); (try clear hi)) | ((with_reducible refine gate_callee (f := 40) rfl ?_); refine goesL_ (some 12) rfl rfl Tryd.func40 (by kernel_rfl) rfl #[.string a0] rfl (by (try simp only [List.map_toArray, List.map_cons, List.map_nil]); first | done | rfl | (simp only [List.length_drop, List.length_take]; rfl)) ?_; (with_reducible refine (strip_begins.calls a0 false _ A5.out).mono ?_); rintro e w14 ⟨rfl, hb⟩; refine ⟨_, rfl, ?_⟩; have n0_ := Aside0.mk (below_step (by repeat (first | (with_reducible first | exact HB.out | apply below_alloc | apply pw_below_drewN | apply below_drew1) | exact HB.out)) hb); clear HB; have HB := n0_; clear n0_; (try clear hb); (try clear hb2); (try clear hk); (try clear hi)) | ((with_reducible refine gate_callee (f := 40) rfl ?_); refine goesL_ (some 16) rfl rfl Tryd.func40 (by kernel_rfl) rfl #[.string t166] rfl (by (try simp only [List.map_toArray, List.map_cons, List.map_nil]); first | done | rfl | (simp only [List.length_drop, List.length_take]; rfl)) ?_; (with_reducible refine (strip_begins.calls t166 true _ A10.out).mono ?_); rintro e w15 ⟨rfl, hb⟩; refine ⟨_, rfl, ?_⟩; have n0_ := Aside0.mk (below_step (by repeat (first | (with_reducible first | exact HB.out | apply below_alloc | apply pw_below_drewN | apply below_drew1) | exact HB.out)) hb); clear HB; have HB := n0_; clear n0_; (try clear hb); (try clear hb2); (try clear hk); (try clear hi)))
        go_ret2
        exact ⟨by first | rfl | (simp [errW_none, errW_some] <;> rfl) | (simp [*, errW_none, errW_some] <;> rfl), by repeat (first | (with_reducible first | exact HB.out | apply below_alloc | apply pw_below_drewN | apply below_drew1) | exact HB.out)⟩
      · replace c11 := Bool.eq_false_iff.mpr c11
        subst c11
        have H1 : (some ((⟨#[]⟩ : ByteArray), 26)) = some (r1, r2) := by rw [if_neg (show ¬ (false = true) by decide)] at H; exact H
        clear H
        have H := H1
        clear H1
        simp only [Option.some.injEq, Prod.mk.injEq] at H
        obtain ⟨rfl, rfl⟩ := H
        go_enter Tryd.func20, Tryd.ntmps20
        go_wp2_with (first | ((with_reducible refine gate_callee (f := 38) rfl ?_); refine goesL_ (some 6) rfl rfl Tryd.func38 (by kernel_rfl) rfl #[.string a0] rfl (by (try simp only [List.map_toArray, List.map_cons, List.map_nil]); first | done | rfl | (simp only [List.length_drop, List.length_take]; rfl)) ?_; (with_reducible refine (strip_valid.calls a0 true _ A2.out).mono ?_); rintro e w16 ⟨rfl, hb⟩; refine ⟨_, rfl, ?_⟩; have n0_ := Aside0.mk (below_step (by repeat (first | (with_reducible first | exact HB.out | apply below_alloc | apply pw_below_drewN | apply below_drew1) | exact HB.out)) hb); clear HB; have HB := n0_; clear n0_; (try clear hb); (try clear hb2); (try clear hk); (try clear hi)) | ((with_reducible refine gate_callee (f := 17) rfl ?_); refine goesL_ (some 9) rfl rfl Tryd.func17 (by kernel_rfl) rfl #[.string a0] rfl (by (try simp only [List.map_toArray, List.map_cons, List.map_nil]); first | done | rfl | (simp only [List.length_drop, List.length_take]; rfl)) ?_; (with_reducible refine (strip_Flip.calls a0 t166 _ A4.out).mono ?_); rintro e w17 ⟨rfl, hb⟩; refine ⟨_, rfl, ?_⟩; have n0_ := Aside0.mk (below_step (by repeat (first | (with_reducible first | exact HB.out | apply below_alloc | apply pw_below_drewN | apply below_drew1) | exact HB.out)) hb); clear HB; have HB := n0_; clear n0_; (try clear hb); (try clear hb2); (try clear hk); (try clear hi)) | ((with_reducible refine gate_callee (f := 40) rfl ?_); refine goesL_ (some 12) rfl rfl Tryd.func40 (by kernel_rfl) rfl #[.string a0] rfl (by (try simp only [List.map_toArray, List.map_cons, List.map_nil]); first | done | rfl | (simp only [List.length_drop, List.length_take]; rfl)) ?_; (with_reducible refine (strip_begins.calls a0 false _ A5.out).mono ?_); rintro e w18 ⟨rfl, hb⟩; refine ⟨_, rfl, ?_⟩; have n0_ := Aside0.mk (below_step (by repeat (first | (with_reducible first | exact HB.out | apply below_alloc | apply pw_below_drewN | apply below_drew1) | exact HB.out)) hb); clear HB; have HB := n0_; clear n0_; (try clear hb); (try clear hb2); (try clear hk); (try clear hi)) | ((with_reducible refine gate_callee (f := 40) rfl ?_); refine goesL_ (some 16) rfl rfl Tryd.func40 (by kernel_rfl) rfl #[.string t166] rfl (by (try simp only [List.map_toArray, List.map_cons, List.map_nil]); first | done | rfl | (simp only [List.length_drop, List.length_take]; rfl)) ?_; (with_reducible refine (strip_begins.calls t166 false _ A10.out).mono ?_); rintro e w19 ⟨rfl, hb⟩; refine ⟨_, rfl, ?_⟩; have n0_ := Aside0.mk (below_step (by repeat (first | (with_reducible first | exact HB.out | apply below_alloc | apply pw_below_drewN | apply below_drew1) | exact HB.out)) hb); clear HB; have HB := n0_; clear n0_; (try clear hb); (try clear hb2); (try clear hk); (try clear hi)))
        go_ret2
        exact ⟨by first | rfl | (simp [errW_none, errW_some] <;> rfl) | (simp [*, errW_none, errW_some] <;> rfl), by repeat (first | (with_reducible first | exact HB.out | apply below_alloc | apply pw_below_drewN | apply below_drew1) | exact HB.out)⟩
  · replace c3 := Bool.eq_false_iff.mpr c3
    subst c3
    have H1 : (some ((⟨#[]⟩ : ByteArray), 7)) = some (r1, r2) := by rw [if_neg (show ¬ (false = true) by decide)] at H; exact H
    clear H
    have H := H1
    clear H1
    simp only [Option.some.injEq, Prod.mk.injEq] at H
    obtain ⟨rfl, rfl⟩ := H
    go_enter Tryd.func20, Tryd.ntmps20
    go_wp2_with (first | ((with_reducible refine gate_callee (f := 38) rfl ?_); refine goesL_ (some 6) rfl rfl Tryd.func38 (by kernel_rfl) rfl #[.string a0] rfl (by (try simp only [List.map_toArray, List.map_cons, List.map_nil]); first | done | rfl | (simp only [List.length_drop, List.length_take]; rfl)) ?_; (with_reducible refine (strip_valid.calls a0 false _ A2.out).mono ?_); rintro e w20 ⟨rfl, hb⟩; refine ⟨_, rfl, ?_⟩; have n0_ := Aside0.mk (below_step (by repeat (first | (with_reducible first | exact HB.out | apply below_alloc | apply pw_below_drewN | apply below_drew1) | exact HB.out)) hb); clear HB; have HB := n0_; clear n0_; (try clear hb); (try clear hb2); (try clear hk); (try clear hi)))
    go_ret2
    exact ⟨by first | rfl | (simp [errW_none, errW_some] <;> rfl) | (simp [*, errW_none, errW_some] <;> rfl), by repeat (first | (with_reducible first | exact HB.out | apply below_alloc | apply pw_below_drewN | apply below_drew1) | exact HB.out)⟩
def strip_Read.f (a0 : ByteArray) : Option (Int × Int × Int × Int × Int × Int) := (strip_Upright.f a0).bind fun bt170 => (if bt170.2 = 0 then ((strip_Word.f bt170.1).bind fun bt172 => ((rscode_Decode.f bt172.1).bind fun bt176 => (if bt176.2.2 = 0 then (if 0 < (bt176.1.length : Int) then (if 1 < (bt176.1.length : Int) then (if 2 < (bt176.1.length : Int) then (if 3 < (bt176.1.length : Int) then (if 4 < (bt176.1.length : Int) then (if 5 < (bt176.1.length : Int) then ((strip_Valid.f (rd bt176.1 0) (wrap64 ((wrap64 ((wrap64 ((rd bt176.1 1) * 1024)) + (wrap64 ((rd bt176.1 2) * 32)))) + (rd bt176.1 3))) (rd bt176.1 4) (rd bt176.1 5)).bind fun t187 => (if t187 = true then (some (rd bt176.1 0, wrap64 ((wrap64 ((wrap64 ((rd bt176.1 1) * 1024)) + (wrap64 ((rd bt176.1 2) * 32)))) + (rd bt176.1 3)), rd bt176.1 4, rd bt176.1 5, bt176.2.1, 0)) else (some (0, 0, 0, 0, 0, 2)))) else (none)) else (none)) else (none)) else (none)) else (none)) else (none)) else (some (0, 0, 0, 0, 0, bt176.2.2))))) else (some (0, 0, 0, 0, 0, bt170.2)))
def strip_Read.T8 : Bool × List (List Nat × List Nat) := (true, [([], []), ([0], [0]), ([1], [1]), ([], []), ([3], [3]), ([4], [4]), ([5], [5]), ([], []), ([7], [7]), ([8], [8]), ([9], [9]), ([6, 10], [6, 10]), ([], []), ([12], [12]), ([13], [13]), ([11, 14], [11, 14]), ([], []), ([16], [16]), ([17], [17]), ([], []), ([19], [19]), ([20], [20]), ([2, 15, 18, 21], [2, 15, 18, 21]), ([22, 0, 1, 2, 3, 4, 5, 6, 7, 8, 9, 10, 11, 12, 13, 14, 15, 16, 17, 18, 19, 20, 21, 22], [22])])
def strip_Read.B8 : List Nat := [0, 1, 3, 0, 8, 24, 56, 0, 128, 384, 896, 2040, 0, 4096, 12288, 32760, 0, 65536, 196608, 0, 524288, 1572864, 4194303, 8388607]
theorem strip_Read.tab8 : rtab .any (opsOf Tryd.f9 8) = strip_Read.T8 := by kernel_rfl
theorem strip_Read.bits8 : waitsOk strip_Read.T8.2 strip_Read.B8 = true := by kernel_rfl
set_option maxHeartbeats 8000000 in
set_option maxRecDepth 100000 in
theorem strip_Read.calls (a0 : ByteArray) (r1 : Int) (r2 : Int) (r3 : Int) (r4 : Int) (r5 : Int) (r6 : Int) (w : World) (h : strip_Read.f a0 = some (r1, r2, r3, r4, r5, r6)) :
    Calls Tryd.prog 9 #[.string a0] w fun e w' => e = .returned (.tuple #[.agg #[.int .i64 r1, .int .i64 r2, .int .i64 r3, .int .i64 r4], .int .i64 r5, .int .i64 r6]) ∧ Below w.heap.size w w' := by
  have hu29 := Tryd.underlying29
  have HB := Aside0.mk (Below.refl w.heap.size w)
  have H : ((strip_Upright.f a0).bind fun bt170 => (if bt170.2 = 0 then ((strip_Word.f bt170.1).bind fun bt172 => ((rscode_Decode.f bt172.1).bind fun bt176 => (if bt176.2.2 = 0 then (if 0 < (bt176.1.length : Int) then (if 1 < (bt176.1.length : Int) then (if 2 < (bt176.1.length : Int) then (if 3 < (bt176.1.length : Int) then (if 4 < (bt176.1.length : Int) then (if 5 < (bt176.1.length : Int) then ((strip_Valid.f (rd bt176.1 0) (wrap64 ((wrap64 ((wrap64 ((rd bt176.1 1) * 1024)) + (wrap64 ((rd bt176.1 2) * 32)))) + (rd bt176.1 3))) (rd bt176.1 4) (rd bt176.1 5)).bind fun t187 => (if t187 = true then (some (rd bt176.1 0, wrap64 ((wrap64 ((wrap64 ((rd bt176.1 1) * 1024)) + (wrap64 ((rd bt176.1 2) * 32)))) + (rd bt176.1 3)), rd bt176.1 4, rd bt176.1 5, bt176.2.1, 0)) else (some (0, 0, 0, 0, 0, 2)))) else (none)) else (none)) else (none)) else (none)) else (none)) else (none)) else (some (0, 0, 0, 0, 0, bt176.2.2))))) else (some (0, 0, 0, 0, 0, bt170.2)))) = some (r1, r2, r3, r4, r5, r6) := h
  clear h
  replace H := Option.bind_eq_some_iff.mp H
  obtain ⟨⟨t170, t171⟩, A20, H⟩ := H
  replace H : (if t171 = 0 then ((strip_Word.f t170).bind fun bt172 => ((rscode_Decode.f bt172.1).bind fun bt176 => (if bt176.2.2 = 0 then (if 0 < (bt176.1.length : Int) then (if 1 < (bt176.1.length : Int) then (if 2 < (bt176.1.length : Int) then (if 3 < (bt176.1.length : Int) then (if 4 < (bt176.1.length : Int) then (if 5 < (bt176.1.length : Int) then ((strip_Valid.f (rd bt176.1 0) (wrap64 ((wrap64 ((wrap64 ((rd bt176.1 1) * 1024)) + (wrap64 ((rd bt176.1 2) * 32)))) + (rd bt176.1 3))) (rd bt176.1 4) (rd bt176.1 5)).bind fun t187 => (if t187 = true then (some (rd bt176.1 0, wrap64 ((wrap64 ((wrap64 ((rd bt176.1 1) * 1024)) + (wrap64 ((rd bt176.1 2) * 32)))) + (rd bt176.1 3)), rd bt176.1 4, rd bt176.1 5, bt176.2.1, 0)) else (some (0, 0, 0, 0, 0, 2)))) else (none)) else (none)) else (none)) else (none)) else (none)) else (none)) else (some (0, 0, 0, 0, 0, bt176.2.2))))) else (some (0, 0, 0, 0, 0, t171))) = some (r1, r2, r3, r4, r5, r6) := H
  have A2 := Aside0.mk A20
  clear A20
  by_cases c3 : t171 = 0
  · rw [if_pos c3] at H
    have c3b0 : (t171 == 0) = true := beq_iff_eq.mpr c3
    have c3b1 : (t171 != 0) = false := bne_eq_false_iff_eq.mpr c3
    clear c3
    replace H := Option.bind_eq_some_iff.mp H
    obtain ⟨⟨t172, t173⟩, A40, H⟩ := H
    replace H : ((rscode_Decode.f t172).bind fun bt176 => (if bt176.2.2 = 0 then (if 0 < (bt176.1.length : Int) then (if 1 < (bt176.1.length : Int) then (if 2 < (bt176.1.length : Int) then (if 3 < (bt176.1.length : Int) then (if 4 < (bt176.1.length : Int) then (if 5 < (bt176.1.length : Int) then ((strip_Valid.f (rd bt176.1 0) (wrap64 ((wrap64 ((wrap64 ((rd bt176.1 1) * 1024)) + (wrap64 ((rd bt176.1 2) * 32)))) + (rd bt176.1 3))) (rd bt176.1 4) (rd bt176.1 5)).bind fun t187 => (if t187 = true then (some (rd bt176.1 0, wrap64 ((wrap64 ((wrap64 ((rd bt176.1 1) * 1024)) + (wrap64 ((rd bt176.1 2) * 32)))) + (rd bt176.1 3)), rd bt176.1 4, rd bt176.1 5, bt176.2.1, 0)) else (some (0, 0, 0, 0, 0, 2)))) else (none)) else (none)) else (none)) else (none)) else (none)) else (none)) else (some (0, 0, 0, 0, 0, bt176.2.2)))) = some (r1, r2, r3, r4, r5, r6) := H
    have A4 := Aside0.mk A40
    clear A40
    replace H := Option.bind_eq_some_iff.mp H
    obtain ⟨⟨t176, t177, t178⟩, A50, H⟩ := H
    replace H : (if t178 = 0 then (if 0 < (t176.length : Int) then (if 1 < (t176.length : Int) then (if 2 < (t176.length : Int) then (if 3 < (t176.length : Int) then (if 4 < (t176.length : Int) then (if 5 < (t176.length : Int) then ((strip_Valid.f (rd t176 0) (wrap64 ((wrap64 ((wrap64 ((rd t176 1) * 1024)) + (wrap64 ((rd t176 2) * 32)))) + (rd t176 3))) (rd t176 4) (rd t176 5)).bind fun t187 => (if t187 = true then (some (rd t176 0, wrap64 ((wrap64 ((wrap64 ((rd t176 1) * 1024)) + (wrap64 ((rd t176 2) * 32)))) + (rd t176 3)), rd t176 4, rd t176 5, t177, 0)) else (some (0, 0, 0, 0, 0, 2)))) else (none)) else (none)) else (none)) else (none)) else (none)) else (none)) else (some (0, 0, 0, 0, 0, t178))) = some (r1, r2, r3, r4, r5, r6) := H
    have A5 := Aside0.mk A50
    clear A50
    by_cases c6 : t178 = 0
    · rw [if_pos c6] at H
      have c6b0 : (t178 == 0) = true := beq_iff_eq.mpr c6
      have c6b1 : (t178 != 0) = false := bne_eq_false_iff_eq.mpr c6
      clear c6
      by_cases c7 : 0 < (t176.length : Int)
      · rw [if_pos c7] at H
        have c7b0 : decide (0 < (t176.length : Int)) = true := decide_eq_true c7
        have c7b1 : decide (0 < t176.length) = true := decide_eq_true (by omega)
        clear c7
        by_cases c8 : 1 < (t176.length : Int)
        · rw [if_pos c8] at H
          have c8b0 : decide (1 < (t176.length : Int)) = true := decide_eq_true c8
          have c8b1 : decide (1 < t176.length) = true := decide_eq_true (by omega)
          clear c8
          by_cases c9 : 2 < (t176.length : Int)
          · rw [if_pos c9] at H
            have c9b0 : decide (2 < (t176.length : Int)) = true := decide_eq_true c9
            have c9b1 : decide (2 < t176.length) = true := decide_eq_true (by omega)
            clear c9
            by_cases c10 : 3 < (t176.length : Int)
            · rw [if_pos c10] at H
              have c10b0 : decide (3 < (t176.length : Int)) = true := decide_eq_true c10
              have c10b1 : decide (3 < t176.length) = true := decide_eq_true (by omega)
              clear c10
              by_cases c11 : 4 < (t176.length : Int)
              · rw [if_pos c11] at H
                have c11b0 : decide (4 < (t176.length : Int)) = true := decide_eq_true c11
                have c11b1 : decide (4 < t176.length) = true := decide_eq_true (by omega)
                clear c11
                by_cases c12 : 5 < (t176.length : Int)
                · rw [if_pos c12] at H
                  have c12b0 : decide (5 < (t176.length : Int)) = true := decide_eq_true c12
                  have c12b1 : decide (5 < t176.length) = true := decide_eq_true (by omega)
                  clear c12
                  replace H := Option.bind_eq_some_iff.mp H
                  obtain ⟨t187, A130, H⟩ := H
                  replace H : (if t187 = true then (some (rd t176 0, wrap64 ((wrap64 ((wrap64 ((rd t176 1) * 1024)) + (wrap64 ((rd t176 2) * 32)))) + (rd t176 3)), rd t176 4, rd t176 5, t177, 0)) else (some (0, 0, 0, 0, 0, 2))) = some (r1, r2, r3, r4, r5, r6) := H
                  have A13 := Aside0.mk A130
                  clear A130
                  by_cases c14 : t187 = true
                  · subst c14
                    have H1 : (some (rd t176 0, wrap64 ((wrap64 ((wrap64 ((rd t176 1) * 1024)) + (wrap64 ((rd t176 2) * 32)))) + (rd t176 3)), rd t176 4, rd t176 5, t177, 0)) = some (r1, r2, r3, r4, r5, r6) := by rw [if_pos rfl] at H; exact H
                    clear H
                    have H := H1
                    clear H1
                    simp only [Option.some.injEq, Prod.mk.injEq] at H
                    obtain ⟨rfl, rfl, rfl, rfl, rfl, rfl⟩ := H
                    go_enter Tryd.func9, Tryd.ntmps9
                    try go_wp2_with (first | ((with_reducible refine gate_dst (N := 2) rfl ?_); refine box_event ?hg (N := 2) ?hd (cs := #[.int .i64 0, .int .i64 0, .int .i64 0, .int .i64 0]) (t := 29) ?hr ?_; (case hd => rfl); (case hg => rfl); (case hr => first | (go_simp; done) | (go_simp; rfl)); intro gb169 hg w15 hbox hb; have n0_ := Aside0.mk (below_step (by repeat (first | (with_reducible first | exact HB.out | apply below_alloc | apply pw_below_drewN | apply below_drew1) | exact HB.out)) hb); have n1_ := Aside0.mk (hbox); have n2_ := Aside0.mk ((by rw [hg]; exact (below_size (by repeat (first | (with_reducible first | exact HB.out | apply below_alloc | apply pw_below_drewN | apply below_drew1) | exact HB.out))) : w.heap.size ≤ gb169)); have n3_ := Aside0.mk ((by rw [hg]; exact (below_size (by repeat (first | (with_reducible first | exact HB.out | apply below_alloc | apply pw_below_drewN | apply below_drew1) | exact HB.out))) : w.heap.size ≤ gb169)); clear HB; have HB := n0_; have BK169 := n1_; have GW169 := n2_; have GE169 := n3_; clear n0_ n1_ n2_ n3_; clear hb hbox hg) | ((with_reducible refine gate_callee (f := 20) rfl ?_); refine goesL_ (some 10) rfl rfl Tryd.func20 (by kernel_rfl) rfl #[.string a0] rfl (by (try simp only [List.map_toArray, List.map_cons, List.map_nil]); first | done | rfl | (simp only [List.length_drop, List.length_take]; rfl)) ?_; (with_reducible refine (strip_Upright.calls a0 t170 t171 _ A2.out).mono ?_); rintro e w16 ⟨rfl, hb⟩; refine ⟨_, rfl, ?_⟩; have n0_ := Aside0.mk (blk_below (g := gb169) (o := .cells #[.int .i64 0, .int .i64 0, .int .i64 0, .int .i64 0] 29 (0, 0)) (by (with_reducible repeat (first | refine blk_drewN ?_ _ | refine blk_drew ?_ | refine blk_alloc ?_ _)); exact BK169.out) hb); have n1_ := Aside0.mk (below_step (by repeat (first | (with_reducible first | exact HB.out | apply below_alloc | apply pw_below_drewN | apply below_drew1 | refine below_set ?_ GE169.out) | exact HB.out)) hb); clear BK169; clear HB; have BK169 := n0_; have HB := n1_; clear n0_ n1_; (try clear hb); (try clear hb2); (try clear hk); (try clear hi)) | ((with_reducible refine gate_callee (f := 18) rfl ?_); refine goesL_ (some 19) rfl rfl Tryd.func18 (by kernel_rfl) rfl #[.string t170] rfl (by (try simp only [List.map_toArray, List.map_cons, List.map_nil]); first | done | rfl | (simp only [List.length_drop, List.length_take]; rfl)) ?_; (with_reducible refine (strip_Word.calls t170 t172 t173 _ A4.out).mono ?_); rintro e w17 ⟨v174, rfl, ho0, hb⟩; refine ⟨_, rfl, ?_⟩; have n0_ := Aside0.mk (Kd.R_lower ho0 (below_size (by repeat (first | (with_reducible first | exact HB.out | apply below_alloc | apply pw_below_drewN | apply below_drew1 | refine below_set ?_ GE169.out) | exact HB.out)))); have n1_ := Aside0.mk (blk_below (g := gb169) (o := .cells #[.int .i64 0, .int .i64 0, .int .i64 0, .int .i64 0] 29 (0, 0)) (by (with_reducible repeat (first | refine blk_drewN ?_ _ | refine blk_drew ?_ | refine blk_alloc ?_ _)); exact BK169.out) hb); have n2_ := Aside0.mk (below_step (by repeat (first | (with_reducible first | exact HB.out | apply below_alloc | apply pw_below_drewN | apply below_drew1 | refine below_set ?_ GE169.out) | exact HB.out)) hb); clear BK169; clear HB; have HO175 := n0_; have BK169 := n1_; have HB := n2_; clear n0_ n1_ n2_; (try clear hb); (try clear hb2); (try clear hk); (try clear hi); (try clear ho0); obtain ⟨Ao18, co18, eo18⟩ := Kd.R_slice HO175.out; subst eo18) | ((with_reducible refine gate_callee (f := 26) rfl ?_); refine goesL_ (some 24) rfl rfl Tryd.func26 (by kernel_rfl) rfl #[.slice Ao18 t172.length co18] rfl (by (try simp only [List.map_toArray, List.map_cons, List.map_nil]); first | done | rfl | (simp only [List.length_drop, List.length_take]; rfl)) ?_; (with_reducible refine (rscode_Decode.calls _ _ t172 t176 t177 t178 _ ?side1 ?side2 A5.out).mono ?_); (case side1 => repeat (first | exact (Kd.R_reads' HO175.out).2.2 | (with_reducible refine Kd.C_alloc ?_ _) | (with_reducible refine Kd.C_drewN ?_ _) | (with_reducible refine Kd.C_drew ?_))); (case side2 => exact (Kd.R_reads' HO175.out).2.1); rintro e w19 ⟨v179, rfl, ho0, hb⟩; refine ⟨_, rfl, ?_⟩; have n0_ := Aside0.mk (Kd.R_elder' (by (with_reducible repeat (first | apply Kd.R_alloc | apply Kd.R_drewN | apply Kd.R_drew)); exact HO175.out) (Kd.R_base ho0) hb); have n1_ := Aside0.mk (Kd.R_lower (Kd.R_new' ho0 (Kd.R_lt (by (with_reducible repeat (first | apply Kd.R_alloc | apply Kd.R_drewN | apply Kd.R_drew)); exact HO175.out))) (below_size (by repeat (first | (with_reducible first | exact HB.out | apply below_alloc | apply pw_below_drewN | apply below_drew1 | refine below_set ?_ GE169.out) | exact HB.out)))); have n2_ := Aside0.mk (blk_below (g := gb169) (o := .cells #[.int .i64 0, .int .i64 0, .int .i64 0, .int .i64 0] 29 (0, 0)) (by (with_reducible repeat (first | refine blk_drewN ?_ _ | refine blk_drew ?_ | refine blk_alloc ?_ _)); exact BK169.out) hb); have n3_ := Aside0.mk (below_step (by repeat (first | (with_reducible first | exact HB.out | apply below_alloc | apply pw_below_drewN | apply below_drew1 | refine below_set ?_ GE169.out) | exact HB.out)) hb); clear HO175; clear BK169; clear HB; have HO175 := n0_; have HO180 := n1_; have BK169 := n2_; have HB := n3_; clear n0_ n1_ n2_ n3_; (try clear hb); (try clear hb2); (try clear hk); (try clear hi); (try clear ho0)))
                    have n0_ := Aside0.mk (Kd.R_drew HO175.out)
                    have n1_ := Aside0.mk (Kd.R_drew HO180.out)
                    have n2_ := Aside0.mk (blk_drew BK169.out)
                    have n3_ := Aside0.mk (below_drew1 HB.out)
                    clear HO175
                    clear HO180
                    clear BK169
                    clear HB
                    have HO175 := n0_
                    have HO180 := n1_
                    have BK169 := n2_
                    have HB := n3_
                    clear n0_ n1_ n2_ n3_
                    obtain ⟨Ao21, co21, eo21⟩ := Kd.R_slice HO180.out
                    (first | subst eo21 | (injection eo21 with f1_ f2_ f3_; have f4_ := f1_.symm; have f5_ := f3_.symm; clear f1_ f2_ f3_; subst f4_; subst f5_))
                    have p181 : 0 ≤ (0 : Int) := (by omega)
                    have q181 : 0 < (t176.length : Int) := of_decide_eq_true (by first | (with_reducible assumption) | assumption)
                    obtain ⟨ad181, e181, hx181_0⟩ := Kd.at_int (Kd.R_reads' HO180.out).2.2 0 p181 q181
                    cases e181
                    have qi181 : (0 < t176.length) = True := eq_true (by omega)
                    (try rw [show ((0 : Int)).toNat = 0 from rfl] at hx181_0)
                    (try rw [Addr.add_zero'] at hx181_0)
                    replace p181 := eq_true p181
                    replace q181 := eq_true q181
                    have p182 : 0 ≤ (1 : Int) := (by omega)
                    have q182 : 1 < (t176.length : Int) := of_decide_eq_true (by first | (with_reducible assumption) | assumption)
                    obtain ⟨ad182, e182, hx182_0⟩ := Kd.at_int (Kd.R_reads' HO180.out).2.2 1 p182 q182
                    obtain rfl : ad181 = ad182 := (by injection e182)
                    (try simp only [show (1 : Int).toNat = 1 from rfl, Nat.reduceMul, Nat.reduceEqDiff, Go.Addr.add, ↓reduceIte] at hx182_0)
                    have qi182 : (1 < t176.length) = True := eq_true (by omega)
                    (try rw [show ((1 : Int)).toNat = 1 from rfl] at hx182_0)
                    replace p182 := eq_true p182
                    replace q182 := eq_true q182
                    have p183 : 0 ≤ (2 : Int) := (by omega)
                    have q183 : 2 < (t176.length : Int) := of_decide_eq_true (by first | (with_reducible assumption) | assumption)
                    obtain ⟨ad183, e183, hx183_0⟩ := Kd.at_int (Kd.R_reads' HO180.out).2.2 2 p183 q183
                    obtain rfl : ad181 = ad183 := (by injection e183)
                    (try simp only [show (2 : Int).toNat = 2 from rfl, Nat.reduceMul, Nat.reduceEqDiff, Go.Addr.add, ↓reduceIte] at hx183_0)
                    have qi183 : (2 < t176.length) = True := eq_true (by omega)
                    (try rw [show ((2 : Int)).toNat = 2 from rfl] at hx183_0)
                    replace p183 := eq_true p183
                    replace q183 := eq_true q183
                    have p184 : 0 ≤ (3 : Int) := (by omega)
                    have q184 : 3 < (t176.length : Int) := of_decide_eq_true (by first | (with_reducible assumption) | assumption)
                    obtain ⟨ad184, e184, hx184_0⟩ := Kd.at_int (Kd.R_reads' HO180.out).2.2 3 p184 q184
                    obtain rfl : ad181 = ad184 := (by injection e184)
                    (try simp only [show (3 : Int).toNat = 3 from rfl, Nat.reduceMul, Nat.reduceEqDiff, Go.Addr.add, ↓reduceIte] at hx184_0)
                    have qi184 : (3 < t176.length) = True := eq_true (by omega)
                    (try rw [show ((3 : Int)).toNat = 3 from rfl] at hx184_0)
                    replace p184 := eq_true p184
                    replace q184 := eq_true q184
                    have p185 : 0 ≤ (4 : Int) := (by omega)
                    have q185 : 4 < (t176.length : Int) := of_decide_eq_true (by first | (with_reducible assumption) | assumption)
                    obtain ⟨ad185, e185, hx185_0⟩ := Kd.at_int (Kd.R_reads' HO180.out).2.2 4 p185 q185
                    obtain rfl : ad181 = ad185 := (by injection e185)
                    (try simp only [show (4 : Int).toNat = 4 from rfl, Nat.reduceMul, Nat.reduceEqDiff, Go.Addr.add, ↓reduceIte] at hx185_0)
                    have qi185 : (4 < t176.length) = True := eq_true (by omega)
                    (try rw [show ((4 : Int)).toNat = 4 from rfl] at hx185_0)
                    replace p185 := eq_true p185
                    replace q185 := eq_true q185
                    have p186 : 0 ≤ (5 : Int) := (by omega)
                    have q186 : 5 < (t176.length : Int) := of_decide_eq_true (by first | (with_reducible assumption) | assumption)
                    obtain ⟨ad186, e186, hx186_0⟩ := Kd.at_int (Kd.R_reads' HO180.out).2.2 5 p186 q186
                    obtain rfl : ad181 = ad186 := (by injection e186)
                    (try simp only [show (5 : Int).toNat = 5 from rfl, Nat.reduceMul, Nat.reduceEqDiff, Go.Addr.add, ↓reduceIte] at hx186_0)
                    have qi186 : (5 < t176.length) = True := eq_true (by omega)
                    (try rw [show ((5 : Int)).toNat = 5 from rfl] at hx186_0)
                    replace p186 := eq_true p186
                    replace q186 := eq_true q186
                    refine start_ (n := 24) (S := fun w' => w'.cell? ad181 = some (.int .i64 (rd t176 0)) ∧ w'.cell? ⟨ad181.block, ad181.off + 1, none⟩ = some (.int .i64 (rd t176 1)) ∧ w'.cell? ⟨ad181.block, ad181.off + 2, none⟩ = some (.int .i64 (rd t176 2)) ∧ w'.cell? ⟨ad181.block, ad181.off + 3, none⟩ = some (.int .i64 (rd t176 3)) ∧ w'.cell? ⟨ad181.block, ad181.off + 4, none⟩ = some (.int .i64 (rd t176 4)) ∧ w'.cell? ⟨ad181.block, ad181.off + 5, none⟩ = some (.int .i64 (rd t176 5))) (ds := []) #[false, false, false, false, false, false, false, false, false, false, false, false, false, false, false, false, false, false, false, false, false, false, false, false] (by kernel_rfl) rfl rfl ⟨hx181_0, hx182_0, hx183_0, hx184_0, hx185_0, hx186_0⟩ (fun hHeld => ?_); refine with_tabW strip_Read.tab8 strip_Read.bits8 (fun HT_ HW_ => ?_)
                    generalize w19.drew = w20 at HO175 HO180 BK169 HB hx181_0 hx182_0 hx183_0 hx184_0 hx185_0 hx186_0 hHeld ⊢
                    refine pure_ (i := 0) (N := some 32) (v := ?_) (a' := ?_) #[true, false, false, false, false, false, false, false, false, false, false, false, false, false, false, false, false, false, false, false, false, false, false, false] rfl rfl (any_of HT_.out (by kernel_rfl)) (fun _ _ _ h => h) (Or.inl ⟨by rfl, ?_⟩) ?_ ?_
                    rotate_left
                    · intro w'
                      go_simp
                      with_reducible rfl
                    rotate_left
                    · simp only [Act.put, List.setIfInBounds_toArray, List.set_cons_zero, List.set_cons_succ, i64_w, i32_w]
                      rfl
                    refine pure_ (i := 1) (N := some 33) (v := ?_) (a' := ?_) #[true, true, false, false, false, false, false, false, false, false, false, false, false, false, false, false, false, false, false, false, false, false, false, false] rfl rfl (any_of HT_.out (by kernel_rfl)) (fun _ _ _ h => h) (Or.inl ⟨by rfl, ?_⟩) ?_ ?_
                    rotate_left
                    · intro w'
                      go_simp
                      with_reducible rfl
                    rotate_left
                    · simp only [Act.put, List.setIfInBounds_toArray, List.set_cons_zero, List.set_cons_succ, i64_w, i32_w]
                      rfl
                    refine pure_ (i := 3) (N := some 35) (v := ?_) (a' := ?_) #[true, true, false, true, false, false, false, false, false, false, false, false, false, false, false, false, false, false, false, false, false, false, false, false] rfl rfl (any_of HT_.out (by kernel_rfl)) (fun _ _ _ h => h) (Or.inl ⟨by rfl, ?_⟩) ?_ ?_
                    rotate_left
                    · intro w'
                      go_simp
                      with_reducible rfl
                    rotate_left
                    · simp only [Act.put, List.setIfInBounds_toArray, List.set_cons_zero, List.set_cons_succ, i64_w, i32_w]
                      rfl
                    refine pure_ (i := 4) (N := some 36) (v := ?_) (a' := ?_) #[true, true, false, true, true, false, false, false, false, false, false, false, false, false, false, false, false, false, false, false, false, false, false, false] rfl rfl (any_of HT_.out (by kernel_rfl)) (fun _ _ _ h => h) (Or.inl ⟨by rfl, ?_⟩) ?_ ?_
                    rotate_left
                    · intro w'
                      go_simp
                      with_reducible rfl
                    rotate_left
                    · simp only [Act.put, List.setIfInBounds_toArray, List.set_cons_zero, List.set_cons_succ, i64_w, i32_w]
                      rfl
                    refine pure_ (i := 7) (N := some 39) (v := ?_) (a' := ?_) #[true, true, false, true, true, false, false, true, false, false, false, false, false, false, false, false, false, false, false, false, false, false, false, false] rfl rfl (any_of HT_.out (by kernel_rfl)) (fun _ _ _ h => h) (Or.inl ⟨by rfl, ?_⟩) ?_ ?_
                    rotate_left
                    · intro w'
                      go_simp
                      with_reducible rfl
                    rotate_left
                    · simp only [Act.put, List.setIfInBounds_toArray, List.set_cons_zero, List.set_cons_succ, i64_w, i32_w]
                      rfl
                    refine pure_ (i := 8) (N := some 40) (v := ?_) (a' := ?_) #[true, true, false, true, true, false, false, true, true, false, false, false, false, false, false, false, false, false, false, false, false, false, false, false] rfl rfl (any_of HT_.out (by kernel_rfl)) (fun _ _ _ h => h) (Or.inl ⟨by rfl, ?_⟩) ?_ ?_
                    rotate_left
                    · intro w'
                      go_simp
                      with_reducible rfl
                    rotate_left
                    · simp only [Act.put, List.setIfInBounds_toArray, List.set_cons_zero, List.set_cons_succ, i64_w, i32_w]
                      rfl
                    refine pure_ (i := 12) (N := some 44) (v := ?_) (a' := ?_) #[true, true, false, true, true, false, false, true, true, false, false, false, true, false, false, false, false, false, false, false, false, false, false, false] rfl rfl (any_of HT_.out (by kernel_rfl)) (fun _ _ _ h => h) (Or.inl ⟨by rfl, ?_⟩) ?_ ?_
                    rotate_left
                    · intro w'
                      go_simp
                      with_reducible rfl
                    rotate_left
                    · simp only [Act.put, List.setIfInBounds_toArray, List.set_cons_zero, List.set_cons_succ, i64_w, i32_w]
                      rfl
                    refine pure_ (i := 13) (N := some 45) (v := ?_) (a' := ?_) #[true, true, false, true, true, false, false, true, true, false, false, false, true, true, false, false, false, false, false, false, false, false, false, false] rfl rfl (any_of HT_.out (by kernel_rfl)) (fun _ _ _ h => h) (Or.inl ⟨by rfl, ?_⟩) ?_ ?_
                    rotate_left
                    · intro w'
                      go_simp
                      with_reducible rfl
                    rotate_left
                    · simp only [Act.put, List.setIfInBounds_toArray, List.set_cons_zero, List.set_cons_succ, i64_w, i32_w]
                      rfl
                    refine pure_ (i := 16) (N := some 48) (v := ?_) (a' := ?_) #[true, true, false, true, true, false, false, true, true, false, false, false, true, true, false, false, true, false, false, false, false, false, false, false] rfl rfl (any_of HT_.out (by kernel_rfl)) (fun _ _ _ h => h) (Or.inl ⟨by rfl, ?_⟩) ?_ ?_
                    rotate_left
                    · intro w'
                      go_simp
                      with_reducible rfl
                    rotate_left
                    · simp only [Act.put, List.setIfInBounds_toArray, List.set_cons_zero, List.set_cons_succ, i64_w, i32_w]
                      rfl
                    refine pure_ (i := 17) (N := some 49) (v := ?_) (a' := ?_) #[true, true, false, true, true, false, false, true, true, false, false, false, true, true, false, false, true, true, false, false, false, false, false, false] rfl rfl (any_of HT_.out (by kernel_rfl)) (fun _ _ _ h => h) (Or.inl ⟨by rfl, ?_⟩) ?_ ?_
                    rotate_left
                    · intro w'
                      go_simp
                      with_reducible rfl
                    rotate_left
                    · simp only [Act.put, List.setIfInBounds_toArray, List.set_cons_zero, List.set_cons_succ, i64_w, i32_w]
                      rfl
                    refine pure_ (i := 19) (N := some 51) (v := ?_) (a' := ?_) #[true, true, false, true, true, false, false, true, true, false, false, false, true, true, false, false, true, true, false, true, false, false, false, false] rfl rfl (any_of HT_.out (by kernel_rfl)) (fun _ _ _ h => h) (Or.inl ⟨by rfl, ?_⟩) ?_ ?_
                    rotate_left
                    · intro w'
                      go_simp
                      with_reducible rfl
                    rotate_left
                    · simp only [Act.put, List.setIfInBounds_toArray, List.set_cons_zero, List.set_cons_succ, i64_w, i32_w]
                      rfl
                    refine pure_ (i := 20) (N := some 52) (v := ?_) (a' := ?_) #[true, true, false, true, true, false, false, true, true, false, false, false, true, true, false, false, true, true, false, true, true, false, false, false] rfl rfl (any_of HT_.out (by kernel_rfl)) (fun _ _ _ h => h) (Or.inl ⟨by rfl, ?_⟩) ?_ ?_
                    rotate_left
                    · intro w'
                      go_simp
                      with_reducible rfl
                    rotate_left
                    · simp only [Act.put, List.setIfInBounds_toArray, List.set_cons_zero, List.set_cons_succ, i64_w, i32_w]
                      rfl
                    refine take_ (i := 2) (N := some 34) (v := ?_) (a' := ?_) #[true, true, true, true, true, false, false, true, true, false, false, false, true, true, false, false, true, true, false, true, true, false, false, false] rfl rfl (take_ofW HT_.out HW_.out (by kernel_rfl)) (fun _ _ _ h => h) (Or.inl ⟨by rfl, ?_⟩) hHeld ?_ ?_
                    rotate_left
                    · rintro w' ⟨s0, s1, s2, s3, s4, s5⟩
                      go_simp
                      with_reducible rfl
                    rotate_left
                    · simp only [Act.put, List.setIfInBounds_toArray, List.set_cons_zero, List.set_cons_succ, i64_w, i32_w]
                      rfl
                    refine take_ (i := 5) (N := some 37) (v := ?_) (a' := ?_) #[true, true, true, true, true, true, false, true, true, false, false, false, true, true, false, false, true, true, false, true, true, false, false, false] rfl rfl (take_ofW HT_.out HW_.out (by kernel_rfl)) (fun _ _ _ h => h) (Or.inl ⟨by rfl, ?_⟩) hHeld ?_ ?_
                    rotate_left
                    · rintro w' ⟨s0, s1, s2, s3, s4, s5⟩
                      go_simp
                      with_reducible rfl
                    rotate_left
                    · simp only [Act.put, List.setIfInBounds_toArray, List.set_cons_zero, List.set_cons_succ, i64_w, i32_w]
                      rfl
                    refine pure_ (i := 6) (N := some 38) (v := ?_) (a' := ?_) #[true, true, true, true, true, true, true, true, true, false, false, false, true, true, false, false, true, true, false, true, true, false, false, false] rfl rfl (any_of HT_.out (by kernel_rfl)) (fun _ _ _ h => h) (Or.inl ⟨by rfl, ?_⟩) ?_ ?_
                    rotate_left
                    · intro w'
                      go_simp
                      with_reducible rfl
                    rotate_left
                    · simp only [Act.put, List.setIfInBounds_toArray, List.set_cons_zero, List.set_cons_succ, i64_w, i32_w]
                      rfl
                    refine take_ (i := 9) (N := some 41) (v := ?_) (a' := ?_) #[true, true, true, true, true, true, true, true, true, true, false, false, true, true, false, false, true, true, false, true, true, false, false, false] rfl rfl (take_ofW HT_.out HW_.out (by kernel_rfl)) (fun _ _ _ h => h) (Or.inl ⟨by rfl, ?_⟩) hHeld ?_ ?_
                    rotate_left
                    · rintro w' ⟨s0, s1, s2, s3, s4, s5⟩
                      go_simp
                      with_reducible rfl
                    rotate_left
                    · simp only [Act.put, List.setIfInBounds_toArray, List.set_cons_zero, List.set_cons_succ, i64_w, i32_w]
                      rfl
                    refine pure_ (i := 10) (N := some 42) (v := ?_) (a' := ?_) #[true, true, true, true, true, true, true, true, true, true, true, false, true, true, false, false, true, true, false, true, true, false, false, false] rfl rfl (any_of HT_.out (by kernel_rfl)) (fun _ _ _ h => h) (Or.inl ⟨by rfl, ?_⟩) ?_ ?_
                    rotate_left
                    · intro w'
                      go_simp
                      with_reducible rfl
                    rotate_left
                    · simp only [Act.put, List.setIfInBounds_toArray, List.set_cons_zero, List.set_cons_succ, i64_w, i32_w]
                      rfl
                    refine pure_ (i := 11) (N := some 43) (v := ?_) (a' := ?_) #[true, true, true, true, true, true, true, true, true, true, true, true, true, true, false, false, true, true, false, true, true, false, false, false] rfl rfl (any_of HT_.out (by kernel_rfl)) (fun _ _ _ h => h) (Or.inl ⟨by rfl, ?_⟩) ?_ ?_
                    rotate_left
                    · intro w'
                      go_simp
                      with_reducible rfl
                    rotate_left
                    · simp only [Act.put, List.setIfInBounds_toArray, List.set_cons_zero, List.set_cons_succ, i64_w, i32_w]
                      rfl
                    refine take_ (i := 14) (N := some 46) (v := ?_) (a' := ?_) #[true, true, true, true, true, true, true, true, true, true, true, true, true, true, true, false, true, true, false, true, true, false, false, false] rfl rfl (take_ofW HT_.out HW_.out (by kernel_rfl)) (fun _ _ _ h => h) (Or.inl ⟨by rfl, ?_⟩) hHeld ?_ ?_
                    rotate_left
                    · rintro w' ⟨s0, s1, s2, s3, s4, s5⟩
                      go_simp
                      with_reducible rfl
                    rotate_left
                    · simp only [Act.put, List.setIfInBounds_toArray, List.set_cons_zero, List.set_cons_succ, i64_w, i32_w]
                      rfl
                    refine pure_ (i := 15) (N := some 47) (v := ?_) (a' := ?_) #[true, true, true, true, true, true, true, true, true, true, true, true, true, true, true, true, true, true, false, true, true, false, false, false] rfl rfl (any_of HT_.out (by kernel_rfl)) (fun _ _ _ h => h) (Or.inl ⟨by rfl, ?_⟩) ?_ ?_
                    rotate_left
                    · intro w'
                      go_simp
                      with_reducible rfl
                    rotate_left
                    · simp only [Act.put, List.setIfInBounds_toArray, List.set_cons_zero, List.set_cons_succ, i64_w, i32_w]
                      rfl
                    refine take_ (i := 18) (N := some 50) (v := ?_) (a' := ?_) #[true, true, true, true, true, true, true, true, true, true, true, true, true, true, true, true, true, true, true, true, true, false, false, false] rfl rfl (take_ofW HT_.out HW_.out (by kernel_rfl)) (fun _ _ _ h => h) (Or.inl ⟨by rfl, ?_⟩) hHeld ?_ ?_
                    rotate_left
                    · rintro w' ⟨s0, s1, s2, s3, s4, s5⟩
                      go_simp
                      with_reducible rfl
                    rotate_left
                    · simp only [Act.put, List.setIfInBounds_toArray, List.set_cons_zero, List.set_cons_succ, i64_w, i32_w]
                      rfl
                    refine take_ (i := 21) (N := some 53) (v := ?_) (a' := ?_) #[true, true, true, true, true, true, true, true, true, true, true, true, true, true, true, true, true, true, true, true, true, true, false, false] rfl rfl (take_ofW HT_.out HW_.out (by kernel_rfl)) (fun _ _ _ h => h) (Or.inl ⟨by rfl, ?_⟩) hHeld ?_ ?_
                    rotate_left
                    · rintro w' ⟨s0, s1, s2, s3, s4, s5⟩
                      go_simp
                      with_reducible rfl
                    rotate_left
                    · simp only [Act.put, List.setIfInBounds_toArray, List.set_cons_zero, List.set_cons_succ, i64_w, i32_w]
                      rfl
                    refine pure_ (i := 22) (N := some 54) (v := ?_) (a' := ?_) #[true, true, true, true, true, true, true, true, true, true, true, true, true, true, true, true, true, true, true, true, true, true, true, false] rfl rfl (any_of HT_.out (by kernel_rfl)) (fun _ _ _ h => h) (Or.inl ⟨by rfl, ?_⟩) ?_ ?_
                    rotate_left
                    · intro w'
                      go_simp
                      with_reducible rfl
                    rotate_left
                    · simp only [Act.put, List.setIfInBounds_toArray, List.set_cons_zero, List.set_cons_succ, i64_w, i32_w]
                      rfl
                    refine one_ (i := 23) (N := none) #[true, true, true, true, true, true, true, true, true, true, true, true, true, true, true, true, true, true, true, true, true, true, true, true] rfl rfl (one_of HT_.out (by kernel_rfl)) (by decide) (fun K hK => ?_)
                    have hs22 : w20.cell? ⟨gb169, 0, none⟩ = some (.int .i64 0) := (blk_cell BK169.out 0).trans rfl
                    have hfs22 := blk_frozen BK169.out 0
                    have hs23 : w20.cell? ⟨gb169, 1, none⟩ = some (.int .i64 0) := (blk_cell BK169.out 1).trans rfl
                    have hfs23 := blk_frozen BK169.out 1
                    have hs24 : w20.cell? ⟨gb169, 2, none⟩ = some (.int .i64 0) := (blk_cell BK169.out 2).trans rfl
                    have hfs24 := blk_frozen BK169.out 2
                    have hs25 : w20.cell? ⟨gb169, 3, none⟩ = some (.int .i64 0) := (blk_cell BK169.out 3).trans rfl
                    have hfs25 := blk_frozen BK169.out 3
                    refine skip_ (w1 := ?_) (by rfl) rfl ?_ ?_
                    rotate_left
                    · go_simp
                      rfl
                    refine hK.out _ _ ⟨((cell_far (p := ⟨gb169, _, none⟩) (by first | exact Kd.own_blk (Kd.R_ne HO180.out BK169.out (by decide)) | (rw [add_block]; exact Kd.own_blk (Kd.R_ne HO180.out BK169.out (by decide))) | (show (Addr.add _ _).block ≠ _; rw [add_block]; exact Kd.own_blk (Kd.R_ne HO180.out BK169.out (by decide))) | (dsimp only; exact Kd.own_blk (Kd.R_ne HO180.out BK169.out (by decide)))) _).trans (((cell_far (p := ⟨gb169, _, none⟩) (by first | exact Kd.own_blk (Kd.R_ne HO180.out BK169.out (by decide)) | (rw [add_block]; exact Kd.own_blk (Kd.R_ne HO180.out BK169.out (by decide))) | (show (Addr.add _ _).block ≠ _; rw [add_block]; exact Kd.own_blk (Kd.R_ne HO180.out BK169.out (by decide))) | (dsimp only; exact Kd.own_blk (Kd.R_ne HO180.out BK169.out (by decide)))) _).trans (((cell_far (p := ⟨gb169, _, none⟩) (by first | exact Kd.own_blk (Kd.R_ne HO180.out BK169.out (by decide)) | (rw [add_block]; exact Kd.own_blk (Kd.R_ne HO180.out BK169.out (by decide))) | (show (Addr.add _ _).block ≠ _; rw [add_block]; exact Kd.own_blk (Kd.R_ne HO180.out BK169.out (by decide))) | (dsimp only; exact Kd.own_blk (Kd.R_ne HO180.out BK169.out (by decide)))) _).trans (((cell_far (p := ⟨gb169, _, none⟩) (by first | exact Kd.own_blk (Kd.R_ne HO180.out BK169.out (by decide)) | (rw [add_block]; exact Kd.own_blk (Kd.R_ne HO180.out BK169.out (by decide))) | (show (Addr.add _ _).block ≠ _; rw [add_block]; exact Kd.own_blk (Kd.R_ne HO180.out BK169.out (by decide))) | (dsimp only; exact Kd.own_blk (Kd.R_ne HO180.out BK169.out (by decide)))) _).trans (hHeld.1)))))))), ((cell_far (p := ⟨gb169, _, none⟩) (by first | exact Kd.own_blk (Kd.R_ne HO180.out BK169.out (by decide)) | (rw [add_block]; exact Kd.own_blk (Kd.R_ne HO180.out BK169.out (by decide))) | (show (Addr.add _ _).block ≠ _; rw [add_block]; exact Kd.own_blk (Kd.R_ne HO180.out BK169.out (by decide))) | (dsimp only; exact Kd.own_blk (Kd.R_ne HO180.out BK169.out (by decide)))) _).trans (((cell_far (p := ⟨gb169, _, none⟩) (by first | exact Kd.own_blk (Kd.R_ne HO180.out BK169.out (by decide)) | (rw [add_block]; exact Kd.own_blk (Kd.R_ne HO180.out BK169.out (by decide))) | (show (Addr.add _ _).block ≠ _; rw [add_block]; exact Kd.own_blk (Kd.R_ne HO180.out BK169.out (by decide))) | (dsimp only; exact Kd.own_blk (Kd.R_ne HO180.out BK169.out (by decide)))) _).trans (((cell_far (p := ⟨gb169, _, none⟩) (by first | exact Kd.own_blk (Kd.R_ne HO180.out BK169.out (by decide)) | (rw [add_block]; exact Kd.own_blk (Kd.R_ne HO180.out BK169.out (by decide))) | (show (Addr.add _ _).block ≠ _; rw [add_block]; exact Kd.own_blk (Kd.R_ne HO180.out BK169.out (by decide))) | (dsimp only; exact Kd.own_blk (Kd.R_ne HO180.out BK169.out (by decide)))) _).trans (((cell_far (p := ⟨gb169, _, none⟩) (by first | exact Kd.own_blk (Kd.R_ne HO180.out BK169.out (by decide)) | (rw [add_block]; exact Kd.own_blk (Kd.R_ne HO180.out BK169.out (by decide))) | (show (Addr.add _ _).block ≠ _; rw [add_block]; exact Kd.own_blk (Kd.R_ne HO180.out BK169.out (by decide))) | (dsimp only; exact Kd.own_blk (Kd.R_ne HO180.out BK169.out (by decide)))) _).trans (hHeld.2.1)))))))), ((cell_far (p := ⟨gb169, _, none⟩) (by first | exact Kd.own_blk (Kd.R_ne HO180.out BK169.out (by decide)) | (rw [add_block]; exact Kd.own_blk (Kd.R_ne HO180.out BK169.out (by decide))) | (show (Addr.add _ _).block ≠ _; rw [add_block]; exact Kd.own_blk (Kd.R_ne HO180.out BK169.out (by decide))) | (dsimp only; exact Kd.own_blk (Kd.R_ne HO180.out BK169.out (by decide)))) _).trans (((cell_far (p := ⟨gb169, _, none⟩) (by first | exact Kd.own_blk (Kd.R_ne HO180.out BK169.out (by decide)) | (rw [add_block]; exact Kd.own_blk (Kd.R_ne HO180.out BK169.out (by decide))) | (show (Addr.add _ _).block ≠ _; rw [add_block]; exact Kd.own_blk (Kd.R_ne HO180.out BK169.out (by decide))) | (dsimp only; exact Kd.own_blk (Kd.R_ne HO180.out BK169.out (by decide)))) _).trans (((cell_far (p := ⟨gb169, _, none⟩) (by first | exact Kd.own_blk (Kd.R_ne HO180.out BK169.out (by decide)) | (rw [add_block]; exact Kd.own_blk (Kd.R_ne HO180.out BK169.out (by decide))) | (show (Addr.add _ _).block ≠ _; rw [add_block]; exact Kd.own_blk (Kd.R_ne HO180.out BK169.out (by decide))) | (dsimp only; exact Kd.own_blk (Kd.R_ne HO180.out BK169.out (by decide)))) _).trans (((cell_far (p := ⟨gb169, _, none⟩) (by first | exact Kd.own_blk (Kd.R_ne HO180.out BK169.out (by decide)) | (rw [add_block]; exact Kd.own_blk (Kd.R_ne HO180.out BK169.out (by decide))) | (show (Addr.add _ _).block ≠ _; rw [add_block]; exact Kd.own_blk (Kd.R_ne HO180.out BK169.out (by decide))) | (dsimp only; exact Kd.own_blk (Kd.R_ne HO180.out BK169.out (by decide)))) _).trans (hHeld.2.2.1)))))))), ((cell_far (p := ⟨gb169, _, none⟩) (by first | exact Kd.own_blk (Kd.R_ne HO180.out BK169.out (by decide)) | (rw [add_block]; exact Kd.own_blk (Kd.R_ne HO180.out BK169.out (by decide))) | (show (Addr.add _ _).block ≠ _; rw [add_block]; exact Kd.own_blk (Kd.R_ne HO180.out BK169.out (by decide))) | (dsimp only; exact Kd.own_blk (Kd.R_ne HO180.out BK169.out (by decide)))) _).trans (((cell_far (p := ⟨gb169, _, none⟩) (by first | exact Kd.own_blk (Kd.R_ne HO180.out BK169.out (by decide)) | (rw [add_block]; exact Kd.own_blk (Kd.R_ne HO180.out BK169.out (by decide))) | (show (Addr.add _ _).block ≠ _; rw [add_block]; exact Kd.own_blk (Kd.R_ne HO180.out BK169.out (by decide))) | (dsimp only; exact Kd.own_blk (Kd.R_ne HO180.out BK169.out (by decide)))) _).trans (((cell_far (p := ⟨gb169, _, none⟩) (by first | exact Kd.own_blk (Kd.R_ne HO180.out BK169.out (by decide)) | (rw [add_block]; exact Kd.own_blk (Kd.R_ne HO180.out BK169.out (by decide))) | (show (Addr.add _ _).block ≠ _; rw [add_block]; exact Kd.own_blk (Kd.R_ne HO180.out BK169.out (by decide))) | (dsimp only; exact Kd.own_blk (Kd.R_ne HO180.out BK169.out (by decide)))) _).trans (((cell_far (p := ⟨gb169, _, none⟩) (by first | exact Kd.own_blk (Kd.R_ne HO180.out BK169.out (by decide)) | (rw [add_block]; exact Kd.own_blk (Kd.R_ne HO180.out BK169.out (by decide))) | (show (Addr.add _ _).block ≠ _; rw [add_block]; exact Kd.own_blk (Kd.R_ne HO180.out BK169.out (by decide))) | (dsimp only; exact Kd.own_blk (Kd.R_ne HO180.out BK169.out (by decide)))) _).trans (hHeld.2.2.2.1)))))))), ((cell_far (p := ⟨gb169, _, none⟩) (by first | exact Kd.own_blk (Kd.R_ne HO180.out BK169.out (by decide)) | (rw [add_block]; exact Kd.own_blk (Kd.R_ne HO180.out BK169.out (by decide))) | (show (Addr.add _ _).block ≠ _; rw [add_block]; exact Kd.own_blk (Kd.R_ne HO180.out BK169.out (by decide))) | (dsimp only; exact Kd.own_blk (Kd.R_ne HO180.out BK169.out (by decide)))) _).trans (((cell_far (p := ⟨gb169, _, none⟩) (by first | exact Kd.own_blk (Kd.R_ne HO180.out BK169.out (by decide)) | (rw [add_block]; exact Kd.own_blk (Kd.R_ne HO180.out BK169.out (by decide))) | (show (Addr.add _ _).block ≠ _; rw [add_block]; exact Kd.own_blk (Kd.R_ne HO180.out BK169.out (by decide))) | (dsimp only; exact Kd.own_blk (Kd.R_ne HO180.out BK169.out (by decide)))) _).trans (((cell_far (p := ⟨gb169, _, none⟩) (by first | exact Kd.own_blk (Kd.R_ne HO180.out BK169.out (by decide)) | (rw [add_block]; exact Kd.own_blk (Kd.R_ne HO180.out BK169.out (by decide))) | (show (Addr.add _ _).block ≠ _; rw [add_block]; exact Kd.own_blk (Kd.R_ne HO180.out BK169.out (by decide))) | (dsimp only; exact Kd.own_blk (Kd.R_ne HO180.out BK169.out (by decide)))) _).trans (((cell_far (p := ⟨gb169, _, none⟩) (by first | exact Kd.own_blk (Kd.R_ne HO180.out BK169.out (by decide)) | (rw [add_block]; exact Kd.own_blk (Kd.R_ne HO180.out BK169.out (by decide))) | (show (Addr.add _ _).block ≠ _; rw [add_block]; exact Kd.own_blk (Kd.R_ne HO180.out BK169.out (by decide))) | (dsimp only; exact Kd.own_blk (Kd.R_ne HO180.out BK169.out (by decide)))) _).trans (hHeld.2.2.2.2.1)))))))), ((cell_far (p := ⟨gb169, _, none⟩) (by first | exact Kd.own_blk (Kd.R_ne HO180.out BK169.out (by decide)) | (rw [add_block]; exact Kd.own_blk (Kd.R_ne HO180.out BK169.out (by decide))) | (show (Addr.add _ _).block ≠ _; rw [add_block]; exact Kd.own_blk (Kd.R_ne HO180.out BK169.out (by decide))) | (dsimp only; exact Kd.own_blk (Kd.R_ne HO180.out BK169.out (by decide)))) _).trans (((cell_far (p := ⟨gb169, _, none⟩) (by first | exact Kd.own_blk (Kd.R_ne HO180.out BK169.out (by decide)) | (rw [add_block]; exact Kd.own_blk (Kd.R_ne HO180.out BK169.out (by decide))) | (show (Addr.add _ _).block ≠ _; rw [add_block]; exact Kd.own_blk (Kd.R_ne HO180.out BK169.out (by decide))) | (dsimp only; exact Kd.own_blk (Kd.R_ne HO180.out BK169.out (by decide)))) _).trans (((cell_far (p := ⟨gb169, _, none⟩) (by first | exact Kd.own_blk (Kd.R_ne HO180.out BK169.out (by decide)) | (rw [add_block]; exact Kd.own_blk (Kd.R_ne HO180.out BK169.out (by decide))) | (show (Addr.add _ _).block ≠ _; rw [add_block]; exact Kd.own_blk (Kd.R_ne HO180.out BK169.out (by decide))) | (dsimp only; exact Kd.own_blk (Kd.R_ne HO180.out BK169.out (by decide)))) _).trans (((cell_far (p := ⟨gb169, _, none⟩) (by first | exact Kd.own_blk (Kd.R_ne HO180.out BK169.out (by decide)) | (rw [add_block]; exact Kd.own_blk (Kd.R_ne HO180.out BK169.out (by decide))) | (show (Addr.add _ _).block ≠ _; rw [add_block]; exact Kd.own_blk (Kd.R_ne HO180.out BK169.out (by decide))) | (dsimp only; exact Kd.own_blk (Kd.R_ne HO180.out BK169.out (by decide)))) _).trans (hHeld.2.2.2.2.2))))))))⟩ (fun hHeld => ?_)
                    clear hK K
                    refine done_ (done_of HT_.out (by kernel_rfl)) ?_
                    have hcz26_0 : w20.cell? ⟨gb169, 0, none⟩ = some (.int .i64 0) := (blk_cell BK169.out 0).trans rfl
                    have hcz26_1 : w20.cell? ⟨gb169, 1, none⟩ = some (.int .i64 0) := (blk_cell BK169.out 1).trans rfl
                    have hcz26_2 : w20.cell? ⟨gb169, 2, none⟩ = some (.int .i64 0) := (blk_cell BK169.out 2).trans rfl
                    have hcz26_3 : w20.cell? ⟨gb169, 3, none⟩ = some (.int .i64 0) := (blk_cell BK169.out 3).trans rfl
                    have hfz26_0 := blk_frozen BK169.out 0
                    have hfz26_1 := blk_frozen BK169.out 1
                    have hfz26_2 := blk_frozen BK169.out 2
                    have hfz26_3 := blk_frozen BK169.out 3
                    try go_wp2_with (first | ((with_reducible refine gate_callee (f := 27) rfl ?_); refine goesL_ (some 56) rfl rfl Tryd.func27 (by kernel_rfl) rfl #[.agg #[.int .i64 (rd t176 0), .int .i64 (wrap64 ((wrap64 ((wrap64 ((rd t176 1) * 1024)) + (wrap64 ((rd t176 2) * 32)))) + (rd t176 3))), .int .i64 (rd t176 4), .int .i64 (rd t176 5)]] rfl (by (try simp only [List.map_toArray, List.map_cons, List.map_nil]); first | done | rfl | (simp only [List.length_drop, List.length_take]; rfl)) ?_; (with_reducible refine (strip_Valid.calls (rd t176 0) (wrap64 ((wrap64 ((wrap64 ((rd t176 1) * 1024)) + (wrap64 ((rd t176 2) * 32)))) + (rd t176 3))) (rd t176 4) (rd t176 5) true _ A13.out).mono ?_); rintro e w27 ⟨rfl, hb⟩; refine ⟨_, rfl, ?_⟩; have n0_ := Aside0.mk (Kd.R_below (by (with_reducible repeat (first | apply Kd.R_alloc | apply Kd.R_drewN | apply Kd.R_drew)); exact (Kd.R_mono (Kd.R_far (p := ⟨gb169, 3, none⟩) (Kd.R_far (p := ⟨gb169, 2, none⟩) (Kd.R_far (p := ⟨gb169, 1, none⟩) (Kd.R_far (p := ⟨gb169, 0, none⟩) (Kd.R_types HO175.out BK169.out (by decide)) (fun _ hk => hk.2) (.int .i64 (rd t176 0))) (fun _ hk => hk.2) (.int .i64 (wrap64 ((wrap64 ((wrap64 ((rd t176 1) * 1024)) + (wrap64 ((rd t176 2) * 32)))) + (rd t176 3))))) (fun _ hk => hk.2) (.int .i64 (rd t176 4))) (fun _ hk => hk.2) (.int .i64 (rd t176 5))) (fun _ h_ => h_.1))) hb); have n1_ := Aside0.mk (Kd.R_below (by (with_reducible repeat (first | apply Kd.R_alloc | apply Kd.R_drewN | apply Kd.R_drew)); exact (Kd.R_mono (Kd.R_far (p := ⟨gb169, 3, none⟩) (Kd.R_far (p := ⟨gb169, 2, none⟩) (Kd.R_far (p := ⟨gb169, 1, none⟩) (Kd.R_far (p := ⟨gb169, 0, none⟩) (Kd.R_types HO180.out BK169.out (by decide)) (fun _ hk => hk.2) (.int .i64 (rd t176 0))) (fun _ hk => hk.2) (.int .i64 (wrap64 ((wrap64 ((wrap64 ((rd t176 1) * 1024)) + (wrap64 ((rd t176 2) * 32)))) + (rd t176 3))))) (fun _ hk => hk.2) (.int .i64 (rd t176 4))) (fun _ hk => hk.2) (.int .i64 (rd t176 5))) (fun _ h_ => h_.1))) hb); have n2_ := Aside0.mk (blk_below (g := gb169) (o := .cells #[.int .i64 (rd t176 0), .int .i64 (wrap64 ((wrap64 ((wrap64 ((rd t176 1) * 1024)) + (wrap64 ((rd t176 2) * 32)))) + (rd t176 3))), .int .i64 (rd t176 4), .int .i64 (rd t176 5)] 29 (0, 0)) (by (with_reducible repeat (first | refine blk_drewN ?_ _ | refine blk_drew ?_ | refine blk_alloc ?_ _)); refine blk_put (cs := #[.int .i64 (rd t176 0), .int .i64 (wrap64 ((wrap64 ((wrap64 ((rd t176 1) * 1024)) + (wrap64 ((rd t176 2) * 32)))) + (rd t176 3))), .int .i64 (rd t176 4), .int .i64 0]) ?_ 3 _ rfl; (with_reducible repeat (first | refine blk_drewN ?_ _ | refine blk_drew ?_ | refine blk_alloc ?_ _)); refine blk_put (cs := #[.int .i64 (rd t176 0), .int .i64 (wrap64 ((wrap64 ((wrap64 ((rd t176 1) * 1024)) + (wrap64 ((rd t176 2) * 32)))) + (rd t176 3))), .int .i64 0, .int .i64 0]) ?_ 2 _ rfl; (with_reducible repeat (first | refine blk_drewN ?_ _ | refine blk_drew ?_ | refine blk_alloc ?_ _)); refine blk_put (cs := #[.int .i64 (rd t176 0), .int .i64 0, .int .i64 0, .int .i64 0]) ?_ 1 _ rfl; (with_reducible repeat (first | refine blk_drewN ?_ _ | refine blk_drew ?_ | refine blk_alloc ?_ _)); refine blk_put (cs := #[.int .i64 0, .int .i64 0, .int .i64 0, .int .i64 0]) ?_ 0 _ rfl; (with_reducible repeat (first | refine blk_drewN ?_ _ | refine blk_drew ?_ | refine blk_alloc ?_ _)); exact BK169.out) hb); have n3_ := Aside0.mk (below_step (by repeat (first | (with_reducible first | exact HB.out | apply below_alloc | apply pw_below_drewN | apply below_drew1 | refine below_set ?_ GE169.out) | exact HB.out)) hb); clear HO175; clear HO180; clear BK169; clear HB; have HO175 := n0_; have HO180 := n1_; have BK169 := n2_; have HB := n3_; clear n0_ n1_ n2_ n3_; (try clear hb); (try clear hb2); (try clear hk); (try clear hi); have hcz28_0 : w27.cell? ⟨gb169, 0, none⟩ = some (.int .i64 (rd t176 0)) := (blk_cell BK169.out 0).trans rfl; have hcz28_1 : w27.cell? ⟨gb169, 1, none⟩ = some (.int .i64 (wrap64 ((wrap64 ((wrap64 ((rd t176 1) * 1024)) + (wrap64 ((rd t176 2) * 32)))) + (rd t176 3)))) := (blk_cell BK169.out 1).trans rfl; have hcz28_2 : w27.cell? ⟨gb169, 2, none⟩ = some (.int .i64 (rd t176 4)) := (blk_cell BK169.out 2).trans rfl; have hcz28_3 : w27.cell? ⟨gb169, 3, none⟩ = some (.int .i64 (rd t176 5)) := (blk_cell BK169.out 3).trans rfl; have hfz28_0 := blk_frozen BK169.out 0; have hfz28_1 := blk_frozen BK169.out 1; have hfz28_2 := blk_frozen BK169.out 2; have hfz28_3 := blk_frozen BK169.out 3))
                    refine bodyPost_ret (results_ctt rfl _ _ gb169 29 #[.int .i64 (rd t176 0), .int .i64 (wrap64 ((wrap64 ((wrap64 ((rd t176 1) * 1024)) + (wrap64 ((rd t176 2) * 32)))) + (rd t176 3))), .int .i64 (rd t176 4), .int .i64 (rd t176 5)] (0, 0) _ rfl (by (with_reducible repeat (first | refine blk_drewN ?_ _ | refine blk_drew ?_ | refine blk_alloc ?_ _)); refine blk_put (cs := #[.int .i64 (rd t176 0), .int .i64 (wrap64 ((wrap64 ((wrap64 ((rd t176 1) * 1024)) + (wrap64 ((rd t176 2) * 32)))) + (rd t176 3))), .int .i64 (rd t176 4), .int .i64 (rd t176 5)]) ?_ 3 _ rfl; (with_reducible repeat (first | refine blk_drewN ?_ _ | refine blk_drew ?_ | refine blk_alloc ?_ _)); refine blk_put (cs := #[.int .i64 (rd t176 0), .int .i64 (wrap64 ((wrap64 ((wrap64 ((rd t176 1) * 1024)) + (wrap64 ((rd t176 2) * 32)))) + (rd t176 3))), .int .i64 (rd t176 4), .int .i64 (rd t176 5)]) ?_ 2 _ rfl; (with_reducible repeat (first | refine blk_drewN ?_ _ | refine blk_drew ?_ | refine blk_alloc ?_ _)); refine blk_put (cs := #[.int .i64 (rd t176 0), .int .i64 (wrap64 ((wrap64 ((wrap64 ((rd t176 1) * 1024)) + (wrap64 ((rd t176 2) * 32)))) + (rd t176 3))), .int .i64 (rd t176 4), .int .i64 (rd t176 5)]) ?_ 1 _ rfl; (with_reducible repeat (first | refine blk_drewN ?_ _ | refine blk_drew ?_ | refine blk_alloc ?_ _)); refine blk_put (cs := #[.int .i64 (rd t176 0), .int .i64 (wrap64 ((wrap64 ((wrap64 ((rd t176 1) * 1024)) + (wrap64 ((rd t176 2) * 32)))) + (rd t176 3))), .int .i64 (rd t176 4), .int .i64 (rd t176 5)]) ?_ 0 _ rfl; (with_reducible repeat (first | refine blk_drewN ?_ _ | refine blk_drew ?_ | refine blk_alloc ?_ _)); exact BK169.out) Tryd.underlying29 rfl (by kernel_rfl)) rfl ?_
                    exact ⟨by first | rfl | (simp [errW_none, errW_some] <;> rfl) | (simp [*, errW_none, errW_some] <;> rfl), by repeat (first | (with_reducible first | exact HB.out | apply below_alloc | apply pw_below_drewN | apply below_drew1 | refine below_set ?_ GE169.out) | exact HB.out)⟩
                  · replace c14 := Bool.eq_false_iff.mpr c14
                    subst c14
                    have H1 : (some (0, 0, 0, 0, 0, 2)) = some (r1, r2, r3, r4, r5, r6) := by rw [if_neg (show ¬ (false = true) by decide)] at H; exact H
                    clear H
                    have H := H1
                    clear H1
                    simp only [Option.some.injEq, Prod.mk.injEq] at H
                    obtain ⟨rfl, rfl, rfl, rfl, rfl, rfl⟩ := H
                    go_enter Tryd.func9, Tryd.ntmps9
                    try go_wp2_with (first | ((with_reducible refine gate_dst (N := 2) rfl ?_); refine box_event ?hg (N := 2) ?hd (cs := #[.int .i64 0, .int .i64 0, .int .i64 0, .int .i64 0]) (t := 29) ?hr ?_; (case hd => rfl); (case hg => rfl); (case hr => first | (go_simp; done) | (go_simp; rfl)); intro gb169 hg w29 hbox hb; have n0_ := Aside0.mk (below_step (by repeat (first | (with_reducible first | exact HB.out | apply below_alloc | apply pw_below_drewN | apply below_drew1) | exact HB.out)) hb); have n1_ := Aside0.mk (hbox); have n2_ := Aside0.mk ((by rw [hg]; exact (below_size (by repeat (first | (with_reducible first | exact HB.out | apply below_alloc | apply pw_below_drewN | apply below_drew1) | exact HB.out))) : w.heap.size ≤ gb169)); have n3_ := Aside0.mk ((by rw [hg]; exact (below_size (by repeat (first | (with_reducible first | exact HB.out | apply below_alloc | apply pw_below_drewN | apply below_drew1) | exact HB.out))) : w.heap.size ≤ gb169)); clear HB; have HB := n0_; have BK169 := n1_; have GW169 := n2_; have GE169 := n3_; clear n0_ n1_ n2_ n3_; clear hb hbox hg) | ((with_reducible refine gate_callee (f := 20) rfl ?_); refine goesL_ (some 10) rfl rfl Tryd.func20 (by kernel_rfl) rfl #[.string a0] rfl (by (try simp only [List.map_toArray, List.map_cons, List.map_nil]); first | done | rfl | (simp only [List.length_drop, List.length_take]; rfl)) ?_; (with_reducible refine (strip_Upright.calls a0 t170 t171 _ A2.out).mono ?_); rintro e w30 ⟨rfl, hb⟩; refine ⟨_, rfl, ?_⟩; have n0_ := Aside0.mk (blk_below (g := gb169) (o := .cells #[.int .i64 0, .int .i64 0, .int .i64 0, .int .i64 0] 29 (0, 0)) (by (with_reducible repeat (first | refine blk_drewN ?_ _ | refine blk_drew ?_ | refine blk_alloc ?_ _)); exact BK169.out) hb); have n1_ := Aside0.mk (below_step (by repeat (first | (with_reducible first | exact HB.out | apply below_alloc | apply pw_below_drewN | apply below_drew1 | refine below_set ?_ GE169.out) | exact HB.out)) hb); clear BK169; clear HB; have BK169 := n0_; have HB := n1_; clear n0_ n1_; (try clear hb); (try clear hb2); (try clear hk); (try clear hi)) | ((with_reducible refine gate_callee (f := 18) rfl ?_); refine goesL_ (some 19) rfl rfl Tryd.func18 (by kernel_rfl) rfl #[.string t170] rfl (by (try simp only [List.map_toArray, List.map_cons, List.map_nil]); first | done | rfl | (simp only [List.length_drop, List.length_take]; rfl)) ?_; (with_reducible refine (strip_Word.calls t170 t172 t173 _ A4.out).mono ?_); rintro e w31 ⟨v174, rfl, ho0, hb⟩; refine ⟨_, rfl, ?_⟩; have n0_ := Aside0.mk (Kd.R_lower ho0 (below_size (by repeat (first | (with_reducible first | exact HB.out | apply below_alloc | apply pw_below_drewN | apply below_drew1 | refine below_set ?_ GE169.out) | exact HB.out)))); have n1_ := Aside0.mk (blk_below (g := gb169) (o := .cells #[.int .i64 0, .int .i64 0, .int .i64 0, .int .i64 0] 29 (0, 0)) (by (with_reducible repeat (first | refine blk_drewN ?_ _ | refine blk_drew ?_ | refine blk_alloc ?_ _)); exact BK169.out) hb); have n2_ := Aside0.mk (below_step (by repeat (first | (with_reducible first | exact HB.out | apply below_alloc | apply pw_below_drewN | apply below_drew1 | refine below_set ?_ GE169.out) | exact HB.out)) hb); clear BK169; clear HB; have HO175 := n0_; have BK169 := n1_; have HB := n2_; clear n0_ n1_ n2_; (try clear hb); (try clear hb2); (try clear hk); (try clear hi); (try clear ho0); obtain ⟨Ao32, co32, eo32⟩ := Kd.R_slice HO175.out; subst eo32) | ((with_reducible refine gate_callee (f := 26) rfl ?_); refine goesL_ (some 24) rfl rfl Tryd.func26 (by kernel_rfl) rfl #[.slice Ao32 t172.length co32] rfl (by (try simp only [List.map_toArray, List.map_cons, List.map_nil]); first | done | rfl | (simp only [List.length_drop, List.length_take]; rfl)) ?_; (with_reducible refine (rscode_Decode.calls _ _ t172 t176 t177 t178 _ ?side1 ?side2 A5.out).mono ?_); (case side1 => repeat (first | exact (Kd.R_reads' HO175.out).2.2 | (with_reducible refine Kd.C_alloc ?_ _) | (with_reducible refine Kd.C_drewN ?_ _) | (with_reducible refine Kd.C_drew ?_))); (case side2 => exact (Kd.R_reads' HO175.out).2.1); rintro e w33 ⟨v179, rfl, ho0, hb⟩; refine ⟨_, rfl, ?_⟩; have n0_ := Aside0.mk (Kd.R_elder' (by (with_reducible repeat (first | apply Kd.R_alloc | apply Kd.R_drewN | apply Kd.R_drew)); exact HO175.out) (Kd.R_base ho0) hb); have n1_ := Aside0.mk (Kd.R_lower (Kd.R_new' ho0 (Kd.R_lt (by (with_reducible repeat (first | apply Kd.R_alloc | apply Kd.R_drewN | apply Kd.R_drew)); exact HO175.out))) (below_size (by repeat (first | (with_reducible first | exact HB.out | apply below_alloc | apply pw_below_drewN | apply below_drew1 | refine below_set ?_ GE169.out) | exact HB.out)))); have n2_ := Aside0.mk (blk_below (g := gb169) (o := .cells #[.int .i64 0, .int .i64 0, .int .i64 0, .int .i64 0] 29 (0, 0)) (by (with_reducible repeat (first | refine blk_drewN ?_ _ | refine blk_drew ?_ | refine blk_alloc ?_ _)); exact BK169.out) hb); have n3_ := Aside0.mk (below_step (by repeat (first | (with_reducible first | exact HB.out | apply below_alloc | apply pw_below_drewN | apply below_drew1 | refine below_set ?_ GE169.out) | exact HB.out)) hb); clear HO175; clear BK169; clear HB; have HO175 := n0_; have HO180 := n1_; have BK169 := n2_; have HB := n3_; clear n0_ n1_ n2_ n3_; (try clear hb); (try clear hb2); (try clear hk); (try clear hi); (try clear ho0)))
                    have n0_ := Aside0.mk (Kd.R_drew HO175.out)
                    have n1_ := Aside0.mk (Kd.R_drew HO180.out)
                    have n2_ := Aside0.mk (blk_drew BK169.out)
                    have n3_ := Aside0.mk (below_drew1 HB.out)
                    clear HO175
                    clear HO180
                    clear BK169
                    clear HB
                    have HO175 := n0_
                    have HO180 := n1_
                    have BK169 := n2_
                    have HB := n3_
                    clear n0_ n1_ n2_ n3_
                    obtain ⟨Ao35, co35, eo35⟩ := Kd.R_slice HO180.out
                    (first | subst eo35 | (injection eo35 with f1_ f2_ f3_; have f4_ := f1_.symm; have f5_ := f3_.symm; clear f1_ f2_ f3_; subst f4_; subst f5_))
                    have p181 : 0 ≤ (0 : Int) := (by omega)
                    have q181 : 0 < (t176.length : Int) := of_decide_eq_true (by first | (with_reducible assumption) | assumption)
                    obtain ⟨ad181, e181, hx181_0⟩ := Kd.at_int (Kd.R_reads' HO180.out).2.2 0 p181 q181
                    cases e181
                    have qi181 : (0 < t176.length) = True := eq_true (by omega)
                    (try rw [show ((0 : Int)).toNat = 0 from rfl] at hx181_0)
                    (try rw [Addr.add_zero'] at hx181_0)
                    replace p181 := eq_true p181
                    replace q181 := eq_true q181
                    have p182 : 0 ≤ (1 : Int) := (by omega)
                    have q182 : 1 < (t176.length : Int) := of_decide_eq_true (by first | (with_reducible assumption) | assumption)
                    obtain ⟨ad182, e182, hx182_0⟩ := Kd.at_int (Kd.R_reads' HO180.out).2.2 1 p182 q182
                    obtain rfl : ad181 = ad182 := (by injection e182)
                    (try simp only [show (1 : Int).toNat = 1 from rfl, Nat.reduceMul, Nat.reduceEqDiff, Go.Addr.add, ↓reduceIte] at hx182_0)
                    have qi182 : (1 < t176.length) = True := eq_true (by omega)
                    (try rw [show ((1 : Int)).toNat = 1 from rfl] at hx182_0)
                    replace p182 := eq_true p182
                    replace q182 := eq_true q182
                    have p183 : 0 ≤ (2 : Int) := (by omega)
                    have q183 : 2 < (t176.length : Int) := of_decide_eq_true (by first | (with_reducible assumption) | assumption)
                    obtain ⟨ad183, e183, hx183_0⟩ := Kd.at_int (Kd.R_reads' HO180.out).2.2 2 p183 q183
                    obtain rfl : ad181 = ad183 := (by injection e183)
                    (try simp only [show (2 : Int).toNat = 2 from rfl, Nat.reduceMul, Nat.reduceEqDiff, Go.Addr.add, ↓reduceIte] at hx183_0)
                    have qi183 : (2 < t176.length) = True := eq_true (by omega)
                    (try rw [show ((2 : Int)).toNat = 2 from rfl] at hx183_0)
                    replace p183 := eq_true p183
                    replace q183 := eq_true q183
                    have p184 : 0 ≤ (3 : Int) := (by omega)
                    have q184 : 3 < (t176.length : Int) := of_decide_eq_true (by first | (with_reducible assumption) | assumption)
                    obtain ⟨ad184, e184, hx184_0⟩ := Kd.at_int (Kd.R_reads' HO180.out).2.2 3 p184 q184
                    obtain rfl : ad181 = ad184 := (by injection e184)
                    (try simp only [show (3 : Int).toNat = 3 from rfl, Nat.reduceMul, Nat.reduceEqDiff, Go.Addr.add, ↓reduceIte] at hx184_0)
                    have qi184 : (3 < t176.length) = True := eq_true (by omega)
                    (try rw [show ((3 : Int)).toNat = 3 from rfl] at hx184_0)
                    replace p184 := eq_true p184
                    replace q184 := eq_true q184
                    have p185 : 0 ≤ (4 : Int) := (by omega)
                    have q185 : 4 < (t176.length : Int) := of_decide_eq_true (by first | (with_reducible assumption) | assumption)
                    obtain ⟨ad185, e185, hx185_0⟩ := Kd.at_int (Kd.R_reads' HO180.out).2.2 4 p185 q185
                    obtain rfl : ad181 = ad185 := (by injection e185)
                    (try simp only [show (4 : Int).toNat = 4 from rfl, Nat.reduceMul, Nat.reduceEqDiff, Go.Addr.add, ↓reduceIte] at hx185_0)
                    have qi185 : (4 < t176.length) = True := eq_true (by omega)
                    (try rw [show ((4 : Int)).toNat = 4 from rfl] at hx185_0)
                    replace p185 := eq_true p185
                    replace q185 := eq_true q185
                    have p186 : 0 ≤ (5 : Int) := (by omega)
                    have q186 : 5 < (t176.length : Int) := of_decide_eq_true (by first | (with_reducible assumption) | assumption)
                    obtain ⟨ad186, e186, hx186_0⟩ := Kd.at_int (Kd.R_reads' HO180.out).2.2 5 p186 q186
                    obtain rfl : ad181 = ad186 := (by injection e186)
                    (try simp only [show (5 : Int).toNat = 5 from rfl, Nat.reduceMul, Nat.reduceEqDiff, Go.Addr.add, ↓reduceIte] at hx186_0)
                    have qi186 : (5 < t176.length) = True := eq_true (by omega)
                    (try rw [show ((5 : Int)).toNat = 5 from rfl] at hx186_0)
                    replace p186 := eq_true p186
                    replace q186 := eq_true q186
                    refine start_ (n := 24) (S := fun w' => w'.cell? ad181 = some (.int .i64 (rd t176 0)) ∧ w'.cell? ⟨ad181.block, ad181.off + 1, none⟩ = some (.int .i64 (rd t176 1)) ∧ w'.cell? ⟨ad181.block, ad181.off + 2, none⟩ = some (.int .i64 (rd t176 2)) ∧ w'.cell? ⟨ad181.block, ad181.off + 3, none⟩ = some (.int .i64 (rd t176 3)) ∧ w'.cell? ⟨ad181.block, ad181.off + 4, none⟩ = some (.int .i64 (rd t176 4)) ∧ w'.cell? ⟨ad181.block, ad181.off + 5, none⟩ = some (.int .i64 (rd t176 5))) (ds := []) #[false, false, false, false, false, false, false, false, false, false, false, false, false, false, false, false, false, false, false, false, false, false, false, false] (by kernel_rfl) rfl rfl ⟨hx181_0, hx182_0, hx183_0, hx184_0, hx185_0, hx186_0⟩ (fun hHeld => ?_); refine with_tabW strip_Read.tab8 strip_Read.bits8 (fun HT_ HW_ => ?_)
                    generalize w33.drew = w34 at HO175 HO180 BK169 HB hx181_0 hx182_0 hx183_0 hx184_0 hx185_0 hx186_0 hHeld ⊢
                    refine pure_ (i := 0) (N := some 32) (v := ?_) (a' := ?_) #[true, false, false, false, false, false, false, false, false, false, false, false, false, false, false, false, false, false, false, false, false, false, false, false] rfl rfl (any_of HT_.out (by kernel_rfl)) (fun _ _ _ h => h) (Or.inl ⟨by rfl, ?_⟩) ?_ ?_
                    rotate_left
                    · intro w'
                      go_simp
                      with_reducible rfl
                    rotate_left
                    · simp only [Act.put, List.setIfInBounds_toArray, List.set_cons_zero, List.set_cons_succ, i64_w, i32_w]
                      rfl
                    refine pure_ (i := 1) (N := some 33) (v := ?_) (a' := ?_) #[true, true, false, false, false, false, false, false, false, false, false, false, false, false, false, false, false, false, false, false, false, false, false, false] rfl rfl (any_of HT_.out (by kernel_rfl)) (fun _ _ _ h => h) (Or.inl ⟨by rfl, ?_⟩) ?_ ?_
                    rotate_left
                    · intro w'
                      go_simp
                      with_reducible rfl
                    rotate_left
                    · simp only [Act.put, List.setIfInBounds_toArray, List.set_cons_zero, List.set_cons_succ, i64_w, i32_w]
                      rfl
                    refine pure_ (i := 3) (N := some 35) (v := ?_) (a' := ?_) #[true, true, false, true, false, false, false, false, false, false, false, false, false, false, false, false, false, false, false, false, false, false, false, false] rfl rfl (any_of HT_.out (by kernel_rfl)) (fun _ _ _ h => h) (Or.inl ⟨by rfl, ?_⟩) ?_ ?_
                    rotate_left
                    · intro w'
                      go_simp
                      with_reducible rfl
                    rotate_left
                    · simp only [Act.put, List.setIfInBounds_toArray, List.set_cons_zero, List.set_cons_succ, i64_w, i32_w]
                      rfl
                    refine pure_ (i := 4) (N := some 36) (v := ?_) (a' := ?_) #[true, true, false, true, true, false, false, false, false, false, false, false, false, false, false, false, false, false, false, false, false, false, false, false] rfl rfl (any_of HT_.out (by kernel_rfl)) (fun _ _ _ h => h) (Or.inl ⟨by rfl, ?_⟩) ?_ ?_
                    rotate_left
                    · intro w'
                      go_simp
                      with_reducible rfl
                    rotate_left
                    · simp only [Act.put, List.setIfInBounds_toArray, List.set_cons_zero, List.set_cons_succ, i64_w, i32_w]
                      rfl
                    refine pure_ (i := 7) (N := some 39) (v := ?_) (a' := ?_) #[true, true, false, true, true, false, false, true, false, false, false, false, false, false, false, false, false, false, false, false, false, false, false, false] rfl rfl (any_of HT_.out (by kernel_rfl)) (fun _ _ _ h => h) (Or.inl ⟨by rfl, ?_⟩) ?_ ?_
                    rotate_left
                    · intro w'
                      go_simp
                      with_reducible rfl
                    rotate_left
                    · simp only [Act.put, List.setIfInBounds_toArray, List.set_cons_zero, List.set_cons_succ, i64_w, i32_w]
                      rfl
                    refine pure_ (i := 8) (N := some 40) (v := ?_) (a' := ?_) #[true, true, false, true, true, false, false, true, true, false, false, false, false, false, false, false, false, false, false, false, false, false, false, false] rfl rfl (any_of HT_.out (by kernel_rfl)) (fun _ _ _ h => h) (Or.inl ⟨by rfl, ?_⟩) ?_ ?_
                    rotate_left
                    · intro w'
                      go_simp
                      with_reducible rfl
                    rotate_left
                    · simp only [Act.put, List.setIfInBounds_toArray, List.set_cons_zero, List.set_cons_succ, i64_w, i32_w]
                      rfl
                    refine pure_ (i := 12) (N := some 44) (v := ?_) (a' := ?_) #[true, true, false, true, true, false, false, true, true, false, false, false, true, false, false, false, false, false, false, false, false, false, false, false] rfl rfl (any_of HT_.out (by kernel_rfl)) (fun _ _ _ h => h) (Or.inl ⟨by rfl, ?_⟩) ?_ ?_
                    rotate_left
                    · intro w'
                      go_simp
                      with_reducible rfl
                    rotate_left
                    · simp only [Act.put, List.setIfInBounds_toArray, List.set_cons_zero, List.set_cons_succ, i64_w, i32_w]
                      rfl
                    refine pure_ (i := 13) (N := some 45) (v := ?_) (a' := ?_) #[true, true, false, true, true, false, false, true, true, false, false, false, true, true, false, false, false, false, false, false, false, false, false, false] rfl rfl (any_of HT_.out (by kernel_rfl)) (fun _ _ _ h => h) (Or.inl ⟨by rfl, ?_⟩) ?_ ?_
                    rotate_left
                    · intro w'
                      go_simp
                      with_reducible rfl
                    rotate_left
                    · simp only [Act.put, List.setIfInBounds_toArray, List.set_cons_zero, List.set_cons_succ, i64_w, i32_w]
                      rfl
                    refine pure_ (i := 16) (N := some 48) (v := ?_) (a' := ?_) #[true, true, false, true, true, false, false, true, true, false, false, false, true, true, false, false, true, false, false, false, false, false, false, false] rfl rfl (any_of HT_.out (by kernel_rfl)) (fun _ _ _ h => h) (Or.inl ⟨by rfl, ?_⟩) ?_ ?_
                    rotate_left
                    · intro w'
                      go_simp
                      with_reducible rfl
                    rotate_left
                    · simp only [Act.put, List.setIfInBounds_toArray, List.set_cons_zero, List.set_cons_succ, i64_w, i32_w]
                      rfl
                    refine pure_ (i := 17) (N := some 49) (v := ?_) (a' := ?_) #[true, true, false, true, true, false, false, true, true, false, false, false, true, true, false, false, true, true, false, false, false, false, false, false] rfl rfl (any_of HT_.out (by kernel_rfl)) (fun _ _ _ h => h) (Or.inl ⟨by rfl, ?_⟩) ?_ ?_
                    rotate_left
                    · intro w'
                      go_simp
                      with_reducible rfl
                    rotate_left
                    · simp only [Act.put, List.setIfInBounds_toArray, List.set_cons_zero, List.set_cons_succ, i64_w, i32_w]
                      rfl
                    refine pure_ (i := 19) (N := some 51) (v := ?_) (a' := ?_) #[true, true, false, true, true, false, false, true, true, false, false, false, true, true, false, false, true, true, false, true, false, false, false, false] rfl rfl (any_of HT_.out (by kernel_rfl)) (fun _ _ _ h => h) (Or.inl ⟨by rfl, ?_⟩) ?_ ?_
                    rotate_left
                    · intro w'
                      go_simp
                      with_reducible rfl
                    rotate_left
                    · simp only [Act.put, List.setIfInBounds_toArray, List.set_cons_zero, List.set_cons_succ, i64_w, i32_w]
                      rfl
                    refine pure_ (i := 20) (N := some 52) (v := ?_) (a' := ?_) #[true, true, false, true, true, false, false, true, true, false, false, false, true, true, false, false, true, true, false, true, true, false, false, false] rfl rfl (any_of HT_.out (by kernel_rfl)) (fun _ _ _ h => h) (Or.inl ⟨by rfl, ?_⟩) ?_ ?_
                    rotate_left
                    · intro w'
                      go_simp
                      with_reducible rfl
                    rotate_left
                    · simp only [Act.put, List.setIfInBounds_toArray, List.set_cons_zero, List.set_cons_succ, i64_w, i32_w]
                      rfl
                    refine take_ (i := 2) (N := some 34) (v := ?_) (a' := ?_) #[true, true, true, true, true, false, false, true, true, false, false, false, true, true, false, false, true, true, false, true, true, false, false, false] rfl rfl (take_ofW HT_.out HW_.out (by kernel_rfl)) (fun _ _ _ h => h) (Or.inl ⟨by rfl, ?_⟩) hHeld ?_ ?_
                    rotate_left
                    · rintro w' ⟨s0, s1, s2, s3, s4, s5⟩
                      go_simp
                      with_reducible rfl
                    rotate_left
                    · simp only [Act.put, List.setIfInBounds_toArray, List.set_cons_zero, List.set_cons_succ, i64_w, i32_w]
                      rfl
                    refine take_ (i := 5) (N := some 37) (v := ?_) (a' := ?_) #[true, true, true, true, true, true, false, true, true, false, false, false, true, true, false, false, true, true, false, true, true, false, false, false] rfl rfl (take_ofW HT_.out HW_.out (by kernel_rfl)) (fun _ _ _ h => h) (Or.inl ⟨by rfl, ?_⟩) hHeld ?_ ?_
                    rotate_left
                    · rintro w' ⟨s0, s1, s2, s3, s4, s5⟩
                      go_simp
                      with_reducible rfl
                    rotate_left
                    · simp only [Act.put, List.setIfInBounds_toArray, List.set_cons_zero, List.set_cons_succ, i64_w, i32_w]
                      rfl
                    refine pure_ (i := 6) (N := some 38) (v := ?_) (a' := ?_) #[true, true, true, true, true, true, true, true, true, false, false, false, true, true, false, false, true, true, false, true, true, false, false, false] rfl rfl (any_of HT_.out (by kernel_rfl)) (fun _ _ _ h => h) (Or.inl ⟨by rfl, ?_⟩) ?_ ?_
                    rotate_left
                    · intro w'
                      go_simp
                      with_reducible rfl
                    rotate_left
                    · simp only [Act.put, List.setIfInBounds_toArray, List.set_cons_zero, List.set_cons_succ, i64_w, i32_w]
                      rfl
                    refine take_ (i := 9) (N := some 41) (v := ?_) (a' := ?_) #[true, true, true, true, true, true, true, true, true, true, false, false, true, true, false, false, true, true, false, true, true, false, false, false] rfl rfl (take_ofW HT_.out HW_.out (by kernel_rfl)) (fun _ _ _ h => h) (Or.inl ⟨by rfl, ?_⟩) hHeld ?_ ?_
                    rotate_left
                    · rintro w' ⟨s0, s1, s2, s3, s4, s5⟩
                      go_simp
                      with_reducible rfl
                    rotate_left
                    · simp only [Act.put, List.setIfInBounds_toArray, List.set_cons_zero, List.set_cons_succ, i64_w, i32_w]
                      rfl
                    refine pure_ (i := 10) (N := some 42) (v := ?_) (a' := ?_) #[true, true, true, true, true, true, true, true, true, true, true, false, true, true, false, false, true, true, false, true, true, false, false, false] rfl rfl (any_of HT_.out (by kernel_rfl)) (fun _ _ _ h => h) (Or.inl ⟨by rfl, ?_⟩) ?_ ?_
                    rotate_left
                    · intro w'
                      go_simp
                      with_reducible rfl
                    rotate_left
                    · simp only [Act.put, List.setIfInBounds_toArray, List.set_cons_zero, List.set_cons_succ, i64_w, i32_w]
                      rfl
                    refine pure_ (i := 11) (N := some 43) (v := ?_) (a' := ?_) #[true, true, true, true, true, true, true, true, true, true, true, true, true, true, false, false, true, true, false, true, true, false, false, false] rfl rfl (any_of HT_.out (by kernel_rfl)) (fun _ _ _ h => h) (Or.inl ⟨by rfl, ?_⟩) ?_ ?_
                    rotate_left
                    · intro w'
                      go_simp
                      with_reducible rfl
                    rotate_left
                    · simp only [Act.put, List.setIfInBounds_toArray, List.set_cons_zero, List.set_cons_succ, i64_w, i32_w]
                      rfl
                    refine take_ (i := 14) (N := some 46) (v := ?_) (a' := ?_) #[true, true, true, true, true, true, true, true, true, true, true, true, true, true, true, false, true, true, false, true, true, false, false, false] rfl rfl (take_ofW HT_.out HW_.out (by kernel_rfl)) (fun _ _ _ h => h) (Or.inl ⟨by rfl, ?_⟩) hHeld ?_ ?_
                    rotate_left
                    · rintro w' ⟨s0, s1, s2, s3, s4, s5⟩
                      go_simp
                      with_reducible rfl
                    rotate_left
                    · simp only [Act.put, List.setIfInBounds_toArray, List.set_cons_zero, List.set_cons_succ, i64_w, i32_w]
                      rfl
                    refine pure_ (i := 15) (N := some 47) (v := ?_) (a' := ?_) #[true, true, true, true, true, true, true, true, true, true, true, true, true, true, true, true, true, true, false, true, true, false, false, false] rfl rfl (any_of HT_.out (by kernel_rfl)) (fun _ _ _ h => h) (Or.inl ⟨by rfl, ?_⟩) ?_ ?_
                    rotate_left
                    · intro w'
                      go_simp
                      with_reducible rfl
                    rotate_left
                    · simp only [Act.put, List.setIfInBounds_toArray, List.set_cons_zero, List.set_cons_succ, i64_w, i32_w]
                      rfl
                    refine take_ (i := 18) (N := some 50) (v := ?_) (a' := ?_) #[true, true, true, true, true, true, true, true, true, true, true, true, true, true, true, true, true, true, true, true, true, false, false, false] rfl rfl (take_ofW HT_.out HW_.out (by kernel_rfl)) (fun _ _ _ h => h) (Or.inl ⟨by rfl, ?_⟩) hHeld ?_ ?_
                    rotate_left
                    · rintro w' ⟨s0, s1, s2, s3, s4, s5⟩
                      go_simp
                      with_reducible rfl
                    rotate_left
                    · simp only [Act.put, List.setIfInBounds_toArray, List.set_cons_zero, List.set_cons_succ, i64_w, i32_w]
                      rfl
                    refine take_ (i := 21) (N := some 53) (v := ?_) (a' := ?_) #[true, true, true, true, true, true, true, true, true, true, true, true, true, true, true, true, true, true, true, true, true, true, false, false] rfl rfl (take_ofW HT_.out HW_.out (by kernel_rfl)) (fun _ _ _ h => h) (Or.inl ⟨by rfl, ?_⟩) hHeld ?_ ?_
                    rotate_left
                    · rintro w' ⟨s0, s1, s2, s3, s4, s5⟩
                      go_simp
                      with_reducible rfl
                    rotate_left
                    · simp only [Act.put, List.setIfInBounds_toArray, List.set_cons_zero, List.set_cons_succ, i64_w, i32_w]
                      rfl
                    refine pure_ (i := 22) (N := some 54) (v := ?_) (a' := ?_) #[true, true, true, true, true, true, true, true, true, true, true, true, true, true, true, true, true, true, true, true, true, true, true, false] rfl rfl (any_of HT_.out (by kernel_rfl)) (fun _ _ _ h => h) (Or.inl ⟨by rfl, ?_⟩) ?_ ?_
                    rotate_left
                    · intro w'
                      go_simp
                      with_reducible rfl
                    rotate_left
                    · simp only [Act.put, List.setIfInBounds_toArray, List.set_cons_zero, List.set_cons_succ, i64_w, i32_w]
                      rfl
                    refine one_ (i := 23) (N := none) #[true, true, true, true, true, true, true, true, true, true, true, true, true, true, true, true, true, true, true, true, true, true, true, true] rfl rfl (one_of HT_.out (by kernel_rfl)) (by decide) (fun K hK => ?_)
                    have hs36 : w34.cell? ⟨gb169, 0, none⟩ = some (.int .i64 0) := (blk_cell BK169.out 0).trans rfl
                    have hfs36 := blk_frozen BK169.out 0
                    have hs37 : w34.cell? ⟨gb169, 1, none⟩ = some (.int .i64 0) := (blk_cell BK169.out 1).trans rfl
                    have hfs37 := blk_frozen BK169.out 1
                    have hs38 : w34.cell? ⟨gb169, 2, none⟩ = some (.int .i64 0) := (blk_cell BK169.out 2).trans rfl
                    have hfs38 := blk_frozen BK169.out 2
                    have hs39 : w34.cell? ⟨gb169, 3, none⟩ = some (.int .i64 0) := (blk_cell BK169.out 3).trans rfl
                    have hfs39 := blk_frozen BK169.out 3
                    refine skip_ (w1 := ?_) (by rfl) rfl ?_ ?_
                    rotate_left
                    · go_simp
                      rfl
                    refine hK.out _ _ ⟨((cell_far (p := ⟨gb169, _, none⟩) (by first | exact Kd.own_blk (Kd.R_ne HO180.out BK169.out (by decide)) | (rw [add_block]; exact Kd.own_blk (Kd.R_ne HO180.out BK169.out (by decide))) | (show (Addr.add _ _).block ≠ _; rw [add_block]; exact Kd.own_blk (Kd.R_ne HO180.out BK169.out (by decide))) | (dsimp only; exact Kd.own_blk (Kd.R_ne HO180.out BK169.out (by decide)))) _).trans (((cell_far (p := ⟨gb169, _, none⟩) (by first | exact Kd.own_blk (Kd.R_ne HO180.out BK169.out (by decide)) | (rw [add_block]; exact Kd.own_blk (Kd.R_ne HO180.out BK169.out (by decide))) | (show (Addr.add _ _).block ≠ _; rw [add_block]; exact Kd.own_blk (Kd.R_ne HO180.out BK169.out (by decide))) | (dsimp only; exact Kd.own_blk (Kd.R_ne HO180.out BK169.out (by decide)))) _).trans (((cell_far (p := ⟨gb169, _, none⟩) (by first | exact Kd.own_blk (Kd.R_ne HO180.out BK169.out (by decide)) | (rw [add_block]; exact Kd.own_blk (Kd.R_ne HO180.out BK169.out (by decide))) | (show (Addr.add _ _).block ≠ _; rw [add_block]; exact Kd.own_blk (Kd.R_ne HO180.out BK169.out (by decide))) | (dsimp only; exact Kd.own_blk (Kd.R_ne HO180.out BK169.out (by decide)))) _).trans (((cell_far (p := ⟨gb169, _, none⟩) (by first | exact Kd.own_blk (Kd.R_ne HO180.out BK169.out (by decide)) | (rw [add_block]; exact Kd.own_blk (Kd.R_ne HO180.out BK169.out (by decide))) | (show (Addr.add _ _).block ≠ _; rw [add_block]; exact Kd.own_blk (Kd.R_ne HO180.out BK169.out (by decide))) | (dsimp only; exact Kd.own_blk (Kd.R_ne HO180.out BK169.out (by decide)))) _).trans (hHeld.1)))))))), ((cell_far (p := ⟨gb169, _, none⟩) (by first | exact Kd.own_blk (Kd.R_ne HO180.out BK169.out (by decide)) | (rw [add_block]; exact Kd.own_blk (Kd.R_ne HO180.out BK169.out (by decide))) | (show (Addr.add _ _).block ≠ _; rw [add_block]; exact Kd.own_blk (Kd.R_ne HO180.out BK169.out (by decide))) | (dsimp only; exact Kd.own_blk (Kd.R_ne HO180.out BK169.out (by decide)))) _).trans (((cell_far (p := ⟨gb169, _, none⟩) (by first | exact Kd.own_blk (Kd.R_ne HO180.out BK169.out (by decide)) | (rw [add_block]; exact Kd.own_blk (Kd.R_ne HO180.out BK169.out (by decide))) | (show (Addr.add _ _).block ≠ _; rw [add_block]; exact Kd.own_blk (Kd.R_ne HO180.out BK169.out (by decide))) | (dsimp only; exact Kd.own_blk (Kd.R_ne HO180.out BK169.out (by decide)))) _).trans (((cell_far (p := ⟨gb169, _, none⟩) (by first | exact Kd.own_blk (Kd.R_ne HO180.out BK169.out (by decide)) | (rw [add_block]; exact Kd.own_blk (Kd.R_ne HO180.out BK169.out (by decide))) | (show (Addr.add _ _).block ≠ _; rw [add_block]; exact Kd.own_blk (Kd.R_ne HO180.out BK169.out (by decide))) | (dsimp only; exact Kd.own_blk (Kd.R_ne HO180.out BK169.out (by decide)))) _).trans (((cell_far (p := ⟨gb169, _, none⟩) (by first | exact Kd.own_blk (Kd.R_ne HO180.out BK169.out (by decide)) | (rw [add_block]; exact Kd.own_blk (Kd.R_ne HO180.out BK169.out (by decide))) | (show (Addr.add _ _).block ≠ _; rw [add_block]; exact Kd.own_blk (Kd.R_ne HO180.out BK169.out (by decide))) | (dsimp only; exact Kd.own_blk (Kd.R_ne HO180.out BK169.out (by decide)))) _).trans (hHeld.2.1)))))))), ((cell_far (p := ⟨gb169, _, none⟩) (by first | exact Kd.own_blk (Kd.R_ne HO180.out BK169.out (by decide)) | (rw [add_block]; exact Kd.own_blk (Kd.R_ne HO180.out BK169.out (by decide))) | (show (Addr.add _ _).block ≠ _; rw [add_block]; exact Kd.own_blk (Kd.R_ne HO180.out BK169.out (by decide))) | (dsimp only; exact Kd.own_blk (Kd.R_ne HO180.out BK169.out (by decide)))) _).trans (((cell_far (p := ⟨gb169, _, none⟩) (by first | exact Kd.own_blk (Kd.R_ne HO180.out BK169.out (by decide)) | (rw [add_block]; exact Kd.own_blk (Kd.R_ne HO180.out BK169.out (by decide))) | (show (Addr.add _ _).block ≠ _; rw [add_block]; exact Kd.own_blk (Kd.R_ne HO180.out BK169.out (by decide))) | (dsimp only; exact Kd.own_blk (Kd.R_ne HO180.out BK169.out (by decide)))) _).trans (((cell_far (p := ⟨gb169, _, none⟩) (by first | exact Kd.own_blk (Kd.R_ne HO180.out BK169.out (by decide)) | (rw [add_block]; exact Kd.own_blk (Kd.R_ne HO180.out BK169.out (by decide))) | (show (Addr.add _ _).block ≠ _; rw [add_block]; exact Kd.own_blk (Kd.R_ne HO180.out BK169.out (by decide))) | (dsimp only; exact Kd.own_blk (Kd.R_ne HO180.out BK169.out (by decide)))) _).trans (((cell_far (p := ⟨gb169, _, none⟩) (by first | exact Kd.own_blk (Kd.R_ne HO180.out BK169.out (by decide)) | (rw [add_block]; exact Kd.own_blk (Kd.R_ne HO180.out BK169.out (by decide))) | (show (Addr.add _ _).block ≠ _; rw [add_block]; exact Kd.own_blk (Kd.R_ne HO180.out BK169.out (by decide))) | (dsimp only; exact Kd.own_blk (Kd.R_ne HO180.out BK169.out (by decide)))) _).trans (hHeld.2.2.1)))))))), ((cell_far (p := ⟨gb169, _, none⟩) (by first | exact Kd.own_blk (Kd.R_ne HO180.out BK169.out (by decide)) | (rw [add_block]; exact Kd.own_blk (Kd.R_ne HO180.out BK169.out (by decide))) | (show (Addr.add _ _).block ≠ _; rw [add_block]; exact Kd.own_blk (Kd.R_ne HO180.out BK169.out (by decide))) | (dsimp only; exact Kd.own_blk (Kd.R_ne HO180.out BK169.out (by decide)))) _).trans (((cell_far (p := ⟨gb169, _, none⟩) (by first | exact Kd.own_blk (Kd.R_ne HO180.out BK169.out (by decide)) | (rw [add_block]; exact Kd.own_blk (Kd.R_ne HO180.out BK169.out (by decide))) | (show (Addr.add _ _).block ≠ _; rw [add_block]; exact Kd.own_blk (Kd.R_ne HO180.out BK169.out (by decide))) | (dsimp only; exact Kd.own_blk (Kd.R_ne HO180.out BK169.out (by decide)))) _).trans (((cell_far (p := ⟨gb169, _, none⟩) (by first | exact Kd.own_blk (Kd.R_ne HO180.out BK169.out (by decide)) | (rw [add_block]; exact Kd.own_blk (Kd.R_ne HO180.out BK169.out (by decide))) | (show (Addr.add _ _).block ≠ _; rw [add_block]; exact Kd.own_blk (Kd.R_ne HO180.out BK169.out (by decide))) | (dsimp only; exact Kd.own_blk (Kd.R_ne HO180.out BK169.out (by decide)))) _).trans (((cell_far (p := ⟨gb169, _, none⟩) (by first | exact Kd.own_blk (Kd.R_ne HO180.out BK169.out (by decide)) | (rw [add_block]; exact Kd.own_blk (Kd.R_ne HO180.out BK169.out (by decide))) | (show (Addr.add _ _).block ≠ _; rw [add_block]; exact Kd.own_blk (Kd.R_ne HO180.out BK169.out (by decide))) | (dsimp only; exact Kd.own_blk (Kd.R_ne HO180.out BK169.out (by decide)))) _).trans (hHeld.2.2.2.1)))))))), ((cell_far (p := ⟨gb169, _, none⟩) (by first | exact Kd.own_blk (Kd.R_ne HO180.out BK169.out (by decide)) | (rw [add_block]; exact Kd.own_blk (Kd.R_ne HO180.out BK169.out (by decide))) | (show (Addr.add _ _).block ≠ _; rw [add_block]; exact Kd.own_blk (Kd.R_ne HO180.out BK169.out (by decide))) | (dsimp only; exact Kd.own_blk (Kd.R_ne HO180.out BK169.out (by decide)))) _).trans (((cell_far (p := ⟨gb169, _, none⟩) (by first | exact Kd.own_blk (Kd.R_ne HO180.out BK169.out (by decide)) | (rw [add_block]; exact Kd.own_blk (Kd.R_ne HO180.out BK169.out (by decide))) | (show (Addr.add _ _).block ≠ _; rw [add_block]; exact Kd.own_blk (Kd.R_ne HO180.out BK169.out (by decide))) | (dsimp only; exact Kd.own_blk (Kd.R_ne HO180.out BK169.out (by decide)))) _).trans (((cell_far (p := ⟨gb169, _, none⟩) (by first | exact Kd.own_blk (Kd.R_ne HO180.out BK169.out (by decide)) | (rw [add_block]; exact Kd.own_blk (Kd.R_ne HO180.out BK169.out (by decide))) | (show (Addr.add _ _).block ≠ _; rw [add_block]; exact Kd.own_blk (Kd.R_ne HO180.out BK169.out (by decide))) | (dsimp only; exact Kd.own_blk (Kd.R_ne HO180.out BK169.out (by decide)))) _).trans (((cell_far (p := ⟨gb169, _, none⟩) (by first | exact Kd.own_blk (Kd.R_ne HO180.out BK169.out (by decide)) | (rw [add_block]; exact Kd.own_blk (Kd.R_ne HO180.out BK169.out (by decide))) | (show (Addr.add _ _).block ≠ _; rw [add_block]; exact Kd.own_blk (Kd.R_ne HO180.out BK169.out (by decide))) | (dsimp only; exact Kd.own_blk (Kd.R_ne HO180.out BK169.out (by decide)))) _).trans (hHeld.2.2.2.2.1)))))))), ((cell_far (p := ⟨gb169, _, none⟩) (by first | exact Kd.own_blk (Kd.R_ne HO180.out BK169.out (by decide)) | (rw [add_block]; exact Kd.own_blk (Kd.R_ne HO180.out BK169.out (by decide))) | (show (Addr.add _ _).block ≠ _; rw [add_block]; exact Kd.own_blk (Kd.R_ne HO180.out BK169.out (by decide))) | (dsimp only; exact Kd.own_blk (Kd.R_ne HO180.out BK169.out (by decide)))) _).trans (((cell_far (p := ⟨gb169, _, none⟩) (by first | exact Kd.own_blk (Kd.R_ne HO180.out BK169.out (by decide)) | (rw [add_block]; exact Kd.own_blk (Kd.R_ne HO180.out BK169.out (by decide))) | (show (Addr.add _ _).block ≠ _; rw [add_block]; exact Kd.own_blk (Kd.R_ne HO180.out BK169.out (by decide))) | (dsimp only; exact Kd.own_blk (Kd.R_ne HO180.out BK169.out (by decide)))) _).trans (((cell_far (p := ⟨gb169, _, none⟩) (by first | exact Kd.own_blk (Kd.R_ne HO180.out BK169.out (by decide)) | (rw [add_block]; exact Kd.own_blk (Kd.R_ne HO180.out BK169.out (by decide))) | (show (Addr.add _ _).block ≠ _; rw [add_block]; exact Kd.own_blk (Kd.R_ne HO180.out BK169.out (by decide))) | (dsimp only; exact Kd.own_blk (Kd.R_ne HO180.out BK169.out (by decide)))) _).trans (((cell_far (p := ⟨gb169, _, none⟩) (by first | exact Kd.own_blk (Kd.R_ne HO180.out BK169.out (by decide)) | (rw [add_block]; exact Kd.own_blk (Kd.R_ne HO180.out BK169.out (by decide))) | (show (Addr.add _ _).block ≠ _; rw [add_block]; exact Kd.own_blk (Kd.R_ne HO180.out BK169.out (by decide))) | (dsimp only; exact Kd.own_blk (Kd.R_ne HO180.out BK169.out (by decide)))) _).trans (hHeld.2.2.2.2.2))))))))⟩ (fun hHeld => ?_)
                    clear hK K
                    refine done_ (done_of HT_.out (by kernel_rfl)) ?_
                    have hcz40_0 : w34.cell? ⟨gb169, 0, none⟩ = some (.int .i64 0) := (blk_cell BK169.out 0).trans rfl
                    have hcz40_1 : w34.cell? ⟨gb169, 1, none⟩ = some (.int .i64 0) := (blk_cell BK169.out 1).trans rfl
                    have hcz40_2 : w34.cell? ⟨gb169, 2, none⟩ = some (.int .i64 0) := (blk_cell BK169.out 2).trans rfl
                    have hcz40_3 : w34.cell? ⟨gb169, 3, none⟩ = some (.int .i64 0) := (blk_cell BK169.out 3).trans rfl
                    have hfz40_0 := blk_frozen BK169.out 0
                    have hfz40_1 := blk_frozen BK169.out 1
                    have hfz40_2 := blk_frozen BK169.out 2
                    have hfz40_3 := blk_frozen BK169.out 3
                    try go_wp2_with (first | ((with_reducible refine gate_callee (f := 27) rfl ?_); refine goesL_ (some 56) rfl rfl Tryd.func27 (by kernel_rfl) rfl #[.agg #[.int .i64 (rd t176 0), .int .i64 (wrap64 ((wrap64 ((wrap64 ((rd t176 1) * 1024)) + (wrap64 ((rd t176 2) * 32)))) + (rd t176 3))), .int .i64 (rd t176 4), .int .i64 (rd t176 5)]] rfl (by (try simp only [List.map_toArray, List.map_cons, List.map_nil]); first | done | rfl | (simp only [List.length_drop, List.length_take]; rfl)) ?_; (with_reducible refine (strip_Valid.calls (rd t176 0) (wrap64 ((wrap64 ((wrap64 ((rd t176 1) * 1024)) + (wrap64 ((rd t176 2) * 32)))) + (rd t176 3))) (rd t176 4) (rd t176 5) false _ A13.out).mono ?_); rintro e w41 ⟨rfl, hb⟩; refine ⟨_, rfl, ?_⟩; have n0_ := Aside0.mk (Kd.R_below (by (with_reducible repeat (first | apply Kd.R_alloc | apply Kd.R_drewN | apply Kd.R_drew)); exact (Kd.R_mono (Kd.R_far (p := ⟨gb169, 3, none⟩) (Kd.R_far (p := ⟨gb169, 2, none⟩) (Kd.R_far (p := ⟨gb169, 1, none⟩) (Kd.R_far (p := ⟨gb169, 0, none⟩) (Kd.R_types HO175.out BK169.out (by decide)) (fun _ hk => hk.2) (.int .i64 (rd t176 0))) (fun _ hk => hk.2) (.int .i64 (wrap64 ((wrap64 ((wrap64 ((rd t176 1) * 1024)) + (wrap64 ((rd t176 2) * 32)))) + (rd t176 3))))) (fun _ hk => hk.2) (.int .i64 (rd t176 4))) (fun _ hk => hk.2) (.int .i64 (rd t176 5))) (fun _ h_ => h_.1))) hb); have n1_ := Aside0.mk (Kd.R_below (by (with_reducible repeat (first | apply Kd.R_alloc | apply Kd.R_drewN | apply Kd.R_drew)); exact (Kd.R_mono (Kd.R_far (p := ⟨gb169, 3, none⟩) (Kd.R_far (p := ⟨gb169, 2, none⟩) (Kd.R_far (p := ⟨gb169, 1, none⟩) (Kd.R_far (p := ⟨gb169, 0, none⟩) (Kd.R_types HO180.out BK169.out (by decide)) (fun _ hk => hk.2) (.int .i64 (rd t176 0))) (fun _ hk => hk.2) (.int .i64 (wrap64 ((wrap64 ((wrap64 ((rd t176 1) * 1024)) + (wrap64 ((rd t176 2) * 32)))) + (rd t176 3))))) (fun _ hk => hk.2) (.int .i64 (rd t176 4))) (fun _ hk => hk.2) (.int .i64 (rd t176 5))) (fun _ h_ => h_.1))) hb); have n2_ := Aside0.mk (blk_below (g := gb169) (o := .cells #[.int .i64 (rd t176 0), .int .i64 (wrap64 ((wrap64 ((wrap64 ((rd t176 1) * 1024)) + (wrap64 ((rd t176 2) * 32)))) + (rd t176 3))), .int .i64 (rd t176 4), .int .i64 (rd t176 5)] 29 (0, 0)) (by (with_reducible repeat (first | refine blk_drewN ?_ _ | refine blk_drew ?_ | refine blk_alloc ?_ _)); refine blk_put (cs := #[.int .i64 (rd t176 0), .int .i64 (wrap64 ((wrap64 ((wrap64 ((rd t176 1) * 1024)) + (wrap64 ((rd t176 2) * 32)))) + (rd t176 3))), .int .i64 (rd t176 4), .int .i64 0]) ?_ 3 _ rfl; (with_reducible repeat (first | refine blk_drewN ?_ _ | refine blk_drew ?_ | refine blk_alloc ?_ _)); refine blk_put (cs := #[.int .i64 (rd t176 0), .int .i64 (wrap64 ((wrap64 ((wrap64 ((rd t176 1) * 1024)) + (wrap64 ((rd t176 2) * 32)))) + (rd t176 3))), .int .i64 0, .int .i64 0]) ?_ 2 _ rfl; (with_reducible repeat (first | refine blk_drewN ?_ _ | refine blk_drew ?_ | refine blk_alloc ?_ _)); refine blk_put (cs := #[.int .i64 (rd t176 0), .int .i64 0, .int .i64 0, .int .i64 0]) ?_ 1 _ rfl; (with_reducible repeat (first | refine blk_drewN ?_ _ | refine blk_drew ?_ | refine blk_alloc ?_ _)); refine blk_put (cs := #[.int .i64 0, .int .i64 0, .int .i64 0, .int .i64 0]) ?_ 0 _ rfl; (with_reducible repeat (first | refine blk_drewN ?_ _ | refine blk_drew ?_ | refine blk_alloc ?_ _)); exact BK169.out) hb); have n3_ := Aside0.mk (below_step (by repeat (first | (with_reducible first | exact HB.out | apply below_alloc | apply pw_below_drewN | apply below_drew1 | refine below_set ?_ GE169.out) | exact HB.out)) hb); clear HO175; clear HO180; clear BK169; clear HB; have HO175 := n0_; have HO180 := n1_; have BK169 := n2_; have HB := n3_; clear n0_ n1_ n2_ n3_; (try clear hb); (try clear hb2); (try clear hk); (try clear hi); have hcz42_0 : w41.cell? ⟨gb169, 0, none⟩ = some (.int .i64 (rd t176 0)) := (blk_cell BK169.out 0).trans rfl; have hcz42_1 : w41.cell? ⟨gb169, 1, none⟩ = some (.int .i64 (wrap64 ((wrap64 ((wrap64 ((rd t176 1) * 1024)) + (wrap64 ((rd t176 2) * 32)))) + (rd t176 3)))) := (blk_cell BK169.out 1).trans rfl; have hcz42_2 : w41.cell? ⟨gb169, 2, none⟩ = some (.int .i64 (rd t176 4)) := (blk_cell BK169.out 2).trans rfl; have hcz42_3 : w41.cell? ⟨gb169, 3, none⟩ = some (.int .i64 (rd t176 5)) := (blk_cell BK169.out 3).trans rfl; have hfz42_0 := blk_frozen BK169.out 0; have hfz42_1 := blk_frozen BK169.out 1; have hfz42_2 := blk_frozen BK169.out 2; have hfz42_3 := blk_frozen BK169.out 3))
                    refine bodyPost_ret (results_ctt rfl _ _ gb169 29 #[.int .i64 0, .int .i64 0, .int .i64 0, .int .i64 0] (0, 0) _ rfl (by (with_reducible repeat (first | refine blk_drewN ?_ _ | refine blk_drew ?_ | refine blk_alloc ?_ _)); refine blk_put (cs := #[.int .i64 0, .int .i64 0, .int .i64 0, .int .i64 (rd t176 5)]) ?_ 3 _ rfl; (with_reducible repeat (first | refine blk_drewN ?_ _ | refine blk_drew ?_ | refine blk_alloc ?_ _)); refine blk_put (cs := #[.int .i64 0, .int .i64 0, .int .i64 (rd t176 4), .int .i64 (rd t176 5)]) ?_ 2 _ rfl; (with_reducible repeat (first | refine blk_drewN ?_ _ | refine blk_drew ?_ | refine blk_alloc ?_ _)); refine blk_put (cs := #[.int .i64 0, .int .i64 (wrap64 ((wrap64 ((wrap64 ((rd t176 1) * 1024)) + (wrap64 ((rd t176 2) * 32)))) + (rd t176 3))), .int .i64 (rd t176 4), .int .i64 (rd t176 5)]) ?_ 1 _ rfl; (with_reducible repeat (first | refine blk_drewN ?_ _ | refine blk_drew ?_ | refine blk_alloc ?_ _)); refine blk_put (cs := #[.int .i64 (rd t176 0), .int .i64 (wrap64 ((wrap64 ((wrap64 ((rd t176 1) * 1024)) + (wrap64 ((rd t176 2) * 32)))) + (rd t176 3))), .int .i64 (rd t176 4), .int .i64 (rd t176 5)]) ?_ 0 _ rfl; (with_reducible repeat (first | refine blk_drewN ?_ _ | refine blk_drew ?_ | refine blk_alloc ?_ _)); exact BK169.out) Tryd.underlying29 rfl (by kernel_rfl)) rfl ?_
                    exact ⟨by first | rfl | (simp [errW_none, errW_some] <;> rfl) | (simp [*, errW_none, errW_some] <;> rfl), by repeat (first | (with_reducible first | exact HB.out | apply below_alloc | apply pw_below_drewN | apply below_drew1 | refine below_set ?_ GE169.out) | exact HB.out)⟩
                · rw [if_neg c12] at H
                  exact absurd H (by simp)
              · rw [if_neg c11] at H
                exact absurd H (by simp)
            · rw [if_neg c10] at H
              exact absurd H (by simp)
          · rw [if_neg c9] at H
            exact absurd H (by simp)
        · rw [if_neg c8] at H
          exact absurd H (by simp)
      · rw [if_neg c7] at H
        exact absurd H (by simp)
    · rw [if_neg c6] at H
      have c6b0 : (t178 == 0) = false := beq_eq_false_iff_ne.mpr c6
      have c6b1 : (t178 != 0) = true := bne_iff_ne.mpr c6
      simp only [Option.some.injEq, Prod.mk.injEq] at H
      obtain ⟨rfl, rfl, rfl, rfl, rfl, rfl⟩ := H
      go_enter Tryd.func9, Tryd.ntmps9
      go_wp2_with (first | ((with_reducible refine gate_dst (N := 2) rfl ?_); refine box_event ?hg (N := 2) ?hd (cs := #[.int .i64 0, .int .i64 0, .int .i64 0, .int .i64 0]) (t := 29) ?hr ?_; (case hd => rfl); (case hg => rfl); (case hr => first | (go_simp; done) | (go_simp; rfl)); intro gb169 hg w43 hbox hb; have n0_ := Aside0.mk (below_step (by repeat (first | (with_reducible first | exact HB.out | apply below_alloc | apply pw_below_drewN | apply below_drew1) | exact HB.out)) hb); have n1_ := Aside0.mk (hbox); have n2_ := Aside0.mk ((by rw [hg]; exact (below_size (by repeat (first | (with_reducible first | exact HB.out | apply below_alloc | apply pw_below_drewN | apply below_drew1) | exact HB.out))) : w.heap.size ≤ gb169)); have n3_ := Aside0.mk ((by rw [hg]; exact (below_size (by repeat (first | (with_reducible first | exact HB.out | apply below_alloc | apply pw_below_drewN | apply below_drew1) | exact HB.out))) : w.heap.size ≤ gb169)); clear HB; have HB := n0_; have BK169 := n1_; have GW169 := n2_; have GE169 := n3_; clear n0_ n1_ n2_ n3_; clear hb hbox hg) | ((with_reducible refine gate_callee (f := 20) rfl ?_); refine goesL_ (some 10) rfl rfl Tryd.func20 (by kernel_rfl) rfl #[.string a0] rfl (by (try simp only [List.map_toArray, List.map_cons, List.map_nil]); first | done | rfl | (simp only [List.length_drop, List.length_take]; rfl)) ?_; (with_reducible refine (strip_Upright.calls a0 t170 t171 _ A2.out).mono ?_); rintro e w44 ⟨rfl, hb⟩; refine ⟨_, rfl, ?_⟩; have n0_ := Aside0.mk (blk_below (g := gb169) (o := .cells #[.int .i64 0, .int .i64 0, .int .i64 0, .int .i64 0] 29 (0, 0)) (by (with_reducible repeat (first | refine blk_drewN ?_ _ | refine blk_drew ?_ | refine blk_alloc ?_ _)); exact BK169.out) hb); have n1_ := Aside0.mk (below_step (by repeat (first | (with_reducible first | exact HB.out | apply below_alloc | apply pw_below_drewN | apply below_drew1 | refine below_set ?_ GE169.out) | exact HB.out)) hb); clear BK169; clear HB; have BK169 := n0_; have HB := n1_; clear n0_ n1_; (try clear hb); (try clear hb2); (try clear hk); (try clear hi)) | ((with_reducible refine gate_callee (f := 18) rfl ?_); refine goesL_ (some 19) rfl rfl Tryd.func18 (by kernel_rfl) rfl #[.string t170] rfl (by (try simp only [List.map_toArray, List.map_cons, List.map_nil]); first | done | rfl | (simp only [List.length_drop, List.length_take]; rfl)) ?_; (with_reducible refine (strip_Word.calls t170 t172 t173 _ A4.out).mono ?_); rintro e w45 ⟨v174, rfl, ho0, hb⟩; refine ⟨_, rfl, ?_⟩; have n0_ := Aside0.mk (Kd.R_lower ho0 (below_size (by repeat (first | (with_reducible first | exact HB.out | apply below_alloc | apply pw_below_drewN | apply below_drew1 | refine below_set ?_ GE169.out) | exact HB.out)))); have n1_ := Aside0.mk (blk_below (g := gb169) (o := .cells #[.int .i64 0, .int .i64 0, .int .i64 0, .int .i64 0] 29 (0, 0)) (by (with_reducible repeat (first | refine blk_drewN ?_ _ | refine blk_drew ?_ | refine blk_alloc ?_ _)); exact BK169.out) hb); have n2_ := Aside0.mk (below_step (by repeat (first | (with_reducible first | exact HB.out | apply below_alloc | apply pw_below_drewN | apply below_drew1 | refine below_set ?_ GE169.out) | exact HB.out)) hb); clear BK169; clear HB; have HO175 := n0_; have BK169 := n1_; have HB := n2_; clear n0_ n1_ n2_; (try clear hb); (try clear hb2); (try clear hk); (try clear hi); (try clear ho0); obtain ⟨Ao46, co46, eo46⟩ := Kd.R_slice HO175.out; subst eo46) | ((with_reducible refine gate_callee (f := 26) rfl ?_); refine goesL_ (some 24) rfl rfl Tryd.func26 (by kernel_rfl) rfl #[.slice Ao46 t172.length co46] rfl (by (try simp only [List.map_toArray, List.map_cons, List.map_nil]); first | done | rfl | (simp only [List.length_drop, List.length_take]; rfl)) ?_; (with_reducible refine (rscode_Decode.calls _ _ t172 t176 t177 t178 _ ?side1 ?side2 A5.out).mono ?_); (case side1 => repeat (first | exact (Kd.R_reads' HO175.out).2.2 | (with_reducible refine Kd.C_alloc ?_ _) | (with_reducible refine Kd.C_drewN ?_ _) | (with_reducible refine Kd.C_drew ?_))); (case side2 => exact (Kd.R_reads' HO175.out).2.1); rintro e w47 ⟨v179, rfl, ho0, hb⟩; refine ⟨_, rfl, ?_⟩; have n0_ := Aside0.mk (Kd.R_elder' (by (with_reducible repeat (first | apply Kd.R_alloc | apply Kd.R_drewN | apply Kd.R_drew)); exact HO175.out) (Kd.R_base ho0) hb); have n1_ := Aside0.mk (Kd.R_lower (Kd.R_new' ho0 (Kd.R_lt (by (with_reducible repeat (first | apply Kd.R_alloc | apply Kd.R_drewN | apply Kd.R_drew)); exact HO175.out))) (below_size (by repeat (first | (with_reducible first | exact HB.out | apply below_alloc | apply pw_below_drewN | apply below_drew1 | refine below_set ?_ GE169.out) | exact HB.out)))); have n2_ := Aside0.mk (blk_below (g := gb169) (o := .cells #[.int .i64 0, .int .i64 0, .int .i64 0, .int .i64 0] 29 (0, 0)) (by (with_reducible repeat (first | refine blk_drewN ?_ _ | refine blk_drew ?_ | refine blk_alloc ?_ _)); exact BK169.out) hb); have n3_ := Aside0.mk (below_step (by repeat (first | (with_reducible first | exact HB.out | apply below_alloc | apply pw_below_drewN | apply below_drew1 | refine below_set ?_ GE169.out) | exact HB.out)) hb); clear HO175; clear BK169; clear HB; have HO175 := n0_; have HO180 := n1_; have BK169 := n2_; have HB := n3_; clear n0_ n1_ n2_ n3_; (try clear hb); (try clear hb2); (try clear hk); (try clear hi); (try clear ho0); have hcz48_0 : w47.cell? ⟨gb169, 0, none⟩ = some (.int .i64 0) := (blk_cell BK169.out 0).trans rfl; have hcz48_1 : w47.cell? ⟨gb169, 1, none⟩ = some (.int .i64 0) := (blk_cell BK169.out 1).trans rfl; have hcz48_2 : w47.cell? ⟨gb169, 2, none⟩ = some (.int .i64 0) := (blk_cell BK169.out 2).trans rfl; have hcz48_3 : w47.cell? ⟨gb169, 3, none⟩ = some (.int .i64 0) := (blk_cell BK169.out 3).trans rfl; have hfz48_0 := blk_frozen BK169.out 0; have hfz48_1 := blk_frozen BK169.out 1; have hfz48_2 := blk_frozen BK169.out 2; have hfz48_3 := blk_frozen BK169.out 3))
      refine bodyPost_ret (results_ctt rfl _ _ gb169 29 #[.int .i64 0, .int .i64 0, .int .i64 0, .int .i64 0] (0, 0) _ rfl (by (with_reducible repeat (first | refine blk_drewN ?_ _ | refine blk_drew ?_ | refine blk_alloc ?_ _)); refine blk_put (cs := #[.int .i64 0, .int .i64 0, .int .i64 0, .int .i64 0]) ?_ 3 _ rfl; (with_reducible repeat (first | refine blk_drewN ?_ _ | refine blk_drew ?_ | refine blk_alloc ?_ _)); refine blk_put (cs := #[.int .i64 0, .int .i64 0, .int .i64 0, .int .i64 0]) ?_ 2 _ rfl; (with_reducible repeat (first | refine blk_drewN ?_ _ | refine blk_drew ?_ | refine blk_alloc ?_ _)); refine blk_put (cs := #[.int .i64 0, .int .i64 0, .int .i64 0, .int .i64 0]) ?_ 1 _ rfl; (with_reducible repeat (first | refine blk_drewN ?_ _ | refine blk_drew ?_ | refine blk_alloc ?_ _)); refine blk_put (cs := #[.int .i64 0, .int .i64 0, .int .i64 0, .int .i64 0]) ?_ 0 _ rfl; (with_reducible repeat (first | refine blk_drewN ?_ _ | refine blk_drew ?_ | refine blk_alloc ?_ _)); exact BK169.out) Tryd.underlying29 rfl (by kernel_rfl)) rfl ?_
      exact ⟨by first | rfl | (simp [errW_none, errW_some] <;> rfl) | (simp [*, errW_none, errW_some] <;> rfl), by repeat (first | (with_reducible first | exact HB.out | apply below_alloc | apply pw_below_drewN | apply below_drew1 | refine below_set ?_ GE169.out) | exact HB.out)⟩
  · rw [if_neg c3] at H
    have c3b0 : (t171 == 0) = false := beq_eq_false_iff_ne.mpr c3
    have c3b1 : (t171 != 0) = true := bne_iff_ne.mpr c3
    simp only [Option.some.injEq, Prod.mk.injEq] at H
    obtain ⟨rfl, rfl, rfl, rfl, rfl, rfl⟩ := H
    go_enter Tryd.func9, Tryd.ntmps9
    go_wp2_with (first | ((with_reducible refine gate_dst (N := 2) rfl ?_); refine box_event ?hg (N := 2) ?hd (cs := #[.int .i64 0, .int .i64 0, .int .i64 0, .int .i64 0]) (t := 29) ?hr ?_; (case hd => rfl); (case hg => rfl); (case hr => first | (go_simp; done) | (go_simp; rfl)); intro gb169 hg w49 hbox hb; have n0_ := Aside0.mk (below_step (by repeat (first | (with_reducible first | exact HB.out | apply below_alloc | apply pw_below_drewN | apply below_drew1) | exact HB.out)) hb); have n1_ := Aside0.mk (hbox); have n2_ := Aside0.mk ((by rw [hg]; exact (below_size (by repeat (first | (with_reducible first | exact HB.out | apply below_alloc | apply pw_below_drewN | apply below_drew1) | exact HB.out))) : w.heap.size ≤ gb169)); have n3_ := Aside0.mk ((by rw [hg]; exact (below_size (by repeat (first | (with_reducible first | exact HB.out | apply below_alloc | apply pw_below_drewN | apply below_drew1) | exact HB.out))) : w.heap.size ≤ gb169)); clear HB; have HB := n0_; have BK169 := n1_; have GW169 := n2_; have GE169 := n3_; clear n0_ n1_ n2_ n3_; clear hb hbox hg) | ((with_reducible refine gate_callee (f := 20) rfl ?_); refine goesL_ (some 10) rfl rfl Tryd.func20 (by kernel_rfl) rfl #[.string a0] rfl (by (try simp only [List.map_toArray, List.map_cons, List.map_nil]); first | done | rfl | (simp only [List.length_drop, List.length_take]; rfl)) ?_; (with_reducible refine (strip_Upright.calls a0 t170 t171 _ A2.out).mono ?_); rintro e w50 ⟨rfl, hb⟩; refine ⟨_, rfl, ?_⟩; have n0_ := Aside0.mk (blk_below (g := gb169) (o := .cells #[.int .i64 0, .int .i64 0, .int .i64 0, .int .i64 0] 29 (0, 0)) (by (with_reducible repeat (first | refine blk_drewN ?_ _ | refine blk_drew ?_ | refine blk_alloc ?_ _)); exact BK169.out) hb); have n1_ := Aside0.mk (below_step (by repeat (first | (with_reducible first | exact HB.out | apply below_alloc | apply pw_below_drewN | apply below_drew1 | refine below_set ?_ GE169.out) | exact HB.out)) hb); clear BK169; clear HB; have BK169 := n0_; have HB := n1_; clear n0_ n1_; (try clear hb); (try clear hb2); (try clear hk); (try clear hi); have hcz51_0 : w50.cell? ⟨gb169, 0, none⟩ = some (.int .i64 0) := (blk_cell BK169.out 0).trans rfl; have hcz51_1 : w50.cell? ⟨gb169, 1, none⟩ = some (.int .i64 0) := (blk_cell BK169.out 1).trans rfl; have hcz51_2 : w50.cell? ⟨gb169, 2, none⟩ = some (.int .i64 0) := (blk_cell BK169.out 2).trans rfl; have hcz51_3 : w50.cell? ⟨gb169, 3, none⟩ = some (.int .i64 0) := (blk_cell BK169.out 3).trans rfl; have hfz51_0 := blk_frozen BK169.out 0; have hfz51_1 := blk_frozen BK169.out 1; have hfz51_2 := blk_frozen BK169.out 2; have hfz51_3 := blk_frozen BK169.out 3))
    refine bodyPost_ret (results_ctt rfl _ _ gb169 29 #[.int .i64 0, .int .i64 0, .int .i64 0, .int .i64 0] (0, 0) _ rfl (by (with_reducible repeat (first | refine blk_drewN ?_ _ | refine blk_drew ?_ | refine blk_alloc ?_ _)); refine blk_put (cs := #[.int .i64 0, .int .i64 0, .int .i64 0, .int .i64 0]) ?_ 3 _ rfl; (with_reducible repeat (first | refine blk_drewN ?_ _ | refine blk_drew ?_ | refine blk_alloc ?_ _)); refine blk_put (cs := #[.int .i64 0, .int .i64 0, .int .i64 0, .int .i64 0]) ?_ 2 _ rfl; (with_reducible repeat (first | refine blk_drewN ?_ _ | refine blk_drew ?_ | refine blk_alloc ?_ _)); refine blk_put (cs := #[.int .i64 0, .int .i64 0, .int .i64 0, .int .i64 0]) ?_ 1 _ rfl; (with_reducible repeat (first | refine blk_drewN ?_ _ | refine blk_drew ?_ | refine blk_alloc ?_ _)); refine blk_put (cs := #[.int .i64 0, .int .i64 0, .int .i64 0, .int .i64 0]) ?_ 0 _ rfl; (with_reducible repeat (first | refine blk_drewN ?_ _ | refine blk_drew ?_ | refine blk_alloc ?_ _)); exact BK169.out) Tryd.underlying29 rfl (by kernel_rfl)) rfl ?_
    exact ⟨by first | rfl | (simp [errW_none, errW_some] <;> rfl) | (simp [*, errW_none, errW_some] <;> rfl), by repeat (first | (with_reducible first | exact HB.out | apply below_alloc | apply pw_below_drewN | apply below_drew1 | refine below_set ?_ GE169.out) | exact HB.out)⟩
end Go.Proofs.YtcpmgkedmmiioaaDoor.P
end
