/- stripTurns_card, part 25: what the row's proof needs: words of the print, contracts of functions, the plain law. -/
import Derived.Test.YtcpmgkedmmiioaaGreatDoorKa1
import Derived.Test.YtcpmgkedmmiioaaGreatDoorKa3
import Derived.Test.YtcpmgkedmmiioaaGreatDoorKa14
import Derived.Test.YtcpmgkedmmiioaaGreatDoorKa24
section
namespace Go.Proofs.YtcpmgkedmmiioaaGreatDoor.P
open Go.RowKit Go.Proofs.YtcpmgkedmmiioaaGreatDoorW.PrintWords Go.Proofs.YtcpmgkedmmiioaaGreatDoorW.PrintLast Go.Proofs.YtcpmgkedmmiioaaGreatDoorW.PrintMore
attribute [local go_sem] max2_int min2_int max_two min_two max_three min_three max_four min_four   -- for this text's walks alone
set_option linter.unusedVariables false
set_option linter.unusedSimpArgs false
def awardingbodyref19_Draw.l0 : Nat → List Int → ByteArray → Int → Option (ByteArray × Int)
  | 0, _, _, _ => none
  | k + 1, x6, x8, x9 => if x9 < (x6.length : Int) then (if 0 ≤ x9 then ((awardingbodyref19_Modules.f k (rd x6 x9)).bind fun t173 => (if x8.size + t173.size ≤ 9223372036854775807 then (awardingbodyref19_Draw.l0 k x6 (x8 ++ t173) (wrap64 (x9 + 1))) else (none))) else (none)) else (if x8.size + 7 ≤ 9223372036854775807 then (some (x8 ++ (⟨#[48, 48, 48, 48, 48, 48, 48]⟩ : ByteArray), 0)) else (none))
def awardingbodyref19_Draw.f (k : Nat) (a0_0 : Int) (a0_1 : Int) (a0_2 : Int) (a0_3 : Int) : Option (ByteArray × Int) := (awardingbodyref19_Symbols.f a0_0 a0_1 a0_2 a0_3).bind fun bt164 => (if bt164.2 = 0 then ((awardingbodyref18_Encode.f bt164.1).bind fun bt168 => (awardingbodyref19_Draw.l0 k bt168.1 (⟨#[49, 49, 49, 49, 49, 49, 49]⟩ : ByteArray) 0)) else (some ((⟨#[]⟩ : ByteArray), bt164.2)))
theorem awardingbodyref19_Draw.mono_l : ∀ k, (∀ y0 y1 y2, LeO (awardingbodyref19_Draw.l0 k y0 y1 y2) (awardingbodyref19_Draw.l0 (k + 1) y0 y1 y2))
  | 0 => fun _ _ _ r h => by simp [awardingbodyref19_Draw.l0] at h
  | k + 1 => by
    have ih0 := awardingbodyref19_Draw.mono_l k
    · intro y0 y1 y2
      unfold awardingbodyref19_Draw.l0
      repeat' first
      | (with_reducible exact ih0 _ _ _)
      | (with_reducible exact awardingbodyref19_Modules.mono _ _)
      | (with_reducible exact LeO.refl _)
      | (with_reducible exact LeO.none _)
      | (with_reducible refine LeO.ite ?_ ?_)
      | (with_reducible refine LeO.bind ?_ (fun _ => ?_))
      | exact ih0 _ _ _
      | exact awardingbodyref19_Modules.mono _ _
      | exact LeO.none _
      | refine LeO.ite ?_ ?_
      | refine LeO.bind ?_ (fun _ => ?_)
theorem awardingbodyref19_Draw.mono : ∀ a0 a1 a2 a3 k, LeO (awardingbodyref19_Draw.f k a0 a1 a2 a3) (awardingbodyref19_Draw.f (k + 1) a0 a1 a2 a3) := by
  intro a0 a1 a2 a3 k
  have ih0 := awardingbodyref19_Draw.mono_l k
  unfold awardingbodyref19_Draw.f
  repeat' first
      | (with_reducible exact ih0 _ _ _)
      | (with_reducible exact awardingbodyref19_Modules.mono _ _)
      | (with_reducible exact LeO.refl _)
      | (with_reducible exact LeO.none _)
      | (with_reducible refine LeO.ite ?_ ?_)
      | (with_reducible refine LeO.bind ?_ (fun _ => ?_))
      | exact ih0 _ _ _
      | exact awardingbodyref19_Modules.mono _ _
      | exact LeO.none _
      | refine LeO.ite ?_ ?_
      | refine LeO.bind ?_ (fun _ => ?_)
set_option maxHeartbeats 8000000 in
set_option maxRecDepth 100000 in
theorem awardingbodyref19_Draw.calls (k : Nat) (a0_0 : Int) (a0_1 : Int) (a0_2 : Int) (a0_3 : Int) (r1 : ByteArray) (r2 : Int) (w : World) (h : awardingbodyref19_Draw.f k a0_0 a0_1 a0_2 a0_3 = some (r1, r2)) :
    Calls Tryz.prog 50 #[.agg #[.int .i64 a0_0, .int .i64 a0_1, .int .i64 a0_2, .int .i64 a0_3]] w fun e w' => e = .returned (.tuple #[.string r1, .int .i64 r2]) ∧ Below w.heap.size w w' := by
  have hu29 := Tryz.underlying29
  have HB := Aside0.mk (Below.refl w.heap.size w)
  have H : ((awardingbodyref19_Symbols.f a0_0 a0_1 a0_2 a0_3).bind fun bt164 => (if bt164.2 = 0 then ((awardingbodyref18_Encode.f bt164.1).bind fun bt168 => (awardingbodyref19_Draw.l0 k bt168.1 (⟨#[49, 49, 49, 49, 49, 49, 49]⟩ : ByteArray) 0)) else (some ((⟨#[]⟩ : ByteArray), bt164.2)))) = some (r1, r2) := h
  clear h
  replace H := Option.bind_eq_some_iff.mp H
  obtain ⟨⟨t164, t167⟩, A20, H⟩ := H
  replace H : (if t167 = 0 then ((awardingbodyref18_Encode.f t164).bind fun bt168 => (awardingbodyref19_Draw.l0 k bt168.1 (⟨#[49, 49, 49, 49, 49, 49, 49]⟩ : ByteArray) 0)) else (some ((⟨#[]⟩ : ByteArray), t167))) = some (r1, r2) := H
  have A2 := Aside0.mk A20
  clear A20
  by_cases c3 : t167 = 0
  · rw [if_pos c3] at H
    have c3b0 : (t167 == 0) = true := beq_iff_eq.mpr c3
    have c3b1 : (t167 != 0) = false := bne_eq_false_iff_eq.mpr c3
    clear c3
    replace H := Option.bind_eq_some_iff.mp H
    obtain ⟨⟨t168, t169⟩, A40, H⟩ := H
    replace H : (awardingbodyref19_Draw.l0 k t168 (⟨#[49, 49, 49, 49, 49, 49, 49]⟩ : ByteArray) 0) = some (r1, r2) := H
    have A4 := Aside0.mk A40
    clear A40
    have H' := Aside0.mk H
    clear H
    go_enter Tryz.func50, Tryz.ntmps50
    go_wp2_with (first | ((with_reducible refine gate_dst (N := 1) rfl ?_); refine box_event ?hg (N := 1) ?hd (cs := #[.int .i64 a0_0, .int .i64 a0_1, .int .i64 a0_2, .int .i64 a0_3]) (t := 29) ?hr ?_; (case hd => rfl); (case hg => rfl); (case hr => first | (go_simp; done) | (go_simp; rfl)); intro gb163 hg w5 hbox hb; have n0_ := Aside0.mk (below_step (by repeat (first | (with_reducible first | exact HB.out | apply below_alloc | apply pw_below_drewN | apply below_drew1) | exact HB.out)) hb); have n1_ := Aside0.mk (hbox); have n2_ := Aside0.mk ((by rw [hg]; exact (below_size (by repeat (first | (with_reducible first | exact HB.out | apply below_alloc | apply pw_below_drewN | apply below_drew1) | exact HB.out))) : w.heap.size ≤ gb163)); have n3_ := Aside0.mk ((by rw [hg]; exact (below_size (by repeat (first | (with_reducible first | exact HB.out | apply below_alloc | apply pw_below_drewN | apply below_drew1) | exact HB.out))) : w.heap.size ≤ gb163)); clear HB; have HB := n0_; have BK163 := n1_; have GW163 := n2_; have GE163 := n3_; clear n0_ n1_ n2_ n3_; clear hb hbox hg; have hcz6_0 : w5.cell? ⟨gb163, 0, none⟩ = some (.int .i64 a0_0) := (blk_cell BK163.out 0).trans rfl; have hcz6_1 : w5.cell? ⟨gb163, 1, none⟩ = some (.int .i64 a0_1) := (blk_cell BK163.out 1).trans rfl; have hcz6_2 : w5.cell? ⟨gb163, 2, none⟩ = some (.int .i64 a0_2) := (blk_cell BK163.out 2).trans rfl; have hcz6_3 : w5.cell? ⟨gb163, 3, none⟩ = some (.int .i64 a0_3) := (blk_cell BK163.out 3).trans rfl; have hfz6_0 := blk_frozen BK163.out 0; have hfz6_1 := blk_frozen BK163.out 1; have hfz6_2 := blk_frozen BK163.out 2; have hfz6_3 := blk_frozen BK163.out 3) | ((with_reducible refine gate_callee (f := 114) rfl ?_); refine goesL_ (some 12) rfl rfl Tryz.func114 (by kernel_rfl) rfl #[.agg #[.int .i64 a0_0, .int .i64 a0_1, .int .i64 a0_2, .int .i64 a0_3]] rfl (by (try simp only [List.map_toArray, List.map_cons, List.map_nil]); first | done | rfl | (simp only [List.length_drop, List.length_take]; rfl)) ?_; (with_reducible refine (awardingbodyref19_Symbols.calls a0_0 a0_1 a0_2 a0_3 t164 t167 _ A2.out).mono ?_); rintro e w7 ⟨v165, rfl, ho0, hb⟩; refine ⟨_, rfl, ?_⟩; have n0_ := Aside0.mk (Kd.R_lower ho0 (below_size (by repeat (first | (with_reducible first | exact HB.out | apply below_alloc | apply pw_below_drewN | apply below_drew1 | refine below_set ?_ GE163.out) | exact HB.out)))); have n1_ := Aside0.mk (blk_below (g := gb163) (o := .cells #[.int .i64 a0_0, .int .i64 a0_1, .int .i64 a0_2, .int .i64 a0_3] 29 (0, 0)) (by (with_reducible repeat (first | refine blk_drewN ?_ _ | refine blk_drew ?_ | refine blk_alloc ?_ _)); exact BK163.out) hb); have n2_ := Aside0.mk (below_step (by repeat (first | (with_reducible first | exact HB.out | apply below_alloc | apply pw_below_drewN | apply below_drew1 | refine below_set ?_ GE163.out) | exact HB.out)) hb); clear BK163; clear HB; have HO166 := n0_; have BK163 := n1_; have HB := n2_; clear n0_ n1_ n2_; (try clear hb); (try clear hb2); (try clear hk); (try clear hi); (try clear ho0); obtain ⟨Ao8, co8, eo8⟩ := Kd.R_slice HO166.out; subst eo8) | ((with_reducible refine gate_callee (f := 115) rfl ?_); refine goesL_ (some 20) rfl rfl Tryz.func115 (by kernel_rfl) rfl #[.slice Ao8 t164.length co8] rfl (by (try simp only [List.map_toArray, List.map_cons, List.map_nil]); first | done | rfl | (simp only [List.length_drop, List.length_take]; rfl)) ?_; (with_reducible refine (awardingbodyref18_Encode.calls _ _ t164 t168 t169 _ ?side1 ?side2 A4.out).mono ?_); (case side1 => repeat (first | exact (Kd.R_reads' HO166.out).2.2 | (with_reducible refine Kd.C_alloc ?_ _) | (with_reducible refine Kd.C_drewN ?_ _) | (with_reducible refine Kd.C_drew ?_))); (case side2 => exact (Kd.R_reads' HO166.out).2.1); rintro e w9 ⟨v170, rfl, ho0, hb⟩; refine ⟨_, rfl, ?_⟩; have n0_ := Aside0.mk (Kd.R_elder' (by (with_reducible repeat (first | apply Kd.R_alloc | apply Kd.R_drewN | apply Kd.R_drew)); exact HO166.out) (Kd.R_base ho0) hb); have n1_ := Aside0.mk (Kd.R_lower (Kd.R_new' ho0 (Kd.R_lt (by (with_reducible repeat (first | apply Kd.R_alloc | apply Kd.R_drewN | apply Kd.R_drew)); exact HO166.out))) (below_size (by repeat (first | (with_reducible first | exact HB.out | apply below_alloc | apply pw_below_drewN | apply below_drew1 | refine below_set ?_ GE163.out) | exact HB.out)))); have n2_ := Aside0.mk (blk_below (g := gb163) (o := .cells #[.int .i64 a0_0, .int .i64 a0_1, .int .i64 a0_2, .int .i64 a0_3] 29 (0, 0)) (by (with_reducible repeat (first | refine blk_drewN ?_ _ | refine blk_drew ?_ | refine blk_alloc ?_ _)); exact BK163.out) hb); have n3_ := Aside0.mk (below_step (by repeat (first | (with_reducible first | exact HB.out | apply below_alloc | apply pw_below_drewN | apply below_drew1 | refine below_set ?_ GE163.out) | exact HB.out)) hb); clear HO166; clear BK163; clear HB; have HO166 := n0_; have HO171 := n1_; have BK163 := n2_; have HB := n3_; clear n0_ n1_ n2_ n3_; (try clear hb); (try clear hb2); (try clear hk); (try clear hi); (try clear ho0)))
    go_loopg [8, 9] k (fun kq v8 v9 w' => ∃ (x8_1 : ByteArray) (x9_1 : Int), v8 = .string x8_1 ∧ v9 = .int .i64 x9_1 ∧ Aside0 (awardingbodyref19_Draw.l0 kq t168 x8_1 x9_1 = some (r1, r2)) ∧ Aside0 (kq ≤ k) ∧ Aside0 (Kd.R (Kd.int .i64) 3 w' w.heap.size (fun _ => True) v170 t168) ∧ Aside0 (w'.heap[gb163]? = some (.cells #[.int .i64 a0_0, .int .i64 a0_1, .int .i64 a0_2, .int .i64 a0_3] 29 (0, 0))) ∧ Aside0 (Below w.heap.size w w'))
    case atStart => exact ⟨((⟨#[49, 49, 49, 49, 49, 49, 49]⟩ : ByteArray)), (0), (by first | rfl | (simp; done) | (simp [*]; done)), (by first | rfl | (simp; done) | (simp [*]; done)), H', ⟨Nat.le_refl _⟩, ⟨by (with_reducible repeat (first | apply Kd.R_alloc | apply Kd.R_drewN | apply Kd.R_drew)); exact Kd.R_mono HO171.out (fun _ hk => trivial)⟩, ⟨by (with_reducible repeat (first | refine blk_drewN ?_ _ | refine blk_drew ?_ | refine blk_alloc ?_ _)); exact BK163.out⟩, ⟨by repeat (first | (with_reducible first | exact HB.out | apply below_alloc | apply pw_below_drewN | apply below_drew1 | refine below_set ?_ GE163.out) | exact HB.out)⟩⟩
    case round =>
      clear H'
      try clear c1
      try clear p2
      try clear c3
      try clear c3b0
      try clear c3b1
      try clear c5
      try clear hcz6_0
      try clear hcz6_1
      try clear hcz6_2
      try clear hcz6_3
      try clear hfz6_0
      try clear hfz6_1
      try clear hfz6_2
      try clear hfz6_3
      obtain ⟨x8_1, x9_1, rfl, rfl, HA, HK1, HO_6, BK163, HB⟩ := hrel
      cases gk with
      | zero => exact absurd HA.out (by simp [awardingbodyref19_Draw.l0])
      | succ k1 =>
        have H := HA.out
        clear HA
        simp only [awardingbodyref19_Draw.l0] at H
        by_cases c10 : x9_1 < (t168.length : Int)
        · rw [if_pos c10] at H
          have c10b0 : decide (x9_1 < (t168.length : Int)) = true := decide_eq_true c10
          clear c10
          by_cases c11 : 0 ≤ x9_1
          · rw [if_pos c11] at H
            have c11b0 : decide (0 ≤ x9_1) = true := decide_eq_true c11
            clear c11
            replace H := Option.bind_eq_some_iff.mp H
            obtain ⟨t173, A120, H⟩ := H
            replace H : (if x8_1.size + t173.size ≤ 9223372036854775807 then (awardingbodyref19_Draw.l0 k1 t168 (x8_1 ++ t173) (wrap64 (x9_1 + 1))) else (none)) = some (r1, r2) := H
            have A12 := Aside0.mk A120
            clear A120
            by_cases c13 : x8_1.size + t173.size ≤ 9223372036854775807
            · rw [if_pos c13] at H
              have c13b0 := eq_true c13
              have c13b1 : decide (x8_1.size + t173.size ≤ 9223372036854775807) = true := decide_eq_true c13
              try have c13b2 : (9223372036854775807 < x8_1.size + t173.size) = False := eq_false (Nat.not_lt.2 c13)
              have H' := Aside0.mk H
              clear H
              obtain ⟨Ao14, co14, eo14⟩ := Kd.R_slice HO_6.out
              subst eo14
              have p172 : 0 ≤ (x9_1 : Int) := of_decide_eq_true (by first | (with_reducible assumption) | assumption)
              have q172 : x9_1 < (t168.length : Int) := of_decide_eq_true (by first | (with_reducible assumption) | assumption)
              obtain ⟨ad172, e172, hx172_0⟩ := Kd.at_int (Kd.R_reads' HO_6.out).2.2 x9_1 p172 q172
              cases e172
              replace p172 := eq_true p172
              replace q172 := eq_true q172
              go_wp2_with (first | ((with_reducible refine gate_callee (f := 116) rfl ?_); refine goesL_ (some 34) rfl rfl Tryz.func116 (by kernel_rfl) rfl #[.int .i64 (rd t168 x9_1)] rfl (by (try simp only [List.map_toArray, List.map_cons, List.map_nil]); first | done | rfl | (simp only [List.length_drop, List.length_take]; rfl)) ?_; (with_reducible refine (awardingbodyref19_Modules.calls k1 (rd t168 x9_1) t173 _ A12.out).mono ?_); rintro e w' ⟨rfl, ⟨nd, rfl⟩⟩; refine ⟨_, rfl, ?_⟩))
              go_roundg k1
              case measure => have := HK1.out; omega
              case rel => exact ⟨(x8_1 ++ t173), (wrap64 (x9_1 + 1)), (by first | rfl | (simp; done) | (simp [*]; done)), (by first | rfl | (simp; done) | (simp [*]; done)), H', ⟨by have := HK1.out; omega⟩, ⟨by (with_reducible repeat (first | apply Kd.R_alloc | apply Kd.R_drewN | apply Kd.R_drew)); exact HO_6.out⟩, ⟨by (with_reducible repeat (first | refine blk_drewN ?_ _ | refine blk_drew ?_ | refine blk_alloc ?_ _)); exact BK163.out⟩, ⟨by repeat (first | (with_reducible first | exact HB.out | apply below_alloc | apply pw_below_drewN | apply below_drew1 | refine below_set ?_ GE163.out) | exact HB.out)⟩⟩
            · rw [if_neg c13] at H
              exact absurd H (by simp)
          · rw [if_neg c11] at H
            exact absurd H (by simp)
        · rw [if_neg c10] at H
          have c10b0 : decide (x9_1 < (t168.length : Int)) = false := decide_eq_false c10
          clear c10
          by_cases c15 : x8_1.size + 7 ≤ 9223372036854775807
          · rw [if_pos c15] at H
            have c15b0 := eq_true c15
            have c15b1 : decide (x8_1.size + 7 ≤ 9223372036854775807) = true := decide_eq_true c15
            try have c15b2 : (9223372036854775807 < x8_1.size + 7) = False := eq_false (Nat.not_lt.2 c15)
            simp only [Option.some.injEq, Prod.mk.injEq] at H
            obtain ⟨rfl, rfl⟩ := H
            obtain ⟨Ao16, co16, eo16⟩ := Kd.R_slice HO_6.out
            subst eo16
            go_wp2
            go_ret2
            exact ⟨by first | rfl | (simp [errW_none, errW_some] <;> rfl) | (simp [*, errW_none, errW_some] <;> rfl), by repeat (first | (with_reducible first | exact HB.out | apply below_alloc | apply pw_below_drewN | apply below_drew1 | refine below_set ?_ GE163.out) | exact HB.out)⟩
          · rw [if_neg c15] at H
            exact absurd H (by simp)
  · rw [if_neg c3] at H
    have c3b0 : (t167 == 0) = false := beq_eq_false_iff_ne.mpr c3
    have c3b1 : (t167 != 0) = true := bne_iff_ne.mpr c3
    simp only [Option.some.injEq, Prod.mk.injEq] at H
    obtain ⟨rfl, rfl⟩ := H
    go_enter Tryz.func50, Tryz.ntmps50
    go_wp2_with (first | ((with_reducible refine gate_dst (N := 1) rfl ?_); refine box_event ?hg (N := 1) ?hd (cs := #[.int .i64 a0_0, .int .i64 a0_1, .int .i64 a0_2, .int .i64 a0_3]) (t := 29) ?hr ?_; (case hd => rfl); (case hg => rfl); (case hr => first | (go_simp; done) | (go_simp; rfl)); intro gb163 hg w17 hbox hb; have n0_ := Aside0.mk (below_step (by repeat (first | (with_reducible first | exact HB.out | apply below_alloc | apply pw_below_drewN | apply below_drew1) | exact HB.out)) hb); have n1_ := Aside0.mk (hbox); have n2_ := Aside0.mk ((by rw [hg]; exact (below_size (by repeat (first | (with_reducible first | exact HB.out | apply below_alloc | apply pw_below_drewN | apply below_drew1) | exact HB.out))) : w.heap.size ≤ gb163)); have n3_ := Aside0.mk ((by rw [hg]; exact (below_size (by repeat (first | (with_reducible first | exact HB.out | apply below_alloc | apply pw_below_drewN | apply below_drew1) | exact HB.out))) : w.heap.size ≤ gb163)); clear HB; have HB := n0_; have BK163 := n1_; have GW163 := n2_; have GE163 := n3_; clear n0_ n1_ n2_ n3_; clear hb hbox hg; have hcz18_0 : w17.cell? ⟨gb163, 0, none⟩ = some (.int .i64 a0_0) := (blk_cell BK163.out 0).trans rfl; have hcz18_1 : w17.cell? ⟨gb163, 1, none⟩ = some (.int .i64 a0_1) := (blk_cell BK163.out 1).trans rfl; have hcz18_2 : w17.cell? ⟨gb163, 2, none⟩ = some (.int .i64 a0_2) := (blk_cell BK163.out 2).trans rfl; have hcz18_3 : w17.cell? ⟨gb163, 3, none⟩ = some (.int .i64 a0_3) := (blk_cell BK163.out 3).trans rfl; have hfz18_0 := blk_frozen BK163.out 0; have hfz18_1 := blk_frozen BK163.out 1; have hfz18_2 := blk_frozen BK163.out 2; have hfz18_3 := blk_frozen BK163.out 3) | ((with_reducible refine gate_callee (f := 114) rfl ?_); refine goesL_ (some 12) rfl rfl Tryz.func114 (by kernel_rfl) rfl #[.agg #[.int .i64 a0_0, .int .i64 a0_1, .int .i64 a0_2, .int .i64 a0_3]] rfl (by (try simp only [List.map_toArray, List.map_cons, List.map_nil]); first | done | rfl | (simp only [List.length_drop, List.length_take]; rfl)) ?_; (with_reducible refine (awardingbodyref19_Symbols.calls a0_0 a0_1 a0_2 a0_3 t164 t167 _ A2.out).mono ?_); rintro e w19 ⟨v165, rfl, ho0, hb⟩; refine ⟨_, rfl, ?_⟩; have n0_ := Aside0.mk (Kd.R_lower ho0 (below_size (by repeat (first | (with_reducible first | exact HB.out | apply below_alloc | apply pw_below_drewN | apply below_drew1 | refine below_set ?_ GE163.out) | exact HB.out)))); have n1_ := Aside0.mk (blk_below (g := gb163) (o := .cells #[.int .i64 a0_0, .int .i64 a0_1, .int .i64 a0_2, .int .i64 a0_3] 29 (0, 0)) (by (with_reducible repeat (first | refine blk_drewN ?_ _ | refine blk_drew ?_ | refine blk_alloc ?_ _)); exact BK163.out) hb); have n2_ := Aside0.mk (below_step (by repeat (first | (with_reducible first | exact HB.out | apply below_alloc | apply pw_below_drewN | apply below_drew1 | refine below_set ?_ GE163.out) | exact HB.out)) hb); clear BK163; clear HB; have HO166 := n0_; have BK163 := n1_; have HB := n2_; clear n0_ n1_ n2_; (try clear hb); (try clear hb2); (try clear hk); (try clear hi); (try clear ho0)))
    go_ret2
    exact ⟨by first | rfl | (simp [errW_none, errW_some] <;> rfl) | (simp [*, errW_none, errW_some] <;> rfl), by repeat (first | (with_reducible first | exact HB.out | apply below_alloc | apply pw_below_drewN | apply below_drew1 | refine below_set ?_ GE163.out) | exact HB.out)⟩
def awardingbodymake_Tape_Damage.l0 : Nat → ByteArray → Int → List Int → Int → Option (ByteArray × Int)
  | 0, _, _, _, _ => none
  | k + 1, x1, x7, x1000, x1001 => if x7 > 0 then ((awardingbodymake_Tape_Next.f x1000 x1001 (x1.size : Int)).bind fun bt176 => ((awardingbodymake_Tape_Next.f x1000 bt176.2 2).bind fun bt178 => ((awardingbodymake_Change.f x1 bt176.1 bt178.1).bind fun t180 => (awardingbodymake_Tape_Damage.l0 k t180 (wrap64 (x7 - 1)) x1000 bt178.2)))) else (some (x1, x1001))
def awardingbodymake_Tape_Damage.f (k : Nat) (s0_0 : List Int) (s0_1 : Int) (a1 : ByteArray) (a2 : Int) : Option (ByteArray × Int) := (awardingbodymake_Tape_Range.f s0_0 s0_1 0 a2).bind fun bt174 => (awardingbodymake_Tape_Damage.l0 k a1 bt174.1 s0_0 bt174.2)
theorem awardingbodymake_Tape_Damage.mono_l : ∀ k, (∀ y0 y1 y2 y3, LeO (awardingbodymake_Tape_Damage.l0 k y0 y1 y2 y3) (awardingbodymake_Tape_Damage.l0 (k + 1) y0 y1 y2 y3))
  | 0 => fun _ _ _ _ r h => by simp [awardingbodymake_Tape_Damage.l0] at h
  | k + 1 => by
    have ih0 := awardingbodymake_Tape_Damage.mono_l k
    · intro y0 y1 y2 y3
      unfold awardingbodymake_Tape_Damage.l0
      repeat' first
      | (with_reducible exact ih0 _ _ _ _)
      | (with_reducible exact LeO.refl _)
      | (with_reducible exact LeO.none _)
      | (with_reducible refine LeO.ite ?_ ?_)
      | (with_reducible refine LeO.bind ?_ (fun _ => ?_))
      | exact ih0 _ _ _ _
      | exact LeO.none _
      | refine LeO.ite ?_ ?_
      | refine LeO.bind ?_ (fun _ => ?_)
theorem awardingbodymake_Tape_Damage.mono : ∀ a0 a1 a2 a3 k, LeO (awardingbodymake_Tape_Damage.f k a0 a1 a2 a3) (awardingbodymake_Tape_Damage.f (k + 1) a0 a1 a2 a3) := by
  intro a0 a1 a2 a3 k
  have ih0 := awardingbodymake_Tape_Damage.mono_l k
  unfold awardingbodymake_Tape_Damage.f
  repeat' first
      | (with_reducible exact ih0 _ _ _ _)
      | (with_reducible exact LeO.refl _)
      | (with_reducible exact LeO.none _)
      | (with_reducible refine LeO.ite ?_ ?_)
      | (with_reducible refine LeO.bind ?_ (fun _ => ?_))
      | exact ih0 _ _ _ _
      | exact LeO.none _
      | refine LeO.ite ?_ ?_
      | refine LeO.bind ?_ (fun _ => ?_)
set_option maxHeartbeats 8000000 in
set_option maxRecDepth 100000 in
theorem awardingbodymake_Tape_Damage.calls (k : Nat) (g : Nat) (s0_0 : List Int) (s0_1 : Int) (a1 : ByteArray) (a2 : Int) (r1 : ByteArray) (r2 : Int) (w0 w : World) (hI : IsS107 w0 w g s0_0 s0_1) (hB : Below w0.heap.size w0 w) (h : awardingbodymake_Tape_Damage.f k s0_0 s0_1 a1 a2 = some (r1, r2)) :
    Calls Tryz.prog 52 #[.pointer (some ⟨g, 0, none⟩), .string a1, .int .i64 a2] w fun e w' => e = .returned (.string r1) ∧ IsS107 w0 w' g s0_0 r2 ∧ Below w0.heap.size w0 w' ∧ KeepBut w w' g none := by
  have HI0 := Aside0.mk hI
  have HK := Aside0.mk (KeepBut.refl w g none)
  have HL := Aside0.mk hB.size
  clear hI
  have HW0 := Aside0.mk hB.size
  have HB := Aside0.mk hB
  clear hB
  have H : ((awardingbodymake_Tape_Range.f s0_0 s0_1 0 a2).bind fun bt174 => (awardingbodymake_Tape_Damage.l0 k a1 bt174.1 s0_0 bt174.2)) = some (r1, r2) := h
  clear h
  replace H := Option.bind_eq_some_iff.mp H
  obtain ⟨⟨t174, t175⟩, A40, H⟩ := H
  replace H : (awardingbodymake_Tape_Damage.l0 k a1 t174 s0_0 t175) = some (r1, r2) := H
  have A4 := Aside0.mk A40
  clear A40
  have H' := Aside0.mk H
  clear H
  go_enter Tryz.func52, Tryz.ntmps52
  go_wp2_with (first | ((with_reducible refine gate_callee (f := 21) rfl ?_); refine goesL_ (some 10) rfl rfl Tryz.func21 (by kernel_rfl) rfl #[.pointer (some ⟨g, 0, none⟩), .int .i64 0, .int .i64 a2] rfl (by (try simp only [List.map_toArray, List.map_cons, List.map_nil]); first | done | rfl | (simp only [List.length_drop, List.length_take]; rfl)) ?_; (with_reducible refine (awardingbodymake_Tape_Range.calls g s0_0 s0_1 0 a2 t174 t175 w0 _ ?side1 ?side2 A4.out).mono ?_); (case side1 => repeat (first | (with_reducible first | exact HI0.out | apply IsS107.alloc | apply IsS107.drewN | apply IsS107.drew | apply IsS107.set_1) | exact HI0.out)); (case side2 => repeat (first | (with_reducible first | exact HB.out | apply below_alloc | apply pw_below_drewN | apply below_drew1 | refine below_set ?_ (IsS107.ge HI0.out)) | exact HB.out)); rintro e w5 ⟨rfl, hi, hb, hk⟩; refine ⟨_, rfl, ?_⟩; have n0_ := Aside0.mk (KeepBut.trans (by repeat (first | (with_reducible first | exact HK.out | apply KeepBut.set_ | apply keep_drewN | apply keep_drew | apply keep_alloc) | exact HK.out)) hk (.inl rfl)); have n1_ := Aside0.mk (hb); have n2_ := Aside0.mk (hi); clear HK; clear HB; clear HI0; have HK := n0_; have HB := n1_; have HI0 := n2_; clear n0_ n1_ n2_; (try clear hb); (try clear hb2); (try clear hk); (try clear hi)))
  go_loopg [1, 7] k (fun kq v1 v7 w' => ∃ (x1_1 : ByteArray) (x7_1 : Int) (x1001_1 : Int), v1 = .string x1_1 ∧ v7 = .int .i64 x7_1 ∧ Aside0 (awardingbodymake_Tape_Damage.l0 kq x1_1 x7_1 s0_0 x1001_1 = some (r1, r2)) ∧ Aside0 (kq ≤ k) ∧ Aside0 (IsS107 w0 w' g s0_0 x1001_1) ∧ Aside0 (KeepBut w w' g none) ∧ Aside0 (Below w0.heap.size w0 w'))
  case atStart => exact ⟨(a1), (t174), (t175), (by first | rfl | (simp; done) | (simp [*]; done)), (by first | rfl | (simp; done) | (simp [*]; done)), H', ⟨Nat.le_refl _⟩, ⟨by repeat (first | (with_reducible first | exact HI0.out | apply IsS107.alloc | apply IsS107.drewN | apply IsS107.drew | apply IsS107.set_1) | exact HI0.out)⟩, ⟨by repeat (first | (with_reducible first | exact HK.out | apply KeepBut.set_ | apply keep_drewN | apply keep_drew | apply keep_alloc) | exact HK.out)⟩, ⟨by repeat (first | (with_reducible first | exact HB.out | apply below_alloc | apply pw_below_drewN | apply below_drew1 | refine below_set ?_ (IsS107.ge HI0.out)) | exact HB.out)⟩⟩
  case round =>
    clear H'
    try clear c2
    try clear p2
    try clear c5
    obtain ⟨x1_1, x7_1, x1001_1, rfl, rfl, HA, HK1, HI0, HK, HB⟩ := hrel
    cases gk with
    | zero => exact absurd HA.out (by simp [awardingbodymake_Tape_Damage.l0])
    | succ k1 =>
      have H := HA.out
      clear HA
      simp only [awardingbodymake_Tape_Damage.l0] at H
      by_cases c6 : x7_1 > 0
      · rw [if_pos c6] at H
        have c6b0 : decide (0 < x7_1) = true := decide_eq_true c6
        clear c6
        replace H := Option.bind_eq_some_iff.mp H
        obtain ⟨⟨t176, t177⟩, A70, H⟩ := H
        replace H : ((awardingbodymake_Tape_Next.f s0_0 t177 2).bind fun bt178 => ((awardingbodymake_Change.f x1_1 t176 bt178.1).bind fun t180 => (awardingbodymake_Tape_Damage.l0 k1 t180 (wrap64 (x7_1 - 1)) s0_0 bt178.2))) = some (r1, r2) := H
        have A7 := Aside0.mk A70
        clear A70
        replace H := Option.bind_eq_some_iff.mp H
        obtain ⟨⟨t178, t179⟩, A80, H⟩ := H
        replace H : ((awardingbodymake_Change.f x1_1 t176 t178).bind fun t180 => (awardingbodymake_Tape_Damage.l0 k1 t180 (wrap64 (x7_1 - 1)) s0_0 t179)) = some (r1, r2) := H
        have A8 := Aside0.mk A80
        clear A80
        replace H := Option.bind_eq_some_iff.mp H
        obtain ⟨t180, A90, H⟩ := H
        replace H : (awardingbodymake_Tape_Damage.l0 k1 t180 (wrap64 (x7_1 - 1)) s0_0 t179) = some (r1, r2) := H
        have A9 := Aside0.mk A90
        clear A90
        have H' := Aside0.mk H
        clear H
        go_wp2_with (first | ((with_reducible refine gate_callee (f := 39) rfl ?_); refine goesL_ (some 19) rfl rfl Tryz.func39 (by kernel_rfl) rfl #[.pointer (some ⟨g, 0, none⟩), .int .i64 (x1_1.size : Int)] rfl (by (try simp only [List.map_toArray, List.map_cons, List.map_nil]); first | done | rfl | (simp only [List.length_drop, List.length_take]; rfl)) ?_; (with_reducible refine (awardingbodymake_Tape_Next.calls g s0_0 x1001_1 (x1_1.size : Int) t176 t177 w0 _ ?side1 ?side2 A7.out).mono ?_); (case side1 => repeat (first | (with_reducible first | exact HI0.out | apply IsS107.alloc | apply IsS107.drewN | apply IsS107.drew | apply IsS107.set_1) | exact HI0.out)); (case side2 => repeat (first | (with_reducible first | exact HB.out | apply below_alloc | apply pw_below_drewN | apply below_drew1 | refine below_set ?_ (IsS107.ge HI0.out)) | exact HB.out)); rintro e w10 ⟨rfl, hi, hb, hk⟩; refine ⟨_, rfl, ?_⟩; have n0_ := Aside0.mk (KeepBut.trans (by repeat (first | (with_reducible first | exact HK.out | apply KeepBut.set_ | apply keep_drewN | apply keep_drew | apply keep_alloc) | exact HK.out)) hk (.inl rfl)); have n1_ := Aside0.mk (hb); have n2_ := Aside0.mk (hi); clear HK; clear HB; clear HI0; have HK := n0_; have HB := n1_; have HI0 := n2_; clear n0_ n1_ n2_; (try clear hb); (try clear hb2); (try clear hk); (try clear hi)) | ((with_reducible refine gate_callee (f := 39) rfl ?_); refine goesL_ (some 21) rfl rfl Tryz.func39 (by kernel_rfl) rfl #[.pointer (some ⟨g, 0, none⟩), .int .i64 2] rfl (by (try simp only [List.map_toArray, List.map_cons, List.map_nil]); first | done | rfl | (simp only [List.length_drop, List.length_take]; rfl)) ?_; (with_reducible refine (awardingbodymake_Tape_Next.calls g s0_0 t177 2 t178 t179 w0 _ ?side1 ?side2 A8.out).mono ?_); (case side1 => repeat (first | (with_reducible first | exact HI0.out | apply IsS107.alloc | apply IsS107.drewN | apply IsS107.drew | apply IsS107.set_1) | exact HI0.out)); (case side2 => repeat (first | (with_reducible first | exact HB.out | apply below_alloc | apply pw_below_drewN | apply below_drew1 | refine below_set ?_ (IsS107.ge HI0.out)) | exact HB.out)); rintro e w11 ⟨rfl, hi, hb, hk⟩; refine ⟨_, rfl, ?_⟩; have n0_ := Aside0.mk (KeepBut.trans (by repeat (first | (with_reducible first | exact HK.out | apply KeepBut.set_ | apply keep_drewN | apply keep_drew | apply keep_alloc) | exact HK.out)) hk (.inl rfl)); have n1_ := Aside0.mk (hb); have n2_ := Aside0.mk (hi); clear HK; clear HB; clear HI0; have HK := n0_; have HB := n1_; have HI0 := n2_; clear n0_ n1_ n2_; (try clear hb); (try clear hb2); (try clear hk); (try clear hi)) | ((with_reducible refine gate_callee (f := 118) rfl ?_); refine goesL_ (some 22) rfl rfl Tryz.func118 (by kernel_rfl) rfl #[.string x1_1, .int .i64 t176, .int .i64 t178] rfl (by (try simp only [List.map_toArray, List.map_cons, List.map_nil]); first | done | rfl | (simp only [List.length_drop, List.length_take]; rfl)) ?_; (with_reducible refine (awardingbodymake_Change.calls x1_1 t176 t178 t180 _ A9.out).mono ?_); rintro e w' ⟨rfl, ⟨nd, rfl⟩⟩; refine ⟨_, rfl, ?_⟩))
        go_roundg k1
        case measure => have := HK1.out; omega
        case rel => exact ⟨(t180), (wrap64 (x7_1 - 1)), (t179), (by first | rfl | (simp; done) | (simp [*]; done)), (by first | rfl | (simp; done) | (simp [*]; done)), H', ⟨by have := HK1.out; omega⟩, ⟨by repeat (first | (with_reducible first | exact HI0.out | apply IsS107.alloc | apply IsS107.drewN | apply IsS107.drew | apply IsS107.set_1) | exact HI0.out)⟩, ⟨by repeat (first | (with_reducible first | exact HK.out | apply KeepBut.set_ | apply keep_drewN | apply keep_drew | apply keep_alloc) | exact HK.out)⟩, ⟨by repeat (first | (with_reducible first | exact HB.out | apply below_alloc | apply pw_below_drewN | apply below_drew1 | refine below_set ?_ (IsS107.ge HI0.out)) | exact HB.out)⟩⟩
      · rw [if_neg c6] at H
        have c6b0 : decide (0 < x7_1) = false := decide_eq_false c6
        clear c6
        simp only [Option.some.injEq, Prod.mk.injEq] at H
        obtain ⟨rfl, rfl⟩ := H
        go_wp2
        go_ret
        exact ⟨by first | rfl | (simp [errW_none, errW_some] <;> rfl) | (simp [*, errW_none, errW_some] <;> rfl), by repeat (first | (with_reducible first | exact HI0.out | apply IsS107.alloc | apply IsS107.drewN | apply IsS107.drew | apply IsS107.set_1) | exact HI0.out), by repeat (first | (with_reducible first | exact HB.out | apply below_alloc | apply pw_below_drewN | apply below_drew1 | refine below_set ?_ (IsS107.ge HI0.out)) | exact HB.out), by repeat (first | (with_reducible first | exact HK.out | apply KeepBut.set_ | apply keep_drewN | apply keep_drew | apply keep_alloc) | exact HK.out)⟩
def awardingbodylaw19_damaged.j0 : Nat → ByteArray → List Int → Int → Option (ByteArray × Int)
  | 0, _, _, _ => none
  | k + 1, x5, x1000, x1001 => (awardingbodymake_Tape_One.f x1000 x1001 12).bind fun bt193 => (if bt193.1 = true then ((awardingbodymake_Tape_Next.f x1000 bt193.2 2).bind fun bt195 => (if 0 ≤ bt195.1 then (if bt195.1 ≤ (x5.size : Int) then ((some (([(⟨#[]⟩ : ByteArray), (⟨#[48]⟩ : ByteArray), (⟨#[50]⟩ : ByteArray)] : List ByteArray) : List ByteArray)).bind fun y197 => ((awardingbodymake_Tape_Next.f x1000 bt195.2 3).bind fun bt200 => (if 0 ≤ bt200.1 then (if bt200.1 < (y197.length : Int) then (if (x5.extract (bt195.1 : Int).toNat x5.size).size + (rdOf ByteArray.empty y197 bt200.1).size ≤ 9223372036854775807 then (some ((x5.extract (bt195.1 : Int).toNat x5.size) ++ (rdOf ByteArray.empty y197 bt200.1), bt200.2)) else (none)) else (none)) else (none)))) else (none)) else (none))) else (some (x5, bt193.2)))
def awardingbodylaw19_damaged.f (k : Nat) (s0_0 : List Int) (s0_1 : Int) (a1 : Int) : Option (ByteArray × Int) := (awardingbodymake_Tape_Label.f s0_0 s0_1 0).bind fun bt181 => ((awardingbodyref19_Draw.f k bt181.1 bt181.2.1 bt181.2.2.1 bt181.2.2.2.1).bind fun bt186 => ((awardingbodymake_Tape_Damage.f k s0_0 bt181.2.2.2.2 bt186.1 a1).bind fun bt188 => ((awardingbodymake_Tape_Next.f s0_0 bt188.2 2).bind fun bt190 => (if bt190.1 = 1 then ((awardingbodyref19_Flip.f k bt188.1).bind fun t192 => (awardingbodylaw19_damaged.j0 k t192 s0_0 bt190.2)) else (awardingbodylaw19_damaged.j0 k bt188.1 s0_0 bt190.2)))))
theorem awardingbodylaw19_damaged.mono_l : ∀ k, (∀ y0 y1 y2, LeO (awardingbodylaw19_damaged.j0 k y0 y1 y2) (awardingbodylaw19_damaged.j0 (k + 1) y0 y1 y2))
  | 0 => fun _ _ _ r h => by simp [awardingbodylaw19_damaged.j0] at h
  | k + 1 => by
    have ih0 := awardingbodylaw19_damaged.mono_l k
    · intro y0 y1 y2
      unfold awardingbodylaw19_damaged.j0
      repeat' first
      | (with_reducible exact ih0 _ _ _)
      | (with_reducible exact awardingbodymake_Tape_Damage.mono _ _ _ _ _)
      | (with_reducible exact awardingbodyref19_Draw.mono _ _ _ _ _)
      | (with_reducible exact awardingbodyref19_Flip.mono _ _)
      | (with_reducible exact LeO.refl _)
      | (with_reducible exact LeO.none _)
      | (with_reducible refine LeO.ite ?_ ?_)
      | (with_reducible refine LeO.bind ?_ (fun _ => ?_))
      | exact ih0 _ _ _
      | exact awardingbodymake_Tape_Damage.mono _ _ _ _ _
      | exact awardingbodyref19_Draw.mono _ _ _ _ _
      | exact awardingbodyref19_Flip.mono _ _
      | exact LeO.none _
      | refine LeO.ite ?_ ?_
      | refine LeO.bind ?_ (fun _ => ?_)
theorem awardingbodylaw19_damaged.mono : ∀ a0 a1 a2 k, LeO (awardingbodylaw19_damaged.f k a0 a1 a2) (awardingbodylaw19_damaged.f (k + 1) a0 a1 a2) := by
  intro a0 a1 a2 k
  have ih0 := awardingbodylaw19_damaged.mono_l k
  unfold awardingbodylaw19_damaged.f
  repeat' first
      | (with_reducible exact ih0 _ _ _)
      | (with_reducible exact awardingbodymake_Tape_Damage.mono _ _ _ _ _)
      | (with_reducible exact awardingbodyref19_Draw.mono _ _ _ _ _)
      | (with_reducible exact awardingbodyref19_Flip.mono _ _)
      | (with_reducible exact LeO.refl _)
      | (with_reducible exact LeO.none _)
      | (with_reducible refine LeO.ite ?_ ?_)
      | (with_reducible refine LeO.bind ?_ (fun _ => ?_))
      | exact ih0 _ _ _
      | exact awardingbodymake_Tape_Damage.mono _ _ _ _ _
      | exact awardingbodyref19_Draw.mono _ _ _ _ _
      | exact awardingbodyref19_Flip.mono _ _
      | exact LeO.none _
      | refine LeO.ite ?_ ?_
      | refine LeO.bind ?_ (fun _ => ?_)
def awardingbodylaw19_damaged.T6 : Bool × List (List Nat × List Nat) := (true, [([], []), ([], []), ([1], [1]), ([0, 2], [0, 2]), ([], []), ([], []), ([5, 2], [5]), ([4, 6], [4, 6]), ([7], [7]), ([3, 8], [3, 8]), ([9, 6, 0, 1, 2, 3, 4, 5, 6, 7, 8, 9], [0, 9])])
def awardingbodylaw19_damaged.B6 : List Nat := [0, 0, 2, 7, 0, 0, 38, 118, 246, 511, 1023]
theorem awardingbodylaw19_damaged.tab6 : rtab .any (opsOf Tryz.f13 6) = awardingbodylaw19_damaged.T6 := by kernel_rfl
theorem awardingbodylaw19_damaged.bits6 : waitsOk awardingbodylaw19_damaged.T6.2 awardingbodylaw19_damaged.B6 = true := by kernel_rfl
set_option maxHeartbeats 8000000 in
set_option maxRecDepth 100000 in
theorem awardingbodylaw19_damaged.calls (k : Nat) (g : Nat) (s0_0 : List Int) (s0_1 : Int) (a1 : Int) (r1 : ByteArray) (r2 : Int) (w0 w : World) (hI : IsS107 w0 w g s0_0 s0_1) (hB : Below w0.heap.size w0 w) (h : awardingbodylaw19_damaged.f k s0_0 s0_1 a1 = some (r1, r2)) :
    Calls Tryz.prog 13 #[.pointer (some ⟨g, 0, none⟩), .int .i64 a1] w fun e w' => e = .returned (.string r1) ∧ IsS107 w0 w' g s0_0 r2 ∧ Below w0.heap.size w0 w' ∧ KeepBut w w' g none := by
  have HI0 := Aside0.mk hI
  have HK := Aside0.mk (KeepBut.refl w g none)
  have HL := Aside0.mk hB.size
  clear hI
  have HW0 := Aside0.mk hB.size
  have HB := Aside0.mk hB
  clear hB
  have H : ((awardingbodymake_Tape_Label.f s0_0 s0_1 0).bind fun bt181 => ((awardingbodyref19_Draw.f k bt181.1 bt181.2.1 bt181.2.2.1 bt181.2.2.2.1).bind fun bt186 => ((awardingbodymake_Tape_Damage.f k s0_0 bt181.2.2.2.2 bt186.1 a1).bind fun bt188 => ((awardingbodymake_Tape_Next.f s0_0 bt188.2 2).bind fun bt190 => (if bt190.1 = 1 then ((awardingbodyref19_Flip.f k bt188.1).bind fun t192 => (awardingbodylaw19_damaged.j0 k t192 s0_0 bt190.2)) else (awardingbodylaw19_damaged.j0 k bt188.1 s0_0 bt190.2)))))) = some (r1, r2) := h
  clear h
  replace H := Option.bind_eq_some_iff.mp H
  obtain ⟨⟨t181, t182, t183, t184, t185⟩, A30, H⟩ := H
  replace H : ((awardingbodyref19_Draw.f k t181 t182 t183 t184).bind fun bt186 => ((awardingbodymake_Tape_Damage.f k s0_0 t185 bt186.1 a1).bind fun bt188 => ((awardingbodymake_Tape_Next.f s0_0 bt188.2 2).bind fun bt190 => (if bt190.1 = 1 then ((awardingbodyref19_Flip.f k bt188.1).bind fun t192 => (awardingbodylaw19_damaged.j0 k t192 s0_0 bt190.2)) else (awardingbodylaw19_damaged.j0 k bt188.1 s0_0 bt190.2))))) = some (r1, r2) := H
  have A3 := Aside0.mk A30
  clear A30
  replace H := Option.bind_eq_some_iff.mp H
  obtain ⟨⟨t186, t187⟩, A40, H⟩ := H
  replace H : ((awardingbodymake_Tape_Damage.f k s0_0 t185 t186 a1).bind fun bt188 => ((awardingbodymake_Tape_Next.f s0_0 bt188.2 2).bind fun bt190 => (if bt190.1 = 1 then ((awardingbodyref19_Flip.f k bt188.1).bind fun t192 => (awardingbodylaw19_damaged.j0 k t192 s0_0 bt190.2)) else (awardingbodylaw19_damaged.j0 k bt188.1 s0_0 bt190.2)))) = some (r1, r2) := H
  have A4 := Aside0.mk A40
  clear A40
  replace H := Option.bind_eq_some_iff.mp H
  obtain ⟨⟨t188, t189⟩, A50, H⟩ := H
  replace H : ((awardingbodymake_Tape_Next.f s0_0 t189 2).bind fun bt190 => (if bt190.1 = 1 then ((awardingbodyref19_Flip.f k t188).bind fun t192 => (awardingbodylaw19_damaged.j0 k t192 s0_0 bt190.2)) else (awardingbodylaw19_damaged.j0 k t188 s0_0 bt190.2))) = some (r1, r2) := H
  have A5 := Aside0.mk A50
  clear A50
  replace H := Option.bind_eq_some_iff.mp H
  obtain ⟨⟨t190, t191⟩, A60, H⟩ := H
  replace H : (if t190 = 1 then ((awardingbodyref19_Flip.f k t188).bind fun t192 => (awardingbodylaw19_damaged.j0 k t192 s0_0 t191)) else (awardingbodylaw19_damaged.j0 k t188 s0_0 t191)) = some (r1, r2) := H
  have A6 := Aside0.mk A60
  clear A60
  have HC7 := Aside0.mk H
  clear H
  go_enter Tryz.func13, Tryz.ntmps13
  go_upto_if 19 with (first | ((with_reducible refine gate_callee (f := 51) rfl ?_); refine goesL_ (some 9) rfl rfl Tryz.func51 (by kernel_rfl) rfl #[.pointer (some ⟨g, 0, none⟩), .int .i64 0] rfl (by (try simp only [List.map_toArray, List.map_cons, List.map_nil]); first | done | rfl | (simp only [List.length_drop, List.length_take]; rfl)) ?_; (with_reducible refine (awardingbodymake_Tape_Label.calls g s0_0 s0_1 0 t181 t182 t183 t184 t185 w0 _ ?side1 ?side2 A3.out).mono ?_); (case side1 => repeat (first | (with_reducible first | exact HI0.out | apply IsS107.alloc | apply IsS107.drewN | apply IsS107.drew | apply IsS107.set_1) | exact HI0.out)); (case side2 => repeat (first | (with_reducible first | exact HB.out | apply below_alloc | apply pw_below_drewN | apply below_drew1 | refine below_set ?_ (IsS107.ge HI0.out)) | exact HB.out)); rintro e w8 ⟨rfl, hi, hb, hk⟩; refine ⟨_, rfl, ?_⟩; have n0_ := Aside0.mk (KeepBut.trans (by repeat (first | (with_reducible first | exact HK.out | apply KeepBut.set_ | apply keep_drewN | apply keep_drew | apply keep_alloc) | exact HK.out)) hk (.inl rfl)); have n1_ := Aside0.mk (hb); have n2_ := Aside0.mk (hi); clear HK; clear HB; clear HI0; have HK := n0_; have HB := n1_; have HI0 := n2_; clear n0_ n1_ n2_; (try clear hb); (try clear hb2); (try clear hk); (try clear hi)) | ((with_reducible refine gate_callee (f := 50) rfl ?_); refine goesL_ (some 10) rfl rfl Tryz.func50 (by kernel_rfl) rfl #[.agg #[.int .i64 t181, .int .i64 t182, .int .i64 t183, .int .i64 t184]] rfl (by (try simp only [List.map_toArray, List.map_cons, List.map_nil]); first | done | rfl | (simp only [List.length_drop, List.length_take]; rfl)) ?_; (with_reducible refine (awardingbodyref19_Draw.calls k t181 t182 t183 t184 t186 t187 _ A4.out).mono ?_); rintro e w9 ⟨rfl, hb⟩; refine ⟨_, rfl, ?_⟩; have n0_ := Aside0.mk (IsS107.below (by repeat (first | (with_reducible first | exact HI0.out | apply IsS107.alloc | apply IsS107.drewN | apply IsS107.drew | apply IsS107.set_1) | exact HI0.out)) hb); have n1_ := Aside0.mk (KeepBut.trans (by repeat (first | (with_reducible first | exact HK.out | apply KeepBut.set_ | apply keep_drewN | apply keep_drew | apply keep_alloc) | exact HK.out)) (KeepBut.of_below hb g none) (.inl rfl)); have n2_ := Aside0.mk (below_step (by repeat (first | (with_reducible first | exact HB.out | apply below_alloc | apply pw_below_drewN | apply below_drew1 | refine below_set ?_ (IsS107.ge HI0.out)) | exact HB.out)) hb); clear HI0; clear HK; clear HB; have HI0 := n0_; have HK := n1_; have HB := n2_; clear n0_ n1_ n2_; (try clear hb); (try clear hb2); (try clear hk); (try clear hi)) | ((with_reducible refine gate_callee (f := 52) rfl ?_); refine goesL_ (some 16) rfl rfl Tryz.func52 (by kernel_rfl) rfl #[.pointer (some ⟨g, 0, none⟩), .string t186, .int .i64 a1] rfl (by (try simp only [List.map_toArray, List.map_cons, List.map_nil]); first | done | rfl | (simp only [List.length_drop, List.length_take]; rfl)) ?_; (with_reducible refine (awardingbodymake_Tape_Damage.calls k g s0_0 t185 t186 a1 t188 t189 w0 _ ?side1 ?side2 A5.out).mono ?_); (case side1 => repeat (first | (with_reducible first | exact HI0.out | apply IsS107.alloc | apply IsS107.drewN | apply IsS107.drew | apply IsS107.set_1) | exact HI0.out)); (case side2 => repeat (first | (with_reducible first | exact HB.out | apply below_alloc | apply pw_below_drewN | apply below_drew1 | refine below_set ?_ (IsS107.ge HI0.out)) | exact HB.out)); rintro e w10 ⟨rfl, hi, hb, hk⟩; refine ⟨_, rfl, ?_⟩; have n0_ := Aside0.mk (KeepBut.trans (by repeat (first | (with_reducible first | exact HK.out | apply KeepBut.set_ | apply keep_drewN | apply keep_drew | apply keep_alloc) | exact HK.out)) hk (.inl rfl)); have n1_ := Aside0.mk (hb); have n2_ := Aside0.mk (hi); clear HK; clear HB; clear HI0; have HK := n0_; have HB := n1_; have HI0 := n2_; clear n0_ n1_ n2_; (try clear hb); (try clear hb2); (try clear hk); (try clear hi)) | ((with_reducible refine gate_callee (f := 39) rfl ?_); refine goesL_ (some 18) rfl rfl Tryz.func39 (by kernel_rfl) rfl #[.pointer (some ⟨g, 0, none⟩), .int .i64 2] rfl (by (try simp only [List.map_toArray, List.map_cons, List.map_nil]); first | done | rfl | (simp only [List.length_drop, List.length_take]; rfl)) ?_; (with_reducible refine (awardingbodymake_Tape_Next.calls g s0_0 t189 2 t190 t191 w0 _ ?side1 ?side2 A6.out).mono ?_); (case side1 => repeat (first | (with_reducible first | exact HI0.out | apply IsS107.alloc | apply IsS107.drewN | apply IsS107.drew | apply IsS107.set_1) | exact HI0.out)); (case side2 => repeat (first | (with_reducible first | exact HB.out | apply below_alloc | apply pw_below_drewN | apply below_drew1 | refine below_set ?_ (IsS107.ge HI0.out)) | exact HB.out)); rintro e w11 ⟨rfl, hi, hb, hk⟩; refine ⟨_, rfl, ?_⟩; have n0_ := Aside0.mk (KeepBut.trans (by repeat (first | (with_reducible first | exact HK.out | apply KeepBut.set_ | apply keep_drewN | apply keep_drew | apply keep_alloc) | exact HK.out)) hk (.inl rfl)); have n1_ := Aside0.mk (hb); have n2_ := Aside0.mk (hi); clear HK; clear HB; clear HI0; have HK := n0_; have HB := n1_; have HI0 := n2_; clear n0_ n1_ n2_; (try clear hb); (try clear hb2); (try clear hk); (try clear hi)))
  (try simp only [Act.put, List.setIfInBounds_toArray, List.set_cons_zero, List.set_cons_succ])
  go_cut [5] (fun v5 wc => ∃ (kq : Nat) (x5_6 : ByteArray), v5 = .string x5_6 ∧ Aside0 (awardingbodylaw19_damaged.j0 kq x5_6 s0_0 t191 = some (r1, r2)) ∧ Aside0 (kq ≤ k) ∧ Aside0 (IsS107 w0 wc g s0_0 t191) ∧ Aside0 (KeepBut w wc g none) ∧ Aside0 (Below w0.heap.size w0 wc))
  case first =>
    have H := HC7.out
    clear HC7
    by_cases c12 : t190 = 1
    · rw [if_pos c12] at H
      have c12b0 : (t190 == 1) = true := beq_iff_eq.mpr c12
      have c12b1 : (t190 != 1) = false := bne_eq_false_iff_eq.mpr c12
      clear c12
      (first | rw [c12b0] | (simp only [i64_w, i32_w]; rw [c12b0]) | skip)
      replace H := Option.bind_eq_some_iff.mp H
      obtain ⟨t192, A130, H⟩ := H
      replace H : (awardingbodylaw19_damaged.j0 k t192 s0_0 t191) = some (r1, r2) := H
      have A13 := Aside0.mk A130
      clear A130
      have H' := Aside0.mk H
      clear H
      go_wp2_with (first | ((with_reducible refine gate_callee (f := 53) rfl ?_); refine goesL_ (some 21) rfl rfl Tryz.func53 (by kernel_rfl) rfl #[.string t188] rfl (by (try simp only [List.map_toArray, List.map_cons, List.map_nil]); first | done | rfl | (simp only [List.length_drop, List.length_take]; rfl)) ?_; (with_reducible refine (awardingbodyref19_Flip.calls k t188 t192 _ A13.out).mono ?_); rintro e w14 ⟨rfl, hb⟩; refine ⟨_, rfl, ?_⟩; have n0_ := Aside0.mk (IsS107.below (by repeat (first | (with_reducible first | exact HI0.out | apply IsS107.alloc | apply IsS107.drewN | apply IsS107.drew | apply IsS107.set_1) | exact HI0.out)) hb); have n1_ := Aside0.mk (KeepBut.trans (by repeat (first | (with_reducible first | exact HK.out | apply KeepBut.set_ | apply keep_drewN | apply keep_drew | apply keep_alloc) | exact HK.out)) (KeepBut.of_below hb g none) (.inl rfl)); have n2_ := Aside0.mk (below_step (by repeat (first | (with_reducible first | exact HB.out | apply below_alloc | apply pw_below_drewN | apply below_drew1 | refine below_set ?_ (IsS107.ge HI0.out)) | exact HB.out)) hb); clear HI0; clear HK; clear HB; have HI0 := n0_; have HK := n1_; have HB := n2_; clear n0_ n1_ n2_; (try clear hb); (try clear hb2); (try clear hk); (try clear hi)))
      go_meet
      case rel => exact ⟨_, (t192), (by first | rfl | (simp; done) | (simp [*]; done)), H', ⟨by first | omega | exact Nat.le_refl _⟩, ⟨by repeat (first | (with_reducible first | exact HI0.out | apply IsS107.alloc | apply IsS107.drewN | apply IsS107.drew | apply IsS107.set_1) | exact HI0.out)⟩, ⟨by repeat (first | (with_reducible first | exact HK.out | apply KeepBut.set_ | apply keep_drewN | apply keep_drew | apply keep_alloc) | exact HK.out)⟩, ⟨by repeat (first | (with_reducible first | exact HB.out | apply below_alloc | apply pw_below_drewN | apply below_drew1 | refine below_set ?_ (IsS107.ge HI0.out)) | exact HB.out)⟩⟩
    · rw [if_neg c12] at H
      have c12b0 : (t190 == 1) = false := beq_eq_false_iff_ne.mpr c12
      have c12b1 : (t190 != 1) = true := bne_iff_ne.mpr c12
      (first | rw [c12b0] | (simp only [i64_w, i32_w]; rw [c12b0]) | skip)
      have H' := Aside0.mk H
      clear H
      go_wp2
      go_meet
      case rel => exact ⟨_, (t188), (by first | rfl | (simp; done) | (simp [*]; done)), H', ⟨by first | omega | exact Nat.le_refl _⟩, ⟨by repeat (first | (with_reducible first | exact HI0.out | apply IsS107.alloc | apply IsS107.drewN | apply IsS107.drew | apply IsS107.set_1) | exact HI0.out)⟩, ⟨by repeat (first | (with_reducible first | exact HK.out | apply KeepBut.set_ | apply keep_drewN | apply keep_drew | apply keep_alloc) | exact HK.out)⟩, ⟨by repeat (first | (with_reducible first | exact HB.out | apply below_alloc | apply pw_below_drewN | apply below_drew1 | refine below_set ?_ (IsS107.ge HI0.out)) | exact HB.out)⟩⟩
  case rest =>
    clear HC7
    try clear c1
    try clear p2
    try clear c3
    try clear c5
    try clear c12
    try clear c12b0
    try clear c12b1
    try clear c13
    obtain ⟨kq, x5_6, rfl, HA, HJ6, HI0, HK, HB⟩ := hcut
    cases kq with
    | zero => exact absurd HA.out (by simp [awardingbodylaw19_damaged.j0])
    | succ kj6 =>
      have H := HA.out
      clear HA
      simp only [awardingbodylaw19_damaged.j0] at H
      replace H := Option.bind_eq_some_iff.mp H
      obtain ⟨⟨t193, t194⟩, A150, H⟩ := H
      replace H : (if t193 = true then ((awardingbodymake_Tape_Next.f s0_0 t194 2).bind fun bt195 => (if 0 ≤ bt195.1 then (if bt195.1 ≤ (x5_6.size : Int) then ((some (([(⟨#[]⟩ : ByteArray), (⟨#[48]⟩ : ByteArray), (⟨#[50]⟩ : ByteArray)] : List ByteArray) : List ByteArray)).bind fun y197 => ((awardingbodymake_Tape_Next.f s0_0 bt195.2 3).bind fun bt200 => (if 0 ≤ bt200.1 then (if bt200.1 < (y197.length : Int) then (if (x5_6.extract (bt195.1 : Int).toNat x5_6.size).size + (rdOf ByteArray.empty y197 bt200.1).size ≤ 9223372036854775807 then (some ((x5_6.extract (bt195.1 : Int).toNat x5_6.size) ++ (rdOf ByteArray.empty y197 bt200.1), bt200.2)) else (none)) else (none)) else (none)))) else (none)) else (none))) else (some (x5_6, t194))) = some (r1, r2) := H
      have A15 := Aside0.mk A150
      clear A150
      by_cases c16 : t193 = true
      · subst c16
        have H1 : ((awardingbodymake_Tape_Next.f s0_0 t194 2).bind fun bt195 => (if 0 ≤ bt195.1 then (if bt195.1 ≤ (x5_6.size : Int) then ((some (([(⟨#[]⟩ : ByteArray), (⟨#[48]⟩ : ByteArray), (⟨#[50]⟩ : ByteArray)] : List ByteArray) : List ByteArray)).bind fun y197 => ((awardingbodymake_Tape_Next.f s0_0 bt195.2 3).bind fun bt200 => (if 0 ≤ bt200.1 then (if bt200.1 < (y197.length : Int) then (if (x5_6.extract (bt195.1 : Int).toNat x5_6.size).size + (rdOf ByteArray.empty y197 bt200.1).size ≤ 9223372036854775807 then (some ((x5_6.extract (bt195.1 : Int).toNat x5_6.size) ++ (rdOf ByteArray.empty y197 bt200.1), bt200.2)) else (none)) else (none)) else (none)))) else (none)) else (none))) = some (r1, r2) := by rw [if_pos rfl] at H; exact H
        clear H
        have H := H1
        clear H1
        replace H := Option.bind_eq_some_iff.mp H
        obtain ⟨⟨t195, t196⟩, A170, H⟩ := H
        replace H : (if 0 ≤ t195 then (if t195 ≤ (x5_6.size : Int) then ((some (([(⟨#[]⟩ : ByteArray), (⟨#[48]⟩ : ByteArray), (⟨#[50]⟩ : ByteArray)] : List ByteArray) : List ByteArray)).bind fun y197 => ((awardingbodymake_Tape_Next.f s0_0 t196 3).bind fun bt200 => (if 0 ≤ bt200.1 then (if bt200.1 < (y197.length : Int) then (if (x5_6.extract (t195 : Int).toNat x5_6.size).size + (rdOf ByteArray.empty y197 bt200.1).size ≤ 9223372036854775807 then (some ((x5_6.extract (t195 : Int).toNat x5_6.size) ++ (rdOf ByteArray.empty y197 bt200.1), bt200.2)) else (none)) else (none)) else (none)))) else (none)) else (none)) = some (r1, r2) := H
        have A17 := Aside0.mk A170
        clear A170
        by_cases c18 : 0 ≤ t195
        · rw [if_pos c18] at H
          have c18b0 := eq_true c18
          have c18b1 : decide (0 ≤ t195) = true := decide_eq_true c18
          clear c18
          by_cases c19 : t195 ≤ (x5_6.size : Int)
          · rw [if_pos c19] at H
            have c19b0 := eq_true c19
            have c19b1 : decide (t195 ≤ (x5_6.size : Int)) = true := decide_eq_true c19
            clear c19
            obtain ⟨y197, hy197⟩ : ∃ y_ : List ByteArray, y_ = (([(⟨#[]⟩ : ByteArray), (⟨#[48]⟩ : ByteArray), (⟨#[50]⟩ : ByteArray)] : List ByteArray)) := ⟨_, rfl⟩
            replace H : ((awardingbodymake_Tape_Next.f s0_0 t196 3).bind fun bt200 => (if 0 ≤ bt200.1 then (if bt200.1 < (y197.length : Int) then (if (x5_6.extract (t195 : Int).toNat x5_6.size).size + (rdOf ByteArray.empty y197 bt200.1).size ≤ 9223372036854775807 then (some ((x5_6.extract (t195 : Int).toNat x5_6.size) ++ (rdOf ByteArray.empty y197 bt200.1), bt200.2)) else (none)) else (none)) else (none))) = some (r1, r2) := by first | (rw [hy197]; with_reducible exact H) | (have H2_ := (Option.bind_some _ _).symm.trans H; rw [hy197]; with_reducible exact H2_) | (have H2_ := (Option.bind_some _ _).symm.trans H; with_reducible exact H2_) | with_reducible exact H | (rw [hy197]; exact H) | exact H
            have Ny197 := Aside0.mk hy197
            clear hy197
            replace H := Option.bind_eq_some_iff.mp H
            obtain ⟨⟨t200, t201⟩, A200, H⟩ := H
            replace H : (if 0 ≤ t200 then (if t200 < (y197.length : Int) then (if (x5_6.extract (t195 : Int).toNat x5_6.size).size + (rdOf ByteArray.empty y197 t200).size ≤ 9223372036854775807 then (some ((x5_6.extract (t195 : Int).toNat x5_6.size) ++ (rdOf ByteArray.empty y197 t200), t201)) else (none)) else (none)) else (none)) = some (r1, r2) := H
            have A20 := Aside0.mk A200
            clear A200
            by_cases c21 : 0 ≤ t200
            · rw [if_pos c21] at H
              have c21b0 : decide (0 ≤ t200) = true := decide_eq_true c21
              clear c21
              by_cases c22 : t200 < (y197.length : Int)
              · rw [if_pos c22] at H
                have c22b0 : decide (t200 < (y197.length : Int)) = true := decide_eq_true c22
                clear c22
                by_cases c23 : (x5_6.extract (t195 : Int).toNat x5_6.size).size + (rdOf ByteArray.empty y197 t200).size ≤ 9223372036854775807
                · rw [if_pos c23] at H
                  have c23b0 := eq_true c23
                  have c23b1 : decide ((x5_6.extract (t195 : Int).toNat x5_6.size).size + (rdOf ByteArray.empty y197 t200).size ≤ 9223372036854775807) = true := decide_eq_true c23
                  try have c23b2 : (9223372036854775807 < (x5_6.extract (t195 : Int).toNat x5_6.size).size + (rdOf ByteArray.empty y197 t200).size) = False := eq_false (Nat.not_lt.2 c23)
                  simp only [Option.some.injEq, Prod.mk.injEq] at H
                  obtain ⟨rfl, rfl⟩ := H
                  try go_wp2_with (first | ((with_reducible refine gate_callee (f := 54) rfl ?_); refine goesL_ (some 23) rfl rfl Tryz.func54 (by kernel_rfl) rfl #[.pointer (some ⟨g, 0, none⟩), .int .i64 12] rfl (by (try simp only [List.map_toArray, List.map_cons, List.map_nil]); first | done | rfl | (simp only [List.length_drop, List.length_take]; rfl)) ?_; (with_reducible refine (awardingbodymake_Tape_One.calls g s0_0 t191 12 true t194 w0 _ ?side1 ?side2 A15.out).mono ?_); (case side1 => repeat (first | (with_reducible first | exact HI0.out | apply IsS107.alloc | apply IsS107.drewN | apply IsS107.drew | apply IsS107.set_1) | exact HI0.out)); (case side2 => repeat (first | (with_reducible first | exact HB.out | apply below_alloc | apply pw_below_drewN | apply below_drew1 | refine below_set ?_ (IsS107.ge HI0.out)) | exact HB.out)); rintro e w24 ⟨rfl, hi, hb, hk⟩; refine ⟨_, rfl, ?_⟩; have n0_ := Aside0.mk (KeepBut.trans (by repeat (first | (with_reducible first | exact HK.out | apply KeepBut.set_ | apply keep_drewN | apply keep_drew | apply keep_alloc) | exact HK.out)) hk (.inl rfl)); have n1_ := Aside0.mk (hb); have n2_ := Aside0.mk (hi); clear HK; clear HB; clear HI0; have HK := n0_; have HB := n1_; have HI0 := n2_; clear n0_ n1_ n2_; (try clear hb); (try clear hb2); (try clear hk); (try clear hi)))
                  have pi202 : (0 ≤ (t200 : Int)) = True := eq_true (of_decide_eq_true (by first | (with_reducible assumption) | assumption))
                  have qi202 : (t200 < (y197.length : Int)) = True := eq_true (of_decide_eq_true (by first | (with_reducible assumption) | assumption))
                  have n0_ := Aside0.mk (IsS107.drew HI0.out)
                  have n1_ := Aside0.mk (keep_drew HK.out)
                  have n2_ := Aside0.mk (below_drew1 HB.out)
                  clear HI0
                  clear HK
                  clear HB
                  have HI0 := n0_
                  have HK := n1_
                  have HB := n2_
                  clear n0_ n1_ n2_
                  refine start_ (n := 11) (S := fun w' => True) (ds := []) #[false, false, false, false, false, false, false, false, false, false, false] (by kernel_rfl) rfl rfl trivial (fun hHeld => ?_); refine with_tabW awardingbodylaw19_damaged.tab6 awardingbodylaw19_damaged.bits6 (fun HT_ HW_ => ?_)
                  generalize w24.drew = w25 at HI0 HK HB hHeld ⊢
                  refine pure_ (i := 0) (N := some 24) (v := ?_) (a' := ?_) #[true, false, false, false, false, false, false, false, false, false, false] rfl rfl (any_of HT_.out (by kernel_rfl)) (fun _ _ _ h => h) (Or.inl ⟨by rfl, ?_⟩) ?_ ?_
                  rotate_left
                  · intro w'
                    go_simp
                    with_reducible rfl
                  rotate_left
                  · simp only [Act.put, List.setIfInBounds_toArray, List.set_cons_zero, List.set_cons_succ, i64_w, i32_w]
                    rfl
                  refine pure_ (i := 1) (N := some 25) (v := ?_) (a' := ?_) #[true, true, false, false, false, false, false, false, false, false, false] rfl rfl (any_of HT_.out (by kernel_rfl)) (fun _ _ _ h => h) (Or.inl ⟨by rfl, ?_⟩) ?_ ?_
                  rotate_left
                  · intro w'
                    go_simp
                    with_reducible rfl
                  rotate_left
                  · simp only [Act.put, List.setIfInBounds_toArray, List.set_cons_zero, List.set_cons_succ, i64_w, i32_w]
                    rfl
                  refine pure_ (i := 5) (N := some 29) (v := ?_) (a' := ?_) #[true, true, false, false, false, true, false, false, false, false, false] rfl rfl (any_of HT_.out (by kernel_rfl)) (fun _ _ _ h => h) (Or.inl ⟨by rfl, ?_⟩) ?_ ?_
                  rotate_left
                  · intro w'
                    go_simp
                    with_reducible rfl
                  rotate_left
                  · simp only [Act.put, List.setIfInBounds_toArray, List.set_cons_zero, List.set_cons_succ, i64_w, i32_w]
                    rfl
                  refine inv_at [2, 3, 4, 6, 7, 8, 9, 10] (fun a0_ b a w' => ∃ (v198 : Value) (adz_v198 : Addr) (m7_ : Value), a = putSel a0_ b [(2, 26, .int .i64 t195), (3, 27, .string (x5_6.extract (t195 : Int).toNat x5_6.size)), (4, 28, v198), (6, 30, .int .i64 t200), (7, 31, m7_), (8, 32, .string (rdOf ByteArray.empty y197 t200)), (9, 33, .string ((x5_6.extract (t195 : Int).toNat x5_6.size) ++ (rdOf ByteArray.empty y197 t200))), (10, 5, .string ((x5_6.extract (t195 : Int).toNat x5_6.size) ++ (rdOf ByteArray.empty y197 t200)))] ∧ (b 2 = false → IsS107 w0 w' g s0_0 t194) ∧ (KeepBut w w' g none) ∧ (Below w0.heap.size w0 w') ∧ (b 2 = true → b 6 = false → IsS107 w0 w' g s0_0 t196) ∧ (b 4 = true → Kd.R Kd.string 9 w' w.heap.size (fun _ => True) v198 y197) ∧ (b 4 = true → ∃ c_, (v198 : Value) = .slice (some adz_v198) y197.length c_) ∧ (b 6 = true → IsS107 w0 w' g s0_0 t201) ∧ (b 7 = true → (m7_ : Value) = .pointer (some (adz_v198.add (t200).toNat)))) HT_.out HW_.out (by kernel_rfl) (by kernel_rfl) ?_ ?_ ?_
                  · exact ⟨.bool false, ⟨0, 0, none⟩, .bool false, by simp only [putSel, Bool.false_eq_true, if_false], fun _ => HI0.out, HK.out, HB.out, fun h_ => absurd h_ (by decide), fun h_ => absurd h_ (by decide), fun h_ => absurd h_ (by decide), fun h_ => absurd h_ (by decide), fun h_ => absurd h_ (by decide)⟩
                  · skip
                    clear HB HI0 HK
                    refine steps_cons ?_ ?_
                    · rintro b a w' ⟨v198, adz_v198, m7_, ha, Q_HI0, Q_HK, Q_HB, Q_HI0_e2, Q_HO199, Q_HA_HO199, Q_HI0_e6, Q_X7_⟩ hb_ hon hoff
                      refine ⟨_, rfl, fun K hK => ?_⟩
                      have e25 : a.tmps[25]? = some (.pointer (some ⟨g, 0, none⟩)) := by rw [ha]; exact (putSel_off rfl).trans rfl
                      replace ha := Aside0.mk ha
                      have HI0 := Aside0.mk (Q_HI0 hb_)
                      have HK := Aside0.mk Q_HK
                      have HB := Aside0.mk Q_HB
                      refine goes_ Tryz.func39 (by kernel_rfl) rfl #[.pointer (some ⟨g, 0, none⟩), .int .i64 2] (by rfl) rfl rfl (by first | (simp only [List.map_toArray, List.map_cons, List.map_nil, Act.eval, Array.getD_eq_getD_getElem?, Option.getD_some, e25]; done) | (simp only [List.map_toArray, List.map_cons, List.map_nil, Act.eval, Array.getD_eq_getD_getElem?, Option.getD_some, e25]; rfl)) ?_
                      with_reducible refine (awardingbodymake_Tape_Next.calls g s0_0 t194 2 t195 t196 w0 _ ?side1 ?side2 A17.out).mono ?_
                      (case side1 => repeat (first | (with_reducible first | exact HI0.out | apply IsS107.alloc | apply IsS107.drewN | apply IsS107.drew | apply IsS107.set_1) | exact HI0.out))
                      (case side2 => repeat (first | (with_reducible first | exact HB.out | apply below_alloc | apply pw_below_drewN | apply below_drew1 | refine below_set ?_ (IsS107.ge HI0.out)) | exact HB.out))
                      rintro e w26 ⟨rfl, hi, hb, hk⟩
                      refine ⟨_, rfl, ?_⟩
                      have n0_ := Aside0.mk (KeepBut.trans (by repeat (first | (with_reducible first | exact HK.out | apply KeepBut.set_ | apply keep_drewN | apply keep_drew | apply keep_alloc) | exact HK.out)) hk (.inl rfl))
                      have n1_ := Aside0.mk (hb)
                      have n2_ := Aside0.mk (hi)
                      have z_HO199 := fun (h0_ : b 4 = true) => (show Kd.R Kd.string 9 w26 w.heap.size (fun _ => True) v198 y197 from by first | exact (Kd.R_mono (Kd.R_keep (IsS107.apart (show IsS107 w0 _ g s0_0 t194 from by repeat (first | (with_reducible first | exact HI0.out | apply IsS107.alloc | apply IsS107.drewN | apply IsS107.drew | apply IsS107.set_1) | exact HI0.out)) (by (with_reducible repeat (first | apply Kd.R_alloc | apply Kd.R_drewN | apply Kd.R_drew)); exact (Q_HO199 h0_)) (by decide)) hk (fun _ h => h.2)) (fun _ h => h.1)) | exact Kd.R_mono (Kd.R_mono (Kd.R_keep (IsS107.apart (show IsS107 w0 _ g s0_0 t194 from by repeat (first | (with_reducible first | exact HI0.out | apply IsS107.alloc | apply IsS107.drewN | apply IsS107.drew | apply IsS107.set_1) | exact HI0.out)) (by (with_reducible repeat (first | apply Kd.R_alloc | apply Kd.R_drewN | apply Kd.R_drew)); exact (Q_HO199 h0_)) (by decide)) hk (fun _ h => h.2)) (fun _ h => h.1)) (fun _ h_ => by first | trivial | exact h_ | exact h_.1))
                      clear HK
                      clear HB
                      clear HI0
                      have HK := n0_
                      have HB := n1_
                      have HI0 := n2_
                      clear n0_ n1_ n2_
                      (try clear hb)
                      (try clear hb2)
                      (try clear hk)
                      (try clear hi)
                      refine hK.out _ _ ⟨v198, adz_v198, m7_, (by rw [ha.out]; exact putSel_upk 0 hb_ rfl rfl rfl), fun h0_ => absurd ((up_self b 2).symm.trans h0_) (by decide), (by repeat (first | (with_reducible first | exact HK.out | apply KeepBut.set_ | apply keep_drewN | apply keep_drew | apply keep_alloc) | exact HK.out)), (by repeat (first | (with_reducible first | exact HB.out | apply below_alloc | apply pw_below_drewN | apply below_drew1 | refine below_set ?_ (IsS107.ge HI0.out)) | exact HB.out)), fun _ _ => (by repeat (first | (with_reducible first | exact HI0.out | apply IsS107.alloc | apply IsS107.drewN | apply IsS107.drew | apply IsS107.set_1) | exact HI0.out)), z_HO199, Q_HA_HO199, fun h0_ => absurd ((hoff 6 (by kernel_rfl)).symm.trans h0_) (by decide), fun h0_ => absurd ((hoff 7 (by kernel_rfl)).symm.trans h0_) (by decide)⟩
                    refine steps_cons ?_ ?_
                    · rintro b a w' ⟨v198, adz_v198, m7_, ha, Q_HI0, Q_HK, Q_HB, Q_HI0_e2, Q_HO199, Q_HA_HO199, Q_HI0_e6, Q_X7_⟩ hb_ hon hoff
                      refine ⟨_, rfl, fun K hK => ?_⟩
                      have e24 : a.tmps[24]? = some (.string x5_6) := by rw [ha]; exact (putSel_off rfl).trans rfl
                      have e26 : a.tmps[26]? = some (.int .i64 t195) := by rw [ha]; exact putSel_on (e := (2, 26, .int .i64 t195)) 0 rfl rfl (hon 2 (by kernel_rfl)) rfl
                      replace ha := Aside0.mk ha
                      have HK := Aside0.mk Q_HK
                      have HB := Aside0.mk Q_HB
                      refine value_ (w1 := w') (v := .string (x5_6.extract (t195 : Int).toNat x5_6.size)) (by rfl) rfl ?_ ?_
                      · go_simp
                        (try simp only [i64_w])
                        try rfl
                      refine hK.out _ _ ⟨v198, adz_v198, m7_, (by rw [ha.out]; exact putSel_upk 1 hb_ rfl rfl rfl), fun h0_ => absurd ((hon 2 (by kernel_rfl)).symm.trans h0_) (by decide), Q_HK, Q_HB, Q_HI0_e2, Q_HO199, Q_HA_HO199, Q_HI0_e6, Q_X7_⟩
                    refine steps_cons ?_ ?_
                    · rintro b a w' ⟨v198, adz_v198, m7_, ha, Q_HI0, Q_HK, Q_HB, Q_HI0_e2, Q_HO199, Q_HA_HO199, Q_HI0_e6, Q_X7_⟩ hb_ hon hoff
                      refine ⟨_, rfl, fun K hK => ?_⟩
                      replace ha := Aside0.mk ha
                      have HK := Aside0.mk Q_HK
                      have HB := Aside0.mk Q_HB
                      refine Kd.R_lit_step Kd.string _ 9 ?hg (N := 28) ?hd (xs := ([(⟨#[]⟩ : ByteArray), (⟨#[48]⟩ : ByteArray), (⟨#[50]⟩ : ByteArray)] : List ByteArray)) (inner := [.string (⟨#[]⟩ : ByteArray), .string (⟨#[48]⟩ : ByteArray), .string (⟨#[50]⟩ : ByteArray)]) (ok := fun _ => True) (okp := fun _ => True) ?hr ?hp (fun _ hk => hk) trivial (Below.refl _ _) (Nat.le_refl _) (by simp) ?_; (case hd => rfl); (case hg => rfl); (case hr => first | (go_simp; done) | (go_simp; rfl)); (case hp => exact (Reps.one (show Kd.M Kd.string _ _ _ (⟨#[]⟩ : ByteArray) [.string (⟨#[]⟩ : ByteArray)] from rfl) (Reps.one (show Kd.M Kd.string _ _ _ (⟨#[48]⟩ : ByteArray) [.string (⟨#[48]⟩ : ByteArray)] from rfl) (Reps.one (show Kd.M Kd.string _ _ _ (⟨#[50]⟩ : ByteArray) [.string (⟨#[50]⟩ : ByteArray)] from rfl) (Reps.none _ _)))))
                      intro v198 w26 ho27 hb hg_ hnew_
                      clear hg_ hnew_
                      (first | rw [← Ny197.out] at ho27 | (simp only [Int.reduceToNat] at ho27; rw [← Ny197.out] at ho27))
                      have n0_ := Aside0.mk (Kd.R_lower ho27 (keep_size (w := w) (g := g) (row := none) (by repeat (first | (with_reducible first | exact HK.out | apply KeepBut.set_ | apply keep_drewN | apply keep_drew | apply keep_alloc) | exact HK.out))))
                      have n2_ := Aside0.mk (KeepBut.trans (by repeat (first | (with_reducible first | exact HK.out | apply KeepBut.set_ | apply keep_drewN | apply keep_drew | apply keep_alloc) | exact HK.out)) (KeepBut.of_below hb g none) (.inl rfl))
                      have n3_ := Aside0.mk (below_step (by repeat (first | (with_reducible first | exact HB.out | apply below_alloc | apply pw_below_drewN | apply below_drew1) | exact HB.out)) hb)
                      have z_HI0 := fun (h0_ : b 2 = false) => (show IsS107 w0 w26 g s0_0 t194 from by first | exact (IsS107.below (by repeat (first | (with_reducible first | exact (Q_HI0 h0_) | apply IsS107.alloc | apply IsS107.drewN | apply IsS107.drew | apply IsS107.set_1) | exact (Q_HI0 h0_))) hb))
                      have z_HI0_e2 := fun (h0_ : b 2 = true) (h1_ : b 6 = false) => (show IsS107 w0 w26 g s0_0 t196 from by first | exact (IsS107.below (by repeat (first | (with_reducible first | exact (Q_HI0_e2 h0_ h1_) | apply IsS107.alloc | apply IsS107.drewN | apply IsS107.drew | apply IsS107.set_1) | exact (Q_HI0_e2 h0_ h1_))) hb))
                      have z_HI0_e6 := fun (h0_ : b 6 = true) => (show IsS107 w0 w26 g s0_0 t201 from by first | exact (IsS107.below (by repeat (first | (with_reducible first | exact (Q_HI0_e6 h0_) | apply IsS107.alloc | apply IsS107.drewN | apply IsS107.drew | apply IsS107.set_1) | exact (Q_HI0_e6 h0_))) hb))
                      clear HK
                      clear HB
                      have HO199 := n0_
                      have HK := n2_
                      have HB := n3_
                      clear n0_ n2_ n3_
                      clear hb ho27
                      obtain ⟨Ao28, co28, eo28⟩ := Kd.R_slice HO199.out
                      subst eo28
                      obtain ⟨ado28, fo28, _⟩ := Kd.at_string (Kd.R_reads' HO199.out).2.2 0 (by decide) (by rw [Ny197.out]; simp)
                      cases fo28
                      refine hK.out _ _ ⟨.slice (some ado28) y197.length co28, ado28, m7_, (by rw [ha.out]; exact putSel_upk 2 hb_ rfl rfl rfl), z_HI0, (by repeat (first | (with_reducible first | exact HK.out | apply KeepBut.set_ | apply keep_drewN | apply keep_drew | apply keep_alloc) | exact HK.out)), (by repeat (first | (with_reducible first | exact HB.out | apply below_alloc | apply pw_below_drewN | apply below_drew1) | exact HB.out)), z_HI0_e2, fun _ => (by (with_reducible repeat (first | apply Kd.R_alloc | apply Kd.R_drewN | apply Kd.R_drew)); exact HO199.out), fun _ => ⟨_, rfl⟩, z_HI0_e6, fun h0_ => absurd ((hoff 7 (by kernel_rfl)).symm.trans h0_) (by decide)⟩
                    refine steps_cons ?_ ?_
                    · rintro b a w' ⟨v198, adz_v198, m7_, ha, Q_HI0, Q_HK, Q_HB, Q_HI0_e2, Q_HO199, Q_HA_HO199, Q_HI0_e6, Q_X7_⟩ hb_ hon hoff
                      refine ⟨_, rfl, fun K hK => ?_⟩
                      have e29 : a.tmps[29]? = some (.pointer (some ⟨g, 0, none⟩)) := by rw [ha]; exact (putSel_off rfl).trans rfl
                      replace ha := Aside0.mk ha
                      have HK := Aside0.mk Q_HK
                      have HB := Aside0.mk Q_HB
                      have HI0 := Aside0.mk (Q_HI0_e2 (hon 2 (by kernel_rfl)) hb_)
                      refine goes_ Tryz.func39 (by kernel_rfl) rfl #[.pointer (some ⟨g, 0, none⟩), .int .i64 3] (by rfl) rfl rfl (by first | (simp only [List.map_toArray, List.map_cons, List.map_nil, Act.eval, Array.getD_eq_getD_getElem?, Option.getD_some, e29]; done) | (simp only [List.map_toArray, List.map_cons, List.map_nil, Act.eval, Array.getD_eq_getD_getElem?, Option.getD_some, e29]; rfl)) ?_
                      with_reducible refine (awardingbodymake_Tape_Next.calls g s0_0 t196 3 t200 t201 w0 _ ?side1 ?side2 A20.out).mono ?_
                      (case side1 => repeat (first | (with_reducible first | exact HI0.out | apply IsS107.alloc | apply IsS107.drewN | apply IsS107.drew | apply IsS107.set_1) | exact HI0.out))
                      (case side2 => repeat (first | (with_reducible first | exact HB.out | apply below_alloc | apply pw_below_drewN | apply below_drew1 | refine below_set ?_ (IsS107.ge HI0.out)) | exact HB.out))
                      rintro e w28 ⟨rfl, hi, hb, hk⟩
                      refine ⟨_, rfl, ?_⟩
                      have n0_ := Aside0.mk (KeepBut.trans (by repeat (first | (with_reducible first | exact HK.out | apply KeepBut.set_ | apply keep_drewN | apply keep_drew | apply keep_alloc) | exact HK.out)) hk (.inl rfl))
                      have n1_ := Aside0.mk (hb)
                      have n2_ := Aside0.mk (hi)
                      have z_HO199 := fun (h0_ : b 4 = true) => (show Kd.R Kd.string 9 w28 w.heap.size (fun _ => True) v198 y197 from by first | exact (Kd.R_mono (Kd.R_keep (IsS107.apart (show IsS107 w0 _ g s0_0 t196 from by repeat (first | (with_reducible first | exact HI0.out | apply IsS107.alloc | apply IsS107.drewN | apply IsS107.drew | apply IsS107.set_1) | exact HI0.out)) (by (with_reducible repeat (first | apply Kd.R_alloc | apply Kd.R_drewN | apply Kd.R_drew)); exact (Q_HO199 h0_)) (by decide)) hk (fun _ h => h.2)) (fun _ h => h.1)) | exact Kd.R_mono (Kd.R_mono (Kd.R_keep (IsS107.apart (show IsS107 w0 _ g s0_0 t196 from by repeat (first | (with_reducible first | exact HI0.out | apply IsS107.alloc | apply IsS107.drewN | apply IsS107.drew | apply IsS107.set_1) | exact HI0.out)) (by (with_reducible repeat (first | apply Kd.R_alloc | apply Kd.R_drewN | apply Kd.R_drew)); exact (Q_HO199 h0_)) (by decide)) hk (fun _ h => h.2)) (fun _ h => h.1)) (fun _ h_ => by first | trivial | exact h_ | exact h_.1))
                      clear HK
                      clear HB
                      clear HI0
                      have HK := n0_
                      have HB := n1_
                      have HI0 := n2_
                      clear n0_ n1_ n2_
                      (try clear hb)
                      (try clear hb2)
                      (try clear hk)
                      (try clear hi)
                      refine hK.out _ _ ⟨v198, adz_v198, m7_, (by rw [ha.out]; exact putSel_upk 3 hb_ rfl rfl rfl), fun h0_ => absurd ((hon 2 (by kernel_rfl)).symm.trans h0_) (by decide), (by repeat (first | (with_reducible first | exact HK.out | apply KeepBut.set_ | apply keep_drewN | apply keep_drew | apply keep_alloc) | exact HK.out)), (by repeat (first | (with_reducible first | exact HB.out | apply below_alloc | apply pw_below_drewN | apply below_drew1 | refine below_set ?_ (IsS107.ge HI0.out)) | exact HB.out)), fun _ h1_ => absurd ((up_self b 6).symm.trans h1_) (by decide), z_HO199, Q_HA_HO199, fun _ => (by repeat (first | (with_reducible first | exact HI0.out | apply IsS107.alloc | apply IsS107.drewN | apply IsS107.drew | apply IsS107.set_1) | exact HI0.out)), fun h0_ => absurd ((hoff 7 (by kernel_rfl)).symm.trans h0_) (by decide)⟩
                    refine steps_cons ?_ ?_
                    · rintro b a w' ⟨v198, adz_v198, m7_, ha, Q_HI0, Q_HK, Q_HB, Q_HI0_e2, Q_HO199, Q_HA_HO199, Q_HI0_e6, Q_X7_⟩ hb_ hon hoff
                      refine ⟨_, rfl, fun K hK => ?_⟩
                      have e28 : a.tmps[28]? = some (v198) := by rw [ha]; exact putSel_on (e := (4, 28, v198)) 2 rfl rfl (hon 4 (by kernel_rfl)) rfl
                      have e30 : a.tmps[30]? = some (.int .i64 t200) := by rw [ha]; exact putSel_on (e := (6, 30, .int .i64 t200)) 3 rfl rfl (hon 6 (by kernel_rfl)) rfl
                      replace ha := Aside0.mk ha
                      have HK := Aside0.mk Q_HK
                      have HB := Aside0.mk Q_HB
                      have HO199 := Aside0.mk (Q_HO199 (hon 4 (by kernel_rfl)))
                      have HA_HO199 := Aside0.mk (Q_HA_HO199 (hon 4 (by kernel_rfl)))
                      have HI0 := Aside0.mk (Q_HI0_e6 (hon 6 (by kernel_rfl)))
                      obtain ⟨c_, hv_⟩ := HA_HO199.out
                      rw [hv_] at e28
                      refine value_ (w1 := w') (v := .pointer (some (adz_v198.add (t200).toNat))) (by rfl) rfl ?_ ?_
                      · go_simp
                        (try simp only [i64_w])
                        try rfl
                      refine hK.out _ _ ⟨v198, adz_v198, (.pointer (some (adz_v198.add (t200).toNat))), (by rw [ha.out]; exact putSel_upk 4 hb_ rfl rfl rfl), fun h0_ => absurd ((hon 2 (by kernel_rfl)).symm.trans h0_) (by decide), Q_HK, Q_HB, fun _ h1_ => absurd ((hon 6 (by kernel_rfl)).symm.trans h1_) (by decide), Q_HO199, Q_HA_HO199, Q_HI0_e6, fun _ => rfl⟩
                    refine steps_cons ?_ ?_
                    · rintro b a w' ⟨v198, adz_v198, m7_, ha, Q_HI0, Q_HK, Q_HB, Q_HI0_e2, Q_HO199, Q_HA_HO199, Q_HI0_e6, Q_X7_⟩ hb_ hon hoff
                      refine ⟨_, rfl, fun K hK => ?_⟩
                      have e31 : a.tmps[31]? = some (m7_) := by rw [ha]; exact putSel_on (e := (7, 31, m7_)) 4 rfl rfl (hon 7 (by kernel_rfl)) rfl
                      rw [Q_X7_ (hon 7 (by kernel_rfl))] at e31
                      replace ha := Aside0.mk ha
                      have HK := Aside0.mk Q_HK
                      have HB := Aside0.mk Q_HB
                      have HO199 := Aside0.mk (Q_HO199 (hon 4 (by kernel_rfl)))
                      have HA_HO199 := Aside0.mk (Q_HA_HO199 (hon 4 (by kernel_rfl)))
                      have HI0 := Aside0.mk (Q_HI0_e6 (hon 6 (by kernel_rfl)))
                      obtain ⟨c_, hv_⟩ := HA_HO199.out
                      have hF_ := HO199.out
                      rw [hv_] at hF_
                      obtain ⟨ad_, ea_, hx_⟩ := Kd.at_string (Kd.R_reads' hF_).2.2 t200 (of_eq_true pi202) (of_eq_true qi202)
                      cases ea_
                      refine value_ (w1 := w') (v := .string (rdOf ByteArray.empty y197 t200)) (by rfl) rfl ?_ ?_
                      · go_simp
                        (try simp only [i64_w])
                        try rfl
                      refine hK.out _ _ ⟨v198, adz_v198, m7_, (by rw [ha.out]; exact putSel_upk 5 hb_ rfl rfl rfl), fun h0_ => absurd ((hon 2 (by kernel_rfl)).symm.trans h0_) (by decide), Q_HK, Q_HB, fun _ h1_ => absurd ((hon 6 (by kernel_rfl)).symm.trans h1_) (by decide), Q_HO199, Q_HA_HO199, Q_HI0_e6, Q_X7_⟩
                    refine steps_cons ?_ ?_
                    · rintro b a w' ⟨v198, adz_v198, m7_, ha, Q_HI0, Q_HK, Q_HB, Q_HI0_e2, Q_HO199, Q_HA_HO199, Q_HI0_e6, Q_X7_⟩ hb_ hon hoff
                      refine ⟨_, rfl, fun K hK => ?_⟩
                      have e27 : a.tmps[27]? = some (.string (x5_6.extract (t195 : Int).toNat x5_6.size)) := by rw [ha]; exact putSel_on (e := (3, 27, .string (x5_6.extract (t195 : Int).toNat x5_6.size))) 1 rfl rfl (hon 3 (by kernel_rfl)) rfl
                      have e32 : a.tmps[32]? = some (.string (rdOf ByteArray.empty y197 t200)) := by rw [ha]; exact putSel_on (e := (8, 32, .string (rdOf ByteArray.empty y197 t200))) 5 rfl rfl (hon 8 (by kernel_rfl)) rfl
                      replace ha := Aside0.mk ha
                      have HK := Aside0.mk Q_HK
                      have HB := Aside0.mk Q_HB
                      have HO199 := Aside0.mk (Q_HO199 (hon 4 (by kernel_rfl)))
                      have HA_HO199 := Aside0.mk (Q_HA_HO199 (hon 4 (by kernel_rfl)))
                      have HI0 := Aside0.mk (Q_HI0_e6 (hon 6 (by kernel_rfl)))
                      refine value_ (w1 := w') (v := .string ((x5_6.extract (t195 : Int).toNat x5_6.size) ++ (rdOf ByteArray.empty y197 t200))) (by rfl) rfl ?_ ?_
                      · go_simp
                        (try simp only [i64_w])
                        try rfl
                        all_goals (have h_ := c23; rw [ByteArray.size_extract] at h_; omega)
                      refine hK.out _ _ ⟨v198, adz_v198, m7_, (by rw [ha.out]; exact putSel_upk 6 hb_ rfl rfl rfl), fun h0_ => absurd ((hon 2 (by kernel_rfl)).symm.trans h0_) (by decide), Q_HK, Q_HB, fun _ h1_ => absurd ((hon 6 (by kernel_rfl)).symm.trans h1_) (by decide), Q_HO199, Q_HA_HO199, Q_HI0_e6, Q_X7_⟩
                    refine steps_cons ?_ ?_
                    · rintro b a w' ⟨v198, adz_v198, m7_, ha, Q_HI0, Q_HK, Q_HB, Q_HI0_e2, Q_HO199, Q_HA_HO199, Q_HI0_e6, Q_X7_⟩ hb_ hon hoff
                      refine ⟨_, rfl, fun K hK => ?_⟩
                      have e33 : a.tmps[33]? = some (.string ((x5_6.extract (t195 : Int).toNat x5_6.size) ++ (rdOf ByteArray.empty y197 t200))) := by rw [ha]; exact putSel_on (e := (9, 33, .string ((x5_6.extract (t195 : Int).toNat x5_6.size) ++ (rdOf ByteArray.empty y197 t200)))) 6 rfl rfl (hon 9 (by kernel_rfl)) rfl
                      replace ha := Aside0.mk ha
                      have HK := Aside0.mk Q_HK
                      have HB := Aside0.mk Q_HB
                      have HO199 := Aside0.mk (Q_HO199 (hon 4 (by kernel_rfl)))
                      have HA_HO199 := Aside0.mk (Q_HA_HO199 (hon 4 (by kernel_rfl)))
                      have HI0 := Aside0.mk (Q_HI0_e6 (hon 6 (by kernel_rfl)))
                      refine value_ (w1 := w') (v := .string ((x5_6.extract (t195 : Int).toNat x5_6.size) ++ (rdOf ByteArray.empty y197 t200))) (by rfl) rfl ?_ ?_
                      · go_simp
                        (try simp only [i64_w])
                        try rfl
                        all_goals (have h_ := c23; rw [ByteArray.size_extract] at h_; omega)
                      refine hK.out _ _ ⟨v198, adz_v198, m7_, (by rw [ha.out]; exact putSel_upk 7 hb_ rfl rfl rfl), fun h0_ => absurd ((hon 2 (by kernel_rfl)).symm.trans h0_) (by decide), Q_HK, Q_HB, fun _ h1_ => absurd ((hon 6 (by kernel_rfl)).symm.trans h1_) (by decide), Q_HO199, Q_HA_HO199, Q_HI0_e6, Q_X7_⟩
                    exact steps_nil
                  rintro b a w31 hall ⟨v198, adz_v198, m7_, ha, Q_HI0, Q_HK, Q_HB, Q_HI0_e2, Q_HO199, Q_HA_HO199, Q_HI0_e6, Q_X7_⟩
                  clear HB HI0 HK
                  have hb2_ := hall 2 (by kernel_rfl)
                  have hb3_ := hall 3 (by kernel_rfl)
                  have hb4_ := hall 4 (by kernel_rfl)
                  have hb6_ := hall 6 (by kernel_rfl)
                  have hb7_ := hall 7 (by kernel_rfl)
                  have hb8_ := hall 8 (by kernel_rfl)
                  have hb9_ := hall 9 (by kernel_rfl)
                  have hb10_ := hall 10 (by kernel_rfl)
                  subst ha
                  obtain rfl := Q_X7_ hb7_
                  simp only [putSel, hb2_, hb3_, hb4_, hb6_, hb7_, hb8_, hb9_, hb10_, if_true, Act.put, List.setIfInBounds_toArray, List.set_cons_zero, List.set_cons_succ]
                  clear Q_HI0
                  have HK := Aside0.mk Q_HK
                  clear Q_HK
                  have HB := Aside0.mk Q_HB
                  clear Q_HB
                  clear Q_HI0_e2
                  have HO199 := Aside0.mk (Q_HO199 hb4_)
                  clear Q_HO199
                  have HA_HO199 := Aside0.mk (Q_HA_HO199 hb4_)
                  clear Q_HA_HO199
                  have HI0 := Aside0.mk (Q_HI0_e6 hb6_)
                  clear Q_HI0_e6
                  clear hall hb2_ hb3_ hb4_ hb6_ hb7_ hb8_ hb9_ hb10_
                  obtain ⟨co32, eo32⟩ := HA_HO199.out
                  clear HA_HO199
                  subst eo32
                  try go_wp2
                  go_ret
                  exact ⟨by first | rfl | (simp [errW_none, errW_some] <;> rfl) | (simp [*, errW_none, errW_some] <;> rfl), by repeat (first | (with_reducible first | exact HI0.out | apply IsS107.alloc | apply IsS107.drewN | apply IsS107.drew | apply IsS107.set_1) | exact HI0.out), by repeat (first | (with_reducible first | exact HB.out | apply below_alloc | apply pw_below_drewN | apply below_drew1 | refine below_set ?_ (IsS107.ge HI0.out)) | exact HB.out), by repeat (first | (with_reducible first | exact HK.out | apply KeepBut.set_ | apply keep_drewN | apply keep_drew | apply keep_alloc) | exact HK.out)⟩
                · rw [if_neg c23] at H
                  exact absurd H (by simp)
              · rw [if_neg c22] at H
                exact absurd H (by simp)
            · rw [if_neg c21] at H
              exact absurd H (by simp)
          · rw [if_neg c19] at H
            exact absurd H (by simp)
        · rw [if_neg c18] at H
          exact absurd H (by simp)
      · replace c16 := Bool.eq_false_iff.mpr c16
        subst c16
        have H1 : (some (x5_6, t194)) = some (r1, r2) := by rw [if_neg (show ¬ (false = true) by decide)] at H; exact H
        clear H
        have H := H1
        clear H1
        simp only [Option.some.injEq, Prod.mk.injEq] at H
        obtain ⟨rfl, rfl⟩ := H
        go_wp2_with (first | ((with_reducible refine gate_callee (f := 54) rfl ?_); refine goesL_ (some 23) rfl rfl Tryz.func54 (by kernel_rfl) rfl #[.pointer (some ⟨g, 0, none⟩), .int .i64 12] rfl (by (try simp only [List.map_toArray, List.map_cons, List.map_nil]); first | done | rfl | (simp only [List.length_drop, List.length_take]; rfl)) ?_; (with_reducible refine (awardingbodymake_Tape_One.calls g s0_0 t191 12 false t194 w0 _ ?side1 ?side2 A15.out).mono ?_); (case side1 => repeat (first | (with_reducible first | exact HI0.out | apply IsS107.alloc | apply IsS107.drewN | apply IsS107.drew | apply IsS107.set_1) | exact HI0.out)); (case side2 => repeat (first | (with_reducible first | exact HB.out | apply below_alloc | apply pw_below_drewN | apply below_drew1 | refine below_set ?_ (IsS107.ge HI0.out)) | exact HB.out)); rintro e w33 ⟨rfl, hi, hb, hk⟩; refine ⟨_, rfl, ?_⟩; have n0_ := Aside0.mk (KeepBut.trans (by repeat (first | (with_reducible first | exact HK.out | apply KeepBut.set_ | apply keep_drewN | apply keep_drew | apply keep_alloc) | exact HK.out)) hk (.inl rfl)); have n1_ := Aside0.mk (hb); have n2_ := Aside0.mk (hi); clear HK; clear HB; clear HI0; have HK := n0_; have HB := n1_; have HI0 := n2_; clear n0_ n1_ n2_; (try clear hb); (try clear hb2); (try clear hk); (try clear hi)))
        go_ret
        exact ⟨by first | rfl | (simp [errW_none, errW_some] <;> rfl) | (simp [*, errW_none, errW_some] <;> rfl), by repeat (first | (with_reducible first | exact HI0.out | apply IsS107.alloc | apply IsS107.drewN | apply IsS107.drew | apply IsS107.set_1) | exact HI0.out), by repeat (first | (with_reducible first | exact HB.out | apply below_alloc | apply pw_below_drewN | apply below_drew1 | refine below_set ?_ (IsS107.ge HI0.out)) | exact HB.out), by repeat (first | (with_reducible first | exact HK.out | apply KeepBut.set_ | apply keep_drewN | apply keep_drew | apply keep_alloc) | exact HK.out)⟩
def strip_Upright.f (a0 : ByteArray) : Option (ByteArray × Int) := (strip_valid.f a0).bind fun t203 => (if t203 = true then ((strip_Flip.f a0).bind fun t204 => ((strip_begins.f a0).bind fun t205 => (if t205 = true then (some (a0, 0)) else ((strip_begins.f t204).bind fun t206 => (if t206 = true then (some (t204, 0)) else (some ((⟨#[]⟩ : ByteArray), 26))))))) else (some ((⟨#[]⟩ : ByteArray), 7)))
set_option maxHeartbeats 8000000 in
set_option maxRecDepth 100000 in
theorem strip_Upright.calls (a0 : ByteArray) (r1 : ByteArray) (r2 : Int) (w : World) (h : strip_Upright.f a0 = some (r1, r2)) :
    Calls Tryz.prog 55 #[.string a0] w fun e w' => e = .returned (.tuple #[.string r1, .int .i64 r2]) ∧ Below w.heap.size w w' := by
  have HB := Aside0.mk (Below.refl w.heap.size w)
  have H : ((strip_valid.f a0).bind fun t203 => (if t203 = true then ((strip_Flip.f a0).bind fun t204 => ((strip_begins.f a0).bind fun t205 => (if t205 = true then (some (a0, 0)) else ((strip_begins.f t204).bind fun t206 => (if t206 = true then (some (t204, 0)) else (some ((⟨#[]⟩ : ByteArray), 26))))))) else (some ((⟨#[]⟩ : ByteArray), 7)))) = some (r1, r2) := h
  clear h
  replace H := Option.bind_eq_some_iff.mp H
  obtain ⟨t203, A20, H⟩ := H
  replace H : (if t203 = true then ((strip_Flip.f a0).bind fun t204 => ((strip_begins.f a0).bind fun t205 => (if t205 = true then (some (a0, 0)) else ((strip_begins.f t204).bind fun t206 => (if t206 = true then (some (t204, 0)) else (some ((⟨#[]⟩ : ByteArray), 26))))))) else (some ((⟨#[]⟩ : ByteArray), 7))) = some (r1, r2) := H
  have A2 := Aside0.mk A20
  clear A20
  by_cases c3 : t203 = true
  · subst c3
    have H1 : ((strip_Flip.f a0).bind fun t204 => ((strip_begins.f a0).bind fun t205 => (if t205 = true then (some (a0, 0)) else ((strip_begins.f t204).bind fun t206 => (if t206 = true then (some (t204, 0)) else (some ((⟨#[]⟩ : ByteArray), 26))))))) = some (r1, r2) := by rw [if_pos rfl] at H; exact H
    clear H
    have H := H1
    clear H1
    replace H := Option.bind_eq_some_iff.mp H
    obtain ⟨t204, A40, H⟩ := H
    replace H : ((strip_begins.f a0).bind fun t205 => (if t205 = true then (some (a0, 0)) else ((strip_begins.f t204).bind fun t206 => (if t206 = true then (some (t204, 0)) else (some ((⟨#[]⟩ : ByteArray), 26)))))) = some (r1, r2) := H
    have A4 := Aside0.mk A40
    clear A40
    replace H := Option.bind_eq_some_iff.mp H
    obtain ⟨t205, A50, H⟩ := H
    replace H : (if t205 = true then (some (a0, 0)) else ((strip_begins.f t204).bind fun t206 => (if t206 = true then (some (t204, 0)) else (some ((⟨#[]⟩ : ByteArray), 26))))) = some (r1, r2) := H
    have A5 := Aside0.mk A50
    clear A50
    by_cases c6 : t205 = true
    · subst c6
      have H1 : (some (a0, 0)) = some (r1, r2) := by rw [if_pos rfl] at H; exact H
      clear H
      have H := H1
      clear H1
      simp only [Option.some.injEq, Prod.mk.injEq] at H
      obtain ⟨rfl, rfl⟩ := H
      go_enter Tryz.func55, Tryz.ntmps55
      go_wp2_with (first | ((with_reducible refine gate_callee (f := 119) rfl ?_); refine goesL_ (some 6) rfl rfl Tryz.func119 (by kernel_rfl) rfl #[.string a0] rfl (by (try simp only [List.map_toArray, List.map_cons, List.map_nil]); first | done | rfl | (simp only [List.length_drop, List.length_take]; rfl)) ?_; (with_reducible refine (strip_valid.calls a0 true _ A2.out).mono ?_); rintro e w7 ⟨rfl, hb⟩; refine ⟨_, rfl, ?_⟩; have n0_ := Aside0.mk (below_step (by repeat (first | (with_reducible first | exact HB.out | apply below_alloc | apply pw_below_drewN | apply below_drew1) | exact HB.out)) hb); clear HB; have HB := n0_; clear n0_; (try clear hb); (try clear hb2); (try clear hk); (try clear hi)) | ((with_reducible refine gate_callee (f := 16) rfl ?_); refine goesL_ (some 9) rfl rfl Tryz.func16 (by kernel_rfl) rfl #[.string a0] rfl (by (try simp only [List.map_toArray, List.map_cons, List.map_nil]); first | done | rfl | (simp only [List.length_drop, List.length_take]; rfl)) ?_; (with_reducible refine (strip_Flip.calls a0 t204 _ A4.out).mono ?_); rintro e w8 ⟨rfl, hb⟩; refine ⟨_, rfl, ?_⟩; have n0_ := Aside0.mk (below_step (by repeat (first | (with_reducible first | exact HB.out | apply below_alloc | apply pw_below_drewN | apply below_drew1) | exact HB.out)) hb); clear HB; have HB := n0_; clear n0_; (try clear hb); (try clear hb2); (try clear hk); (try clear hi)) | ((with_reducible refine gate_callee (f := 120) rfl ?_); refine goesL_ (some 12) rfl rfl Tryz.func120 (by kernel_rfl) rfl #[.string a0] rfl (by (try simp only [List.map_toArray, List.map_cons, List.map_nil]); first | done | rfl | (simp only [List.length_drop, List.length_take]; rfl)) ?_; (with_reducible refine (strip_begins.calls a0 true _ A5.out).mono ?_); rintro e w9 ⟨rfl, hb⟩; refine ⟨_, rfl, ?_⟩; have n0_ := Aside0.mk (below_step (by repeat (first | (with_reducible first | exact HB.out | apply below_alloc | apply pw_below_drewN | apply below_drew1) | exact HB.out)) hb); clear HB; have HB := n0_; clear n0_; (try clear hb); (try clear hb2); (try clear hk); (try clear hi)))
      go_ret2
      exact ⟨by first | rfl | (simp [errW_none, errW_some] <;> rfl) | (simp [*, errW_none, errW_some] <;> rfl), by repeat (first | (with_reducible first | exact HB.out | apply below_alloc | apply pw_below_drewN | apply below_drew1) | exact HB.out)⟩
    · replace c6 := Bool.eq_false_iff.mpr c6
      subst c6
      have H1 : ((strip_begins.f t204).bind fun t206 => (if t206 = true then (some (t204, 0)) else (some ((⟨#[]⟩ : ByteArray), 26)))) = some (r1, r2) := by rw [if_neg (show ¬ (false = true) by decide)] at H; exact H
      clear H
      have H := H1
      clear H1
      replace H := Option.bind_eq_some_iff.mp H
      obtain ⟨t206, A100, H⟩ := H
      replace H : (if t206 = true then (some (t204, 0)) else (some ((⟨#[]⟩ : ByteArray), 26))) = some (r1, r2) := H
      have A10 := Aside0.mk A100
      clear A100
      by_cases c11 : t206 = true
      · subst c11
        have H1 : (some (t204, 0)) = some (r1, r2) := by rw [if_pos rfl] at H; exact H
        clear H
        have H := H1
        clear H1
        simp only [Option.some.injEq, Prod.mk.injEq] at H
        obtain ⟨rfl, rfl⟩ := H
        go_enter Tryz.func55, Tryz.ntmps55
        go_wp2_with (first | ((with_reducible refine gate_callee (f := 119) rfl ?_); refine goesL_ (some 6) rfl rfl Tryz.func119 (by kernel_rfl) rfl #[.string a0] rfl (by (try simp only [List.map_toArray, List.map_cons, List.map_nil]); first | done | rfl | (simp only [List.length_drop, List.length_take]; rfl)) ?_; (with_reducible refine (strip_valid.calls a0 true _ A2.out).mono ?_); rintro e w12 ⟨rfl, hb⟩; refine ⟨_, rfl, ?_⟩; have n0_ := Aside0.mk (below_step (by repeat (first | (with_reducible first | exact HB.out | apply below_alloc | apply pw_below_drewN | apply below_drew1) | exact HB.out)) hb); clear HB; have HB := n0_; clear n0_; (try clear hb); (try clear hb2); (try clear hk); (try clear hi)) | ((with_reducible refine gate_callee (f := 16) rfl ?_); refine goesL_ (some 9) rfl rfl Tryz.func16 (by kernel_rfl) rfl #[.string a0] rfl (by (try simp only [List.map_toArray, List.map_cons, List.map_nil]); first | done | rfl | (simp only [List.length_drop, List.length_take]; rfl)) ?_; (with_reducible refine (strip_Flip.calls a0 t204 _ A4.out).mono ?_); rintro e w13 ⟨rfl, hb⟩; refine ⟨_, rfl, ?_⟩; have n0_ := Aside0.mk (below_step (by repeat (first | (with_reducible first | exact HB.out | apply below_alloc | apply pw_below_drewN | apply below_drew1) | exact HB.out)) hb); clear HB; have HB := n0_; clear n0_; (try clear hb); (try clear hb2); (try clear hk); (try clear hi)) | ((with_reducible refine gate_callee (f := 120) rfl ?_); refine goesL_ (some 12) rfl rfl Tryz.func120 (by kernel_rfl) rfl #[.string a0] rfl (by (try simp only [List.map_toArray, List.map_cons, List.map_nil]); first | done | rfl | (simp only [List.length_drop, List.length_take]; rfl)) ?_; (with_reducible refine (strip_begins.calls a0 false _ A5.out).mono ?_); rintro e w14 ⟨rfl, hb⟩; refine ⟨_, rfl, ?_⟩; have n0_ := Aside0.mk (below_step (by repeat (first | (with_reducible first | exact HB.out | apply below_alloc | apply pw_below_drewN | apply below_drew1) | exact HB.out)) hb); clear HB; have HB := n0_; clear n0_; (try clear hb); (try clear hb2); (try clear hk); (try clear hi)) | ((with_reducible refine gate_callee (f := 120) rfl ?_); refine goesL_ (some 16) rfl rfl Tryz.func120 (by kernel_rfl) rfl #[.string t204] rfl (by (try simp only [List.map_toArray, List.map_cons, List.map_nil]); first | done | rfl | (simp only [List.length_drop, List.length_take]; rfl)) ?_; (with_reducible refine (strip_begins.calls t204 true _ A10.out).mono ?_); rintro e w15 ⟨rfl, hb⟩; refine ⟨_, rfl, ?_⟩; have n0_ := Aside0.mk (below_step (by repeat (first | (with_reducible first | exact HB.out | apply below_alloc | apply pw_below_drewN | apply below_drew1) | exact HB.out)) hb); clear HB; have HB := n0_; clear n0_; (try clear hb); (try clear hb2); (try clear hk); (try clear hi)))
        go_ret2
        exact ⟨by first | rfl | (simp [errW_none, errW_some] <;> rfl) | (simp [*, errW_none, errW_some] <;> rfl), by repeat (first | (with_reducible first | exact HB.out | apply below_alloc | apply pw_below_drewN | apply below_drew1) | exact HB.out)⟩
      · replace c11 := Bool.eq_false_iff.mpr c11
        subst c11
        have H1 : (some ((⟨#[]⟩ : ByteArray), 26)) = some (r1, r2) := by rw [if_neg (show ¬ (false = true) by decide)] at H; exact H
        clear H
        have H := H1
        clear H1
        simp only [Option.some.injEq, Prod.mk.injEq] at H
        obtain ⟨rfl, rfl⟩ := H
        go_enter Tryz.func55, Tryz.ntmps55
        go_wp2_with (first | ((with_reducible refine gate_callee (f := 119) rfl ?_); refine goesL_ (some 6) rfl rfl Tryz.func119 (by kernel_rfl) rfl #[.string a0] rfl (by (try simp only [List.map_toArray, List.map_cons, List.map_nil]); first | done | rfl | (simp only [List.length_drop, List.length_take]; rfl)) ?_; (with_reducible refine (strip_valid.calls a0 true _ A2.out).mono ?_); rintro e w16 ⟨rfl, hb⟩; refine ⟨_, rfl, ?_⟩; have n0_ := Aside0.mk (below_step (by repeat (first | (with_reducible first | exact HB.out | apply below_alloc | apply pw_below_drewN | apply below_drew1) | exact HB.out)) hb); clear HB; have HB := n0_; clear n0_; (try clear hb); (try clear hb2); (try clear hk); (try clear hi)) | ((with_reducible refine gate_callee (f := 16) rfl ?_); refine goesL_ (some 9) rfl rfl Tryz.func16 (by kernel_rfl) rfl #[.string a0] rfl (by (try simp only [List.map_toArray, List.map_cons, List.map_nil]); first | done | rfl | (simp only [List.length_drop, List.length_take]; rfl)) ?_; (with_reducible refine (strip_Flip.calls a0 t204 _ A4.out).mono ?_); rintro e w17 ⟨rfl, hb⟩; refine ⟨_, rfl, ?_⟩; have n0_ := Aside0.mk (below_step (by repeat (first | (with_reducible first | exact HB.out | apply below_alloc | apply pw_below_drewN | apply below_drew1) | exact HB.out)) hb); clear HB; have HB := n0_; clear n0_; (try clear hb); (try clear hb2); (try clear hk); (try clear hi)) | ((with_reducible refine gate_callee (f := 120) rfl ?_); refine goesL_ (some 12) rfl rfl Tryz.func120 (by kernel_rfl) rfl #[.string a0] rfl (by (try simp only [List.map_toArray, List.map_cons, List.map_nil]); first | done | rfl | (simp only [List.length_drop, List.length_take]; rfl)) ?_; (with_reducible refine (strip_begins.calls a0 false _ A5.out).mono ?_); rintro e w18 ⟨rfl, hb⟩; refine ⟨_, rfl, ?_⟩; have n0_ := Aside0.mk (below_step (by repeat (first | (with_reducible first | exact HB.out | apply below_alloc | apply pw_below_drewN | apply below_drew1) | exact HB.out)) hb); clear HB; have HB := n0_; clear n0_; (try clear hb); (try clear hb2); (try clear hk); (try clear hi)) | ((with_reducible refine gate_callee (f := 120) rfl ?_); refine goesL_ (some 16) rfl rfl Tryz.func120 (by kernel_rfl) rfl #[.string t204] rfl (by (try simp only [List.map_toArray, List.map_cons, List.map_nil]); first | done | rfl | (simp only [List.length_drop, List.length_take]; rfl)) ?_; (with_reducible refine (strip_begins.calls t204 false _ A10.out).mono ?_); rintro e w19 ⟨rfl, hb⟩; refine ⟨_, rfl, ?_⟩; have n0_ := Aside0.mk (below_step (by repeat (first | (with_reducible first | exact HB.out | apply below_alloc | apply pw_below_drewN | apply below_drew1) | exact HB.out)) hb); clear HB; have HB := n0_; clear n0_; (try clear hb); (try clear hb2); (try clear hk); (try clear hi)))
        go_ret2
        exact ⟨by first | rfl | (simp [errW_none, errW_some] <;> rfl) | (simp [*, errW_none, errW_some] <;> rfl), by repeat (first | (with_reducible first | exact HB.out | apply below_alloc | apply pw_below_drewN | apply below_drew1) | exact HB.out)⟩
  · replace c3 := Bool.eq_false_iff.mpr c3
    subst c3
    have H1 : (some ((⟨#[]⟩ : ByteArray), 7)) = some (r1, r2) := by rw [if_neg (show ¬ (false = true) by decide)] at H; exact H
    clear H
    have H := H1
    clear H1
    simp only [Option.some.injEq, Prod.mk.injEq] at H
    obtain ⟨rfl, rfl⟩ := H
    go_enter Tryz.func55, Tryz.ntmps55
    go_wp2_with (first | ((with_reducible refine gate_callee (f := 119) rfl ?_); refine goesL_ (some 6) rfl rfl Tryz.func119 (by kernel_rfl) rfl #[.string a0] rfl (by (try simp only [List.map_toArray, List.map_cons, List.map_nil]); first | done | rfl | (simp only [List.length_drop, List.length_take]; rfl)) ?_; (with_reducible refine (strip_valid.calls a0 false _ A2.out).mono ?_); rintro e w20 ⟨rfl, hb⟩; refine ⟨_, rfl, ?_⟩; have n0_ := Aside0.mk (below_step (by repeat (first | (with_reducible first | exact HB.out | apply below_alloc | apply pw_below_drewN | apply below_drew1) | exact HB.out)) hb); clear HB; have HB := n0_; clear n0_; (try clear hb); (try clear hb2); (try clear hk); (try clear hi)))
    go_ret2
    exact ⟨by first | rfl | (simp [errW_none, errW_some] <;> rfl) | (simp [*, errW_none, errW_some] <;> rfl), by repeat (first | (with_reducible first | exact HB.out | apply below_alloc | apply pw_below_drewN | apply below_drew1) | exact HB.out)⟩
end Go.Proofs.YtcpmgkedmmiioaaGreatDoor.P
end
