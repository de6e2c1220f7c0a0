/- stripTurns_card, part 4: what the row's proof needs: words of the print, contracts of functions, the plain law. -/
import Derived.Test.YtcpmgkedmmiioaaGreatDoorKa1
import Derived.Test.YtcpmgkedmmiioaaGreatDoorKa3
section
namespace Go.Proofs.YtcpmgkedmmiioaaGreatDoor.P
open Go.RowKit Go.Proofs.YtcpmgkedmmiioaaGreatDoorW.PrintWords Go.Proofs.YtcpmgkedmmiioaaGreatDoorW.PrintLast Go.Proofs.YtcpmgkedmmiioaaGreatDoorW.PrintMore
attribute [local go_sem] max2_int min2_int max_two min_two max_three min_three max_four min_four   -- for this text's walks alone
set_option linter.unusedVariables false
set_option linter.unusedSimpArgs false
def awardingbodylaw19_noise.l0 : Nat → ByteArray → Int → List Int → Int → Option (ByteArray × Int)
  | 0, _, _, _, _ => none
  | k + 1, x3, x4, x1000, x1001 => if x4 < 74 then ((some (([(⟨#[48]⟩ : ByteArray), (⟨#[49]⟩ : ByteArray), (⟨#[49]⟩ : ByteArray), (⟨#[48]⟩ : ByteArray), (⟨#[63]⟩ : ByteArray)] : List ByteArray) : List ByteArray)).bind fun y157 => ((awardingbodymake_Tape_Next.f x1000 x1001 5).bind fun bt160 => (if 0 ≤ bt160.1 then (if bt160.1 < (y157.length : Int) then (if x3.size + (rdOf ByteArray.empty y157 bt160.1).size ≤ 9223372036854775807 then (awardingbodylaw19_noise.l0 k (x3 ++ (rdOf ByteArray.empty y157 bt160.1)) (wrap64 (x4 + 1)) x1000 bt160.2) else (none)) else (none)) else (none)))) else (some (x3, x1001))
def awardingbodylaw19_noise.f (k : Nat) (s0_0 : List Int) (s0_1 : Int) : Option (ByteArray × Int) := awardingbodylaw19_noise.l0 k (⟨#[]⟩ : ByteArray) 0 s0_0 s0_1
theorem awardingbodylaw19_noise.mono_l : ∀ k, (∀ y0 y1 y2 y3, LeO (awardingbodylaw19_noise.l0 k y0 y1 y2 y3) (awardingbodylaw19_noise.l0 (k + 1) y0 y1 y2 y3))
  | 0 => fun _ _ _ _ r h => by simp [awardingbodylaw19_noise.l0] at h
  | k + 1 => by
    have ih0 := awardingbodylaw19_noise.mono_l k
    · intro y0 y1 y2 y3
      unfold awardingbodylaw19_noise.l0
      repeat' first
      | (with_reducible exact ih0 _ _ _ _)
      | (with_reducible exact LeO.refl _)
      | (with_reducible exact LeO.none _)
      | (with_reducible refine LeO.ite ?_ ?_)
      | (with_reducible refine LeO.bind ?_ (fun _ => ?_))
      | exact ih0 _ _ _ _
      | exact LeO.none _
      | refine LeO.ite ?_ ?_
      | refine LeO.bind ?_ (fun _ => ?_)
theorem awardingbodylaw19_noise.mono : ∀ a0 a1 k, LeO (awardingbodylaw19_noise.f k a0 a1) (awardingbodylaw19_noise.f (k + 1) a0 a1) := by
  intro a0 a1 k
  have ih0 := awardingbodylaw19_noise.mono_l k
  unfold awardingbodylaw19_noise.f
  repeat' first
      | (with_reducible exact ih0 _ _ _ _)
      | (with_reducible exact LeO.refl _)
      | (with_reducible exact LeO.none _)
      | (with_reducible refine LeO.ite ?_ ?_)
      | (with_reducible refine LeO.bind ?_ (fun _ => ?_))
      | exact ih0 _ _ _ _
      | exact LeO.none _
      | refine LeO.ite ?_ ?_
      | refine LeO.bind ?_ (fun _ => ?_)
set_option maxHeartbeats 8000000 in
set_option maxRecDepth 100000 in
theorem awardingbodylaw19_noise.calls (k : Nat) (g : Nat) (s0_0 : List Int) (s0_1 : Int) (r1 : ByteArray) (r2 : Int) (w0 w : World) (hI : IsS107 w0 w g s0_0 s0_1) (hB : Below w0.heap.size w0 w) (h : awardingbodylaw19_noise.f k s0_0 s0_1 = some (r1, r2)) :
    Calls Tryz.prog 14 #[.pointer (some ⟨g, 0, none⟩)] w fun e w' => e = .returned (.string r1) ∧ IsS107 w0 w' g s0_0 r2 ∧ Below w0.heap.size w0 w' ∧ KeepBut w w' g none := by
  have HI0 := Aside0.mk hI
  have HK := Aside0.mk (KeepBut.refl w g none)
  have HL := Aside0.mk hB.size
  clear hI
  have HW0 := Aside0.mk hB.size
  have HB := Aside0.mk hB
  clear hB
  have H : (awardingbodylaw19_noise.l0 k (⟨#[]⟩ : ByteArray) 0 s0_0 s0_1) = some (r1, r2) := h
  clear h
  have H' := Aside0.mk H
  clear H
  go_enter Tryz.func14, Tryz.ntmps14
  go_wp2
  go_loopg [3, 4] k (fun kq v3 v4 w' => ∃ (x3_1 : ByteArray) (x4_1 : Int) (x1001_1 : Int), v3 = .string x3_1 ∧ v4 = .int .i64 x4_1 ∧ Aside0 (awardingbodylaw19_noise.l0 kq x3_1 x4_1 s0_0 x1001_1 = some (r1, r2)) ∧ Aside0 (kq ≤ k) ∧ Aside0 (IsS107 w0 w' g s0_0 x1001_1) ∧ Aside0 (KeepBut w w' g none) ∧ Aside0 (Below w0.heap.size w0 w'))
  case atStart => exact ⟨((⟨#[]⟩ : ByteArray)), (0), (s0_1), (by first | rfl | (simp; done) | (simp [*]; done)), (by first | rfl | (simp; done) | (simp [*]; done)), H', ⟨Nat.le_refl _⟩, ⟨by repeat (first | (with_reducible first | exact HI0.out | apply IsS107.alloc | apply IsS107.drewN | apply IsS107.drew | apply IsS107.set_1) | exact HI0.out)⟩, ⟨by repeat (first | (with_reducible first | exact HK.out | apply KeepBut.set_ | apply keep_drewN | apply keep_drew | apply keep_alloc) | exact HK.out)⟩, ⟨by repeat (first | (with_reducible first | exact HB.out | apply below_alloc | apply pw_below_drewN | apply below_drew1 | refine below_set ?_ (IsS107.ge HI0.out)) | exact HB.out)⟩⟩
  case round =>
    clear H'
    try clear c1
    obtain ⟨x3_1, x4_1, x1001_1, rfl, rfl, HA, HK1, HI0, HK, HB⟩ := hrel
    cases gk with
    | zero => exact absurd HA.out (by simp [awardingbodylaw19_noise.l0])
    | succ k1 =>
      have H := HA.out
      clear HA
      simp only [awardingbodylaw19_noise.l0] at H
      by_cases c2 : x4_1 < 74
      · rw [if_pos c2] at H
        have c2b0 : decide (x4_1 < 74) = true := decide_eq_true c2
        clear c2
        obtain ⟨y157, hy157⟩ : ∃ y_ : List ByteArray, y_ = (([(⟨#[48]⟩ : ByteArray), (⟨#[49]⟩ : ByteArray), (⟨#[49]⟩ : ByteArray), (⟨#[48]⟩ : ByteArray), (⟨#[63]⟩ : ByteArray)] : List ByteArray)) := ⟨_, rfl⟩
        replace H : ((awardingbodymake_Tape_Next.f s0_0 x1001_1 5).bind fun bt160 => (if 0 ≤ bt160.1 then (if bt160.1 < (y157.length : Int) then (if x3_1.size + (rdOf ByteArray.empty y157 bt160.1).size ≤ 9223372036854775807 then (awardingbodylaw19_noise.l0 k1 (x3_1 ++ (rdOf ByteArray.empty y157 bt160.1)) (wrap64 (x4_1 + 1)) s0_0 bt160.2) else (none)) else (none)) else (none))) = some (r1, r2) := by first | (rw [hy157]; with_reducible exact H) | (have H2_ := (Option.bind_some _ _).symm.trans H; rw [hy157]; with_reducible exact H2_) | (have H2_ := (Option.bind_some _ _).symm.trans H; with_reducible exact H2_) | with_reducible exact H | (rw [hy157]; exact H) | exact H
        have Ny157 := Aside0.mk hy157
        clear hy157
        replace H := Option.bind_eq_some_iff.mp H
        obtain ⟨⟨t160, t161⟩, A30, H⟩ := H
        replace H : (if 0 ≤ t160 then (if t160 < (y157.length : Int) then (if x3_1.size + (rdOf ByteArray.empty y157 t160).size ≤ 9223372036854775807 then (awardingbodylaw19_noise.l0 k1 (x3_1 ++ (rdOf ByteArray.empty y157 t160)) (wrap64 (x4_1 + 1)) s0_0 t161) else (none)) else (none)) else (none)) = some (r1, r2) := H
        have A3 := Aside0.mk A30
        clear A30
        by_cases c4 : 0 ≤ t160
        · rw [if_pos c4] at H
          have c4b0 : decide (0 ≤ t160) = true := decide_eq_true c4
          clear c4
          by_cases c5 : t160 < (y157.length : Int)
          · rw [if_pos c5] at H
            have c5b0 : decide (t160 < (y157.length : Int)) = true := decide_eq_true c5
            clear c5
            by_cases c6 : x3_1.size + (rdOf ByteArray.empty y157 t160).size ≤ 9223372036854775807
            · rw [if_pos c6] at H
              have c6b0 := eq_true c6
              have c6b1 : decide (x3_1.size + (rdOf ByteArray.empty y157 t160).size ≤ 9223372036854775807) = true := decide_eq_true c6
              try have c6b2 : (9223372036854775807 < x3_1.size + (rdOf ByteArray.empty y157 t160).size) = False := eq_false (Nat.not_lt.2 c6)
              have H' := Aside0.mk H
              clear H
              go_wp2_with (first | ((with_reducible refine gate_dst (N := 10) rfl ?_); refine Kd.R_lit Kd.string _ 9 ?hg (N := 10) ?hd (xs := ([(⟨#[48]⟩ : ByteArray), (⟨#[49]⟩ : ByteArray), (⟨#[49]⟩ : ByteArray), (⟨#[48]⟩ : ByteArray), (⟨#[63]⟩ : ByteArray)] : List ByteArray)) (inner := [.string (⟨#[48]⟩ : ByteArray), .string (⟨#[49]⟩ : ByteArray), .string (⟨#[49]⟩ : ByteArray), .string (⟨#[48]⟩ : ByteArray), .string (⟨#[63]⟩ : ByteArray)]) (ok := fun _ => True) (okp := fun _ => True) ?hr ?hp (fun _ hk => hk) trivial (Below.refl _ _) (Nat.le_refl _) (by simp) ?_; (case hd => rfl); (case hg => rfl); (case hr => first | (go_simp; done) | (go_simp; rfl)); (case hp => exact (Reps.one (show Kd.M Kd.string _ _ _ (⟨#[48]⟩ : ByteArray) [.string (⟨#[48]⟩ : ByteArray)] from rfl) (Reps.one (show Kd.M Kd.string _ _ _ (⟨#[49]⟩ : ByteArray) [.string (⟨#[49]⟩ : ByteArray)] from rfl) (Reps.one (show Kd.M Kd.string _ _ _ (⟨#[49]⟩ : ByteArray) [.string (⟨#[49]⟩ : ByteArray)] from rfl) (Reps.one (show Kd.M Kd.string _ _ _ (⟨#[48]⟩ : ByteArray) [.string (⟨#[48]⟩ : ByteArray)] from rfl) (Reps.one (show Kd.M Kd.string _ _ _ (⟨#[63]⟩ : ByteArray) [.string (⟨#[63]⟩ : ByteArray)] from rfl) (Reps.none _ _))))))); intro v158 w7 ho8 hb hg_ hnew_; clear hg_ hnew_; (first | rw [← Ny157.out] at ho8 | (simp only [Int.reduceToNat] at ho8; rw [← Ny157.out] at ho8)); have n0_ := Aside0.mk (Kd.R_lower ho8 (keep_size (w := w) (g := g) (row := none) (by repeat (first | (with_reducible first | exact HK.out | apply KeepBut.set_ | apply keep_drewN | apply keep_drew | apply keep_alloc) | exact HK.out)))); have n1_ := Aside0.mk (IsS107.below (by repeat (first | (with_reducible first | exact HI0.out | apply IsS107.alloc | apply IsS107.drewN | apply IsS107.drew | apply IsS107.set_1) | exact HI0.out)) hb); have n2_ := Aside0.mk (KeepBut.trans (by repeat (first | (with_reducible first | exact HK.out | apply KeepBut.set_ | apply keep_drewN | apply keep_drew | apply keep_alloc) | exact HK.out)) (KeepBut.of_below hb g none) (.inl rfl)); have n3_ := Aside0.mk (below_step (by repeat (first | (with_reducible first | exact HB.out | apply below_alloc | apply pw_below_drewN | apply below_drew1 | refine below_set ?_ (IsS107.ge HI0.out)) | exact HB.out)) hb); clear HI0; clear HK; clear HB; have HO159 := n0_; have HI0 := n1_; have HK := n2_; have HB := n3_; clear n0_ n1_ n2_ n3_; clear hb ho8) | ((with_reducible refine gate_callee (f := 39) rfl ?_); refine goesL_ (some 12) rfl rfl Tryz.func39 (by kernel_rfl) rfl #[.pointer (some ⟨g, 0, none⟩), .int .i64 5] rfl (by (try simp only [List.map_toArray, List.map_cons, List.map_nil]); first | done | rfl | (simp only [List.length_drop, List.length_take]; rfl)) ?_; (with_reducible refine (awardingbodymake_Tape_Next.calls g s0_0 x1001_1 5 t160 t161 w0 _ ?side1 ?side2 A3.out).mono ?_); (case side1 => repeat (first | (with_reducible first | exact HI0.out | apply IsS107.alloc | apply IsS107.drewN | apply IsS107.drew | apply IsS107.set_1) | exact HI0.out)); (case side2 => repeat (first | (with_reducible first | exact HB.out | apply below_alloc | apply pw_below_drewN | apply below_drew1 | refine below_set ?_ (IsS107.ge HI0.out)) | exact HB.out)); rintro e w9 ⟨rfl, hi, hb, hk⟩; refine ⟨_, rfl, ?_⟩; have n0_ := Aside0.mk (Kd.R_mono (Kd.R_keep (IsS107.apart (show IsS107 w0 _ g s0_0 x1001_1 from by repeat (first | (with_reducible first | exact HI0.out | apply IsS107.alloc | apply IsS107.drewN | apply IsS107.drew | apply IsS107.set_1) | exact HI0.out)) (by (with_reducible repeat (first | apply Kd.R_alloc | apply Kd.R_drewN | apply Kd.R_drew)); exact HO159.out) (by decide)) hk (fun _ h => h.2)) (fun _ h => h.1)); have n1_ := Aside0.mk (KeepBut.trans (by repeat (first | (with_reducible first | exact HK.out | apply KeepBut.set_ | apply keep_drewN | apply keep_drew | apply keep_alloc) | exact HK.out)) hk (.inl rfl)); have n2_ := Aside0.mk (hb); have n3_ := Aside0.mk (hi); clear HO159; clear HK; clear HB; clear HI0; have HO159 := n0_; have HK := n1_; have HB := n2_; have HI0 := n3_; clear n0_ n1_ n2_ n3_; (try clear hb); (try clear hb2); (try clear hk); (try clear hi); obtain ⟨Ao10, co10, eo10⟩ := Kd.R_slice HO159.out; subst eo10; have p162 : 0 ≤ (t160 : Int) := of_decide_eq_true (by first | (with_reducible assumption) | assumption); have q162 : t160 < (y157.length : Int) := of_decide_eq_true (by first | (with_reducible assumption) | assumption); obtain ⟨ad162, e162, hx162_0⟩ := Kd.at_string (Kd.R_reads' HO159.out).2.2 t160 p162 q162; cases e162; replace p162 := eq_true p162; replace q162 := eq_true q162))
              go_roundg k1
              case measure => have := HK1.out; omega
              case rel => exact ⟨(x3_1 ++ (rdOf ByteArray.empty y157 t160)), (wrap64 (x4_1 + 1)), (t161), (by first | rfl | (simp; done) | (simp [*]; done)), (by first | rfl | (simp; done) | (simp [*]; done)), H', ⟨by have := HK1.out; omega⟩, ⟨by repeat (first | (with_reducible first | exact HI0.out | apply IsS107.alloc | apply IsS107.drewN | apply IsS107.drew | apply IsS107.set_1) | exact HI0.out)⟩, ⟨by repeat (first | (with_reducible first | exact HK.out | apply KeepBut.set_ | apply keep_drewN | apply keep_drew | apply keep_alloc) | exact HK.out)⟩, ⟨by repeat (first | (with_reducible first | exact HB.out | apply below_alloc | apply pw_below_drewN | apply below_drew1 | refine below_set ?_ (IsS107.ge HI0.out)) | exact HB.out)⟩⟩
            · rw [if_neg c6] at H
              exact absurd H (by simp)
          · rw [if_neg c5] at H
            exact absurd H (by simp)
        · rw [if_neg c4] at H
          exact absurd H (by simp)
      · rw [if_neg c2] at H
        have c2b0 : decide (x4_1 < 74) = false := decide_eq_false c2
        clear c2
        simp only [Option.some.injEq, Prod.mk.injEq] at H
        obtain ⟨rfl, rfl⟩ := H
        go_wp2
        go_ret
        exact ⟨by first | rfl | (simp [errW_none, errW_some] <;> rfl) | (simp [*, errW_none, errW_some] <;> rfl), by repeat (first | (with_reducible first | exact HI0.out | apply IsS107.alloc | apply IsS107.drewN | apply IsS107.drew | apply IsS107.set_1) | exact HI0.out), by repeat (first | (with_reducible first | exact HB.out | apply below_alloc | apply pw_below_drewN | apply below_drew1 | refine below_set ?_ (IsS107.ge HI0.out)) | exact HB.out), by repeat (first | (with_reducible first | exact HK.out | apply KeepBut.set_ | apply keep_drewN | apply keep_drew | apply keep_alloc) | exact HK.out)⟩
end Go.Proofs.YtcpmgkedmmiioaaGreatDoor.P
end
