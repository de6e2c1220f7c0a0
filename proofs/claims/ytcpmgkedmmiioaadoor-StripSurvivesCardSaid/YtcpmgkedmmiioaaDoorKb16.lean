/- stripSurvives_card, part 16: what the row's proof needs: words of the print, contracts of functions, the plain law. -/
import Derived.Test.YtcpmgkedmmiioaaDoorKb1
import Derived.Test.YtcpmgkedmmiioaaDoorKb2
import Derived.Test.YtcpmgkedmmiioaaDoorKb3
import Derived.Test.YtcpmgkedmmiioaaDoorKb14
import Derived.Test.YtcpmgkedmmiioaaDoorKb15
import Derived.Test.YtcpmgkedmmiioaaDoorKb13
section
namespace Go.Proofs.YtcpmgkedmmiioaaDoor.P
open Go.RowKit Go.Proofs.YtcpmgkedmmiioaaDoorW.PrintWords Go.Proofs.YtcpmgkedmmiioaaDoorW.PrintLast Go.Proofs.YtcpmgkedmmiioaaDoorW.PrintMore
attribute [local go_sem] max2_int min2_int max_two min_two max_three min_three max_four min_four   -- for this text's walks alone
set_option linter.unusedVariables false
set_option linter.unusedSimpArgs false
attribute [local go_sem high] eqA29
mutual
def awardingbodylaw19_StripSurvives.j0 : Nat → Int → Int → Bool → ByteArray → Bool → List Int → Int → Int → Int → Int → Int → Option (Bool)
  | 0, _, _, _, _, _, _, _, _, _, _, _ => none
  | k + 1, x1, x2, x3, x11, x37, x224000, x224001, x230000, x230001, x230002, x230003 => if x37 = true then (some false) else ((awardingbodymake_Cut.f x1 4).bind fun t232 => ((awardingbodymake_Cut.f x2 (wrap64 (7 - (wrap64 (2 * t232))))).bind fun t233 => (awardingbodylaw19_StripSurvives.l0 k t232 t233 x3 x11 0 x224000 x224001 x230000 x230001 x230002 x230003)))
def awardingbodylaw19_StripSurvives.l0 : Nat → Int → Int → Bool → ByteArray → Int → List Int → Int → Int → Int → Int → Int → Option (Bool)
  | 0, _, _, _, _, _, _, _, _, _, _, _ => none
  | k + 1, x1, x2, x3, x11, x13, x224000, x224001, x230000, x230001, x230002, x230003 => if x13 < 3 then ((awardingbodymake_Tape_Next.f x224000 x224001 7).bind fun bt234 => ((awardingbodymake_Tape_Next.f x224000 bt234.2 2).bind fun bt236 => ((awardingbodymake_Change.f x11 bt234.1 bt236.1).bind fun t238 => ((awardingbodymake_Tape_Next.f x224000 bt236.2 7).bind fun bt239 => ((awardingbodymake_Tape_Next.f x224000 bt239.2 2).bind fun bt241 => ((awardingbodymake_Change.f t238 (wrap64 (67 + bt239.1)) bt241.1).bind fun t243 => (awardingbodylaw19_StripSurvives.l0 k x1 x2 x3 t243 (wrap64 (x13 + 1)) x224000 bt241.2 x230000 x230001 x230002 x230003))))))) else ((awardingbodymake_Tape_Order.f k x224000 x224001 12).bind fun bt244 => (awardingbodylaw19_StripSurvives.l1 k x1 x2 x3 x11 bt244.1 0 x224000 bt244.2 x230000 x230001 x230002 x230003))
def awardingbodylaw19_StripSurvives.l1 : Nat → Int → Int → Bool → ByteArray → List Int → Int → List Int → Int → Int → Int → Int → Int → Option (Bool)
  | 0, _, _, _, _, _, _, _, _, _, _, _, _ => none
  | k + 1, x1, x2, x3, x11, x14, x15, x224000, x224001, x230000, x230001, x230002, x230003 => if x15 < (wrap64 (x1 + x2)) then (if 0 ≤ x15 then (if x15 < (x14.length : Int) then ((awardingbodymake_Tape_Next.f x224000 x224001 5).bind fun bt249 => (awardingbodylaw19_StripSurvives.l2 k x1 x2 x3 x11 x14 x15 (wrap64 (7 + (wrap64 (5 * (rd x14 x15))))) bt249.1 0 x224000 bt249.2 x230000 x230001 x230002 x230003)) else (none)) else (none)) else (if x3 = true then ((strip_Flip.f x11).bind fun t255 => ((strip_Read.f t255).bind fun bt256 => (if bt256.2.2.2.2.2 = 0 then (if (bt256.1 == x230000 && (bt256.2.1 == x230001 && (bt256.2.2.1 == x230002 && (bt256.2.2.2.1 == x230003)))) = true then (if bt256.2.2.2.2.1 = x1 then ((awardingbodylaw19_awake.f).bind fun t263 => (some t263)) else (some false)) else (some false)) else (some false)))) else ((strip_Read.f x11).bind fun bt264 => (if bt264.2.2.2.2.2 = 0 then (if (bt264.1 == x230000 && (bt264.2.1 == x230001 && (bt264.2.2.1 == x230002 && (bt264.2.2.2.1 == x230003)))) = true then (if bt264.2.2.2.2.1 = x1 then ((awardingbodylaw19_awake.f).bind fun t271 => (some t271)) else (some false)) else (some false)) else (some false))))
def awardingbodylaw19_StripSurvives.l2 : Nat → Int → Int → Bool → ByteArray → List Int → Int → Int → Int → Int → List Int → Int → Int → Int → Int → Int → Option (Bool)
  | 0, _, _, _, _, _, _, _, _, _, _, _, _, _, _, _ => none
  | k + 1, x1, x2, x3, x11, x14, x15, x16, x17, x18, x224000, x224001, x230000, x230001, x230002, x230003 => if x18 < 5 then (if x18 = x17 then (awardingbodylaw19_StripSurvives.j4 k x1 x2 x3 x11 x14 x15 x16 x17 x18 false x224000 x224001 x230000 x230001 x230002 x230003) else ((awardingbodymake_Tape_Next.f x224000 x224001 2).bind fun bt251 => (awardingbodylaw19_StripSurvives.j4 k x1 x2 x3 x11 x14 x15 x16 x17 x18 (bt251.1 == 0) x224000 bt251.2 x230000 x230001 x230002 x230003))) else (awardingbodylaw19_StripSurvives.l1 k x1 x2 x3 x11 x14 (wrap64 (x15 + 1)) x224000 x224001 x230000 x230001 x230002 x230003)
def awardingbodylaw19_StripSurvives.j4 : Nat → Int → Int → Bool → ByteArray → List Int → Int → Int → Int → Int → Bool → List Int → Int → Int → Int → Int → Int → Option (Bool)
  | 0, _, _, _, _, _, _, _, _, _, _, _, _, _, _, _, _ => none
  | k + 1, x1, x2, x3, x11, x14, x15, x16, x17, x18, x90, x224000, x224001, x230000, x230001, x230002, x230003 => if x90 = true then (awardingbodylaw19_StripSurvives.l2 k x1 x2 x3 x11 x14 x15 x16 x17 (wrap64 (x18 + 1)) x224000 x224001 x230000 x230001 x230002 x230003) else (if x15 < x1 then ((awardingbodymake_Change.f x11 (wrap64 (x16 + x18)) 0).bind fun t253 => (awardingbodylaw19_StripSurvives.l2 k x1 x2 x3 t253 x14 x15 x16 x17 (wrap64 (x18 + 1)) x224000 x224001 x230000 x230001 x230002 x230003)) else ((awardingbodymake_Change.f x11 (wrap64 (x16 + x18)) 1).bind fun t254 => (awardingbodylaw19_StripSurvives.l2 k x1 x2 x3 t254 x14 x15 x16 x17 (wrap64 (x18 + 1)) x224000 x224001 x230000 x230001 x230002 x230003)))
end
def awardingbodylaw19_StripSurvives.f (k : Nat) (l0 : List Int) (a1 : Int) (a2 : Int) (a3 : Bool) : Option (Bool) := (awardingbodymake_New.f l0).bind fun bt221 => ((awardingbodymake_Tape_Label.f bt221.1 bt221.2 0).bind fun bt224 => ((strip_Draw.f bt224.1 bt224.2.1 bt224.2.2.1 bt224.2.2.2.1).bind fun bt230 => (if bt230.2 = 0 then (awardingbodylaw19_StripSurvives.j0 k a1 a2 a3 bt230.1 ((bt230.1.size : Int) != 74) bt221.1 bt224.2.2.2.2 bt224.1 bt224.2.1 bt224.2.2.1 bt224.2.2.2.1) else (awardingbodylaw19_StripSurvives.j0 k a1 a2 a3 bt230.1 true bt221.1 bt224.2.2.2.2 bt224.1 bt224.2.1 bt224.2.2.1 bt224.2.2.2.1))))
theorem awardingbodylaw19_StripSurvives.mono_l : ∀ k, (∀ y0 y1 y2 y3 y4 y5 y6 y7 y8 y9 y10, LeO (awardingbodylaw19_StripSurvives.j0 k y0 y1 y2 y3 y4 y5 y6 y7 y8 y9 y10) (awardingbodylaw19_StripSurvives.j0 (k + 1) y0 y1 y2 y3 y4 y5 y6 y7 y8 y9 y10)) ∧ (∀ y0 y1 y2 y3 y4 y5 y6 y7 y8 y9 y10, LeO (awardingbodylaw19_StripSurvives.l0 k y0 y1 y2 y3 y4 y5 y6 y7 y8 y9 y10) (awardingbodylaw19_StripSurvives.l0 (k + 1) y0 y1 y2 y3 y4 y5 y6 y7 y8 y9 y10)) ∧ (∀ y0 y1 y2 y3 y4 y5 y6 y7 y8 y9 y10 y11, LeO (awardingbodylaw19_StripSurvives.l1 k y0 y1 y2 y3 y4 y5 y6 y7 y8 y9 y10 y11) (awardingbodylaw19_StripSurvives.l1 (k + 1) y0 y1 y2 y3 y4 y5 y6 y7 y8 y9 y10 y11)) ∧ (∀ y0 y1 y2 y3 y4 y5 y6 y7 y8 y9 y10 y11 y12 y13 y14, LeO (awardingbodylaw19_StripSurvives.l2 k y0 y1 y2 y3 y4 y5 y6 y7 y8 y9 y10 y11 y12 y13 y14) (awardingbodylaw19_StripSurvives.l2 (k + 1) y0 y1 y2 y3 y4 y5 y6 y7 y8 y9 y10 y11 y12 y13 y14)) ∧ (∀ y0 y1 y2 y3 y4 y5 y6 y7 y8 y9 y10 y11 y12 y13 y14 y15, LeO (awardingbodylaw19_StripSurvives.j4 k y0 y1 y2 y3 y4 y5 y6 y7 y8 y9 y10 y11 y12 y13 y14 y15) (awardingbodylaw19_StripSurvives.j4 (k + 1) y0 y1 y2 y3 y4 y5 y6 y7 y8 y9 y10 y11 y12 y13 y14 y15))
  | 0 => ⟨fun _ _ _ _ _ _ _ _ _ _ _ r h => by simp [awardingbodylaw19_StripSurvives.j0] at h, fun _ _ _ _ _ _ _ _ _ _ _ r h => by simp [awardingbodylaw19_StripSurvives.l0] at h, fun _ _ _ _ _ _ _ _ _ _ _ _ r h => by simp [awardingbodylaw19_StripSurvives.l1] at h, fun _ _ _ _ _ _ _ _ _ _ _ _ _ _ _ r h => by simp [awardingbodylaw19_StripSurvives.l2] at h, fun _ _ _ _ _ _ _ _ _ _ _ _ _ _ _ _ r h => by simp [awardingbodylaw19_StripSurvives.j4] at h⟩
  | k + 1 => by
    obtain ⟨ih0, ih1, ih2, ih3, ih4⟩ := awardingbodylaw19_StripSurvives.mono_l k
    refine ⟨?_, ?_, ?_, ?_, ?_⟩
    · intro y0 y1 y2 y3 y4 y5 y6 y7 y8 y9 y10
      unfold awardingbodylaw19_StripSurvives.j0
      repeat' first
      | (with_reducible exact ih0 _ _ _ _ _ _ _ _ _ _ _)
      | (with_reducible exact ih1 _ _ _ _ _ _ _ _ _ _ _)
      | (with_reducible exact ih2 _ _ _ _ _ _ _ _ _ _ _ _)
      | (with_reducible exact ih3 _ _ _ _ _ _ _ _ _ _ _ _ _ _ _)
      | (with_reducible exact ih4 _ _ _ _ _ _ _ _ _ _ _ _ _ _ _ _)
      | (with_reducible exact awardingbodymake_Tape_Order.mono _ _ _ _)
      | (with_reducible exact LeO.refl _)
      | (with_reducible exact LeO.none _)
      | (with_reducible refine LeO.ite ?_ ?_)
      | (with_reducible refine LeO.bind ?_ (fun _ => ?_))
      | exact ih0 _ _ _ _ _ _ _ _ _ _ _
      | exact ih1 _ _ _ _ _ _ _ _ _ _ _
      | exact ih2 _ _ _ _ _ _ _ _ _ _ _ _
      | exact ih3 _ _ _ _ _ _ _ _ _ _ _ _ _ _ _
      | exact ih4 _ _ _ _ _ _ _ _ _ _ _ _ _ _ _ _
      | exact awardingbodymake_Tape_Order.mono _ _ _ _
      | exact LeO.none _
      | refine LeO.ite ?_ ?_
      | refine LeO.bind ?_ (fun _ => ?_)
    · intro y0 y1 y2 y3 y4 y5 y6 y7 y8 y9 y10
      unfold awardingbodylaw19_StripSurvives.l0
      repeat' first
      | (with_reducible exact ih0 _ _ _ _ _ _ _ _ _ _ _)
      | (with_reducible exact ih1 _ _ _ _ _ _ _ _ _ _ _)
      | (with_reducible exact ih2 _ _ _ _ _ _ _ _ _ _ _ _)
      | (with_reducible exact ih3 _ _ _ _ _ _ _ _ _ _ _ _ _ _ _)
      | (with_reducible exact ih4 _ _ _ _ _ _ _ _ _ _ _ _ _ _ _ _)
      | (with_reducible exact awardingbodymake_Tape_Order.mono _ _ _ _)
      | (with_reducible exact LeO.refl _)
      | (with_reducible exact LeO.none _)
      | (with_reducible refine LeO.ite ?_ ?_)
      | (with_reducible refine LeO.bind ?_ (fun _ => ?_))
      | exact ih0 _ _ _ _ _ _ _ _ _ _ _
      | exact ih1 _ _ _ _ _ _ _ _ _ _ _
      | exact ih2 _ _ _ _ _ _ _ _ _ _ _ _
      | exact ih3 _ _ _ _ _ _ _ _ _ _ _ _ _ _ _
      | exact ih4 _ _ _ _ _ _ _ _ _ _ _ _ _ _ _ _
      | exact awardingbodymake_Tape_Order.mono _ _ _ _
      | exact LeO.none _
      | refine LeO.ite ?_ ?_
      | refine LeO.bind ?_ (fun _ => ?_)
    · intro y0 y1 y2 y3 y4 y5 y6 y7 y8 y9 y10 y11
      unfold awardingbodylaw19_StripSurvives.l1
      repeat' first
      | (with_reducible exact ih0 _ _ _ _ _ _ _ _ _ _ _)
      | (with_reducible exact ih1 _ _ _ _ _ _ _ _ _ _ _)
      | (with_reducible exact ih2 _ _ _ _ _ _ _ _ _ _ _ _)
      | (with_reducible exact ih3 _ _ _ _ _ _ _ _ _ _ _ _ _ _ _)
      | (with_reducible exact ih4 _ _ _ _ _ _ _ _ _ _ _ _ _ _ _ _)
      | (with_reducible exact awardingbodymake_Tape_Order.mono _ _ _ _)
      | (with_reducible exact LeO.refl _)
      | (with_reducible exact LeO.none _)
      | (with_reducible refine LeO.ite ?_ ?_)
      | (with_reducible refine LeO.bind ?_ (fun _ => ?_))
      | exact ih0 _ _ _ _ _ _ _ _ _ _ _
      | exact ih1 _ _ _ _ _ _ _ _ _ _ _
      | exact ih2 _ _ _ _ _ _ _ _ _ _ _ _
      | exact ih3 _ _ _ _ _ _ _ _ _ _ _ _ _ _ _
      | exact ih4 _ _ _ _ _ _ _ _ _ _ _ _ _ _ _ _
      | exact awardingbodymake_Tape_Order.mono _ _ _ _
      | exact LeO.none _
      | refine LeO.ite ?_ ?_
      | refine LeO.bind ?_ (fun _ => ?_)
    · intro y0 y1 y2 y3 y4 y5 y6 y7 y8 y9 y10 y11 y12 y13 y14
      unfold awardingbodylaw19_StripSurvives.l2
      repeat' first
      | (with_reducible exact ih0 _ _ _ _ _ _ _ _ _ _ _)
      | (with_reducible exact ih1 _ _ _ _ _ _ _ _ _ _ _)
      | (with_reducible exact ih2 _ _ _ _ _ _ _ _ _ _ _ _)
      | (with_reducible exact ih3 _ _ _ _ _ _ _ _ _ _ _ _ _ _ _)
      | (with_reducible exact ih4 _ _ _ _ _ _ _ _ _ _ _ _ _ _ _ _)
      | (with_reducible exact awardingbodymake_Tape_Order.mono _ _ _ _)
      | (with_reducible exact LeO.refl _)
      | (with_reducible exact LeO.none _)
      | (with_reducible refine LeO.ite ?_ ?_)
      | (with_reducible refine LeO.bind ?_ (fun _ => ?_))
      | exact ih0 _ _ _ _ _ _ _ _ _ _ _
      | exact ih1 _ _ _ _ _ _ _ _ _ _ _
      | exact ih2 _ _ _ _ _ _ _ _ _ _ _ _
      | exact ih3 _ _ _ _ _ _ _ _ _ _ _ _ _ _ _
      | exact ih4 _ _ _ _ _ _ _ _ _ _ _ _ _ _ _ _
      | exact awardingbodymake_Tape_Order.mono _ _ _ _
      | exact LeO.none _
      | refine LeO.ite ?_ ?_
      | refine LeO.bind ?_ (fun _ => ?_)
    · intro y0 y1 y2 y3 y4 y5 y6 y7 y8 y9 y10 y11 y12 y13 y14 y15
      unfold awardingbodylaw19_StripSurvives.j4
      repeat' first
      | (with_reducible exact ih0 _ _ _ _ _ _ _ _ _ _ _)
      | (with_reducible exact ih1 _ _ _ _ _ _ _ _ _ _ _)
      | (with_reducible exact ih2 _ _ _ _ _ _ _ _ _ _ _ _)
      | (with_reducible exact ih3 _ _ _ _ _ _ _ _ _ _ _ _ _ _ _)
      | (with_reducible exact ih4 _ _ _ _ _ _ _ _ _ _ _ _ _ _ _ _)
      | (with_reducible exact awardingbodymake_Tape_Order.mono _ _ _ _)
      | (with_reducible exact LeO.refl _)
      | (with_reducible exact LeO.none _)
      | (with_reducible refine LeO.ite ?_ ?_)
      | (with_reducible refine LeO.bind ?_ (fun _ => ?_))
      | exact ih0 _ _ _ _ _ _ _ _ _ _ _
      | exact ih1 _ _ _ _ _ _ _ _ _ _ _
      | exact ih2 _ _ _ _ _ _ _ _ _ _ _ _
      | exact ih3 _ _ _ _ _ _ _ _ _ _ _ _ _ _ _
      | exact ih4 _ _ _ _ _ _ _ _ _ _ _ _ _ _ _ _
      | exact awardingbodymake_Tape_Order.mono _ _ _ _
      | exact LeO.none _
      | refine LeO.ite ?_ ?_
      | refine LeO.bind ?_ (fun _ => ?_)
set_option maxHeartbeats 8000000 in
set_option maxRecDepth 100000 in
theorem awardingbodylaw19_StripSurvives.calls (k : Nat) (A0 : Option Addr) (c0 : Nat) (l0 : List Int) (a1 : Int) (a2 : Int) (a3 : Bool) (r : Bool) (w : World) (hr0 : Kd.C (Kd.int .i64) w A0 l0.length l0) (hc0 : l0.length ≤ c0) (h : awardingbodylaw19_StripSurvives.f k l0 a1 a2 a3 = some r) :
    Calls Tryd.prog 4 #[.slice A0 l0.length c0, .int .i64 a1, .int .i64 a2, .bool a3] w fun e w' => e = .returned (.bool r) ∧ Below w.heap.size w w' := by
  have hu29 := Tryd.underlying29
  have HR0 := Aside0.mk hr0
  have HC0 := Aside0.mk hc0
  clear hr0 hc0
  have HB := Aside0.mk (Below.refl w.heap.size w)
  have H : ((awardingbodymake_New.f l0).bind fun bt221 => ((awardingbodymake_Tape_Label.f bt221.1 bt221.2 0).bind fun bt224 => ((strip_Draw.f bt224.1 bt224.2.1 bt224.2.2.1 bt224.2.2.2.1).bind fun bt230 => (if bt230.2 = 0 then (awardingbodylaw19_StripSurvives.j0 k a1 a2 a3 bt230.1 ((bt230.1.size : Int) != 74) bt221.1 bt224.2.2.2.2 bt224.1 bt224.2.1 bt224.2.2.1 bt224.2.2.2.1) else (awardingbodylaw19_StripSurvives.j0 k a1 a2 a3 bt230.1 true bt221.1 bt224.2.2.2.2 bt224.1 bt224.2.1 bt224.2.2.1 bt224.2.2.2.1))))) = some r := h
  clear h
  replace H := Option.bind_eq_some_iff.mp H
  obtain ⟨⟨t221, t222⟩, A50, H⟩ := H
  replace H : ((awardingbodymake_Tape_Label.f t221 t222 0).bind fun bt224 => ((strip_Draw.f bt224.1 bt224.2.1 bt224.2.2.1 bt224.2.2.2.1).bind fun bt230 => (if bt230.2 = 0 then (awardingbodylaw19_StripSurvives.j0 k a1 a2 a3 bt230.1 ((bt230.1.size : Int) != 74) t221 bt224.2.2.2.2 bt224.1 bt224.2.1 bt224.2.2.1 bt224.2.2.2.1) else (awardingbodylaw19_StripSurvives.j0 k a1 a2 a3 bt230.1 true t221 bt224.2.2.2.2 bt224.1 bt224.2.1 bt224.2.2.1 bt224.2.2.2.1)))) = some r := H
  have A5 := Aside0.mk A50
  clear A50
  replace H := Option.bind_eq_some_iff.mp H
  obtain ⟨⟨t224, t225, t226, t227, t228⟩, A60, H⟩ := H
  replace H : ((strip_Draw.f t224 t225 t226 t227).bind fun bt230 => (if bt230.2 = 0 then (awardingbodylaw19_StripSurvives.j0 k a1 a2 a3 bt230.1 ((bt230.1.size : Int) != 74) t221 t228 t224 t225 t226 t227) else (awardingbodylaw19_StripSurvives.j0 k a1 a2 a3 bt230.1 true t221 t228 t224 t225 t226 t227))) = some r := H
  have A6 := Aside0.mk A60
  clear A60
  replace H := Option.bind_eq_some_iff.mp H
  obtain ⟨⟨t230, t231⟩, A70, H⟩ := H
  replace H : (if t231 = 0 then (awardingbodylaw19_StripSurvives.j0 k a1 a2 a3 t230 ((t230.size : Int) != 74) t221 t228 t224 t225 t226 t227) else (awardingbodylaw19_StripSurvives.j0 k a1 a2 a3 t230 true t221 t228 t224 t225 t226 t227)) = some r := H
  have A7 := Aside0.mk A70
  clear A70
  have HC8 := Aside0.mk H
  clear H
  go_enter Tryd.func4, Tryd.ntmps4
  go_upto_region 4 with (first | ((with_reducible refine gate_callee (f := 11) rfl ?_); refine goesL_ (some 23) rfl rfl Tryd.func11 (by kernel_rfl) rfl #[.slice A0 l0.length c0] rfl (by (try simp only [List.map_toArray, List.map_cons, List.map_nil]); first | done | rfl | (simp only [List.length_drop, List.length_take]; rfl)) ?_; (with_reducible refine (awardingbodymake_New.calls _ _ l0 t221 t222 w _ ?side1 ?side2 ?side3 A5.out).mono ?_); (case side1 => repeat (first | (with_reducible first | exact HB.out | apply below_alloc | apply pw_below_drewN | apply below_drew1) | exact HB.out)); (case side2 => exact HR0.out); (case side3 => exact HC0.out); rintro e w9 ⟨g223, rfl, hi, hb, hb2⟩; refine ⟨_, rfl, ?_⟩; have n0_ := Aside0.mk (hb); have n1_ := Aside0.mk (hi); clear HB; have HB := n0_; have HI223 := n1_; clear n0_ n1_; (try clear hb); (try clear hb2); (try clear hk); (try clear hi)) | ((with_reducible refine gate_callee (f := 12) rfl ?_); refine goesL_ (some 25) rfl rfl Tryd.func12 (by kernel_rfl) rfl #[.pointer (some ⟨g223, 0, none⟩), .int .i64 0] rfl (by (try simp only [List.map_toArray, List.map_cons, List.map_nil]); first | done | rfl | (simp only [List.length_drop, List.length_take]; rfl)) ?_; (with_reducible refine (awardingbodymake_Tape_Label.calls g223 t221 t222 0 t224 t225 t226 t227 t228 w _ ?side1 ?side2 A6.out).mono ?_); (case side1 => repeat (first | (with_reducible first | exact HI223.out | apply IsS57.alloc | apply IsS57.drewN | apply IsS57.drew | apply IsS57.set_1) | exact HI223.out)); (case side2 => repeat (first | (with_reducible first | exact HB.out | apply below_alloc | apply pw_below_drewN | apply below_drew1 | refine below_set ?_ (IsS57.ge HI223.out)) | exact HB.out)); rintro e w10 ⟨rfl, hi, hb, hk⟩; refine ⟨_, rfl, ?_⟩; have n0_ := Aside0.mk (hb); have n1_ := Aside0.mk (hi); clear HB; clear HI223; have HB := n0_; have HI223 := n1_; clear n0_ n1_; (try clear hb); (try clear hb2); (try clear hk); (try clear hi)) | ((with_reducible refine gate_dst (N := 10) rfl ?_); (try (refine gate_guard (by rfl) ?_; dsimp only)); refine box_event ?hg (N := 10) ?hd (cs := #[.int .i64 0, .int .i64 0, .int .i64 0, .int .i64 0]) (t := 29) ?hr ?_; (case hd => rfl); (case hg => rfl); (case hr => first | (go_simp; done) | (go_simp; rfl)); intro gb229 hg w11 hbox hb; have n0_ := Aside0.mk (IsS57.below (by repeat (first | (with_reducible first | exact HI223.out | apply IsS57.alloc | apply IsS57.drewN | apply IsS57.drew | apply IsS57.set_1) | exact HI223.out)) hb); have n1_ := Aside0.mk (below_step (by repeat (first | (with_reducible first | exact HB.out | apply below_alloc | apply pw_below_drewN | apply below_drew1 | refine below_set ?_ (IsS57.ge HI223.out)) | exact HB.out)) hb); have n2_ := Aside0.mk (hbox); have n3_ := Aside0.mk ((by rw [hg]; exact (below_size (by repeat (first | (with_reducible first | exact HB.out | apply below_alloc | apply pw_below_drewN | apply below_drew1 | refine below_set ?_ (IsS57.ge HI223.out)) | exact HB.out))) : w.heap.size ≤ gb229)); have n4_ := Aside0.mk ((by rw [hg]; exact (below_size (by repeat (first | (with_reducible first | exact HB.out | apply below_alloc | apply pw_below_drewN | apply below_drew1 | refine below_set ?_ (IsS57.ge HI223.out)) | exact HB.out))) : w.heap.size ≤ gb229)); have n5_ := Aside0.mk ((by rw [hg]; exact Nat.ne_of_lt (IsS57.lt (show IsS57 w _ g223 t221 t228 from by repeat (first | (with_reducible first | exact HI223.out | apply IsS57.alloc | apply IsS57.drewN | apply IsS57.drew | apply IsS57.set_1) | exact HI223.out))) : g223 ≠ gb229)); have n6_ := Aside0.mk ((by rw [hg]; exact Nat.ne_of_gt (IsS57.lt (show IsS57 w _ g223 t221 t228 from by repeat (first | (with_reducible first | exact HI223.out | apply IsS57.alloc | apply IsS57.drewN | apply IsS57.drew | apply IsS57.set_1) | exact HI223.out))) : gb229 ≠ g223)); clear HI223; clear HB; have HI223 := n0_; have HB := n1_; have BK229 := n2_; have GW229 := n3_; have GE229 := n4_; have NB223_229 := n5_; have NB229_223 := n6_; clear n0_ n1_ n2_ n3_ n4_ n5_ n6_; clear hb hbox hg; have hnb12 := NB229_223.out; have hnc12 := NB223_229.out; have hcz13_0 : w11.cell? ⟨gb229, 0, none⟩ = some (.int .i64 0) := (blk_cell BK229.out 0).trans rfl; have hcz13_1 : w11.cell? ⟨gb229, 1, none⟩ = some (.int .i64 0) := (blk_cell BK229.out 1).trans rfl; have hcz13_2 : w11.cell? ⟨gb229, 2, none⟩ = some (.int .i64 0) := (blk_cell BK229.out 2).trans rfl; have hcz13_3 : w11.cell? ⟨gb229, 3, none⟩ = some (.int .i64 0) := (blk_cell BK229.out 3).trans rfl; have hfz13_0 := blk_frozen BK229.out 0; have hfz13_1 := blk_frozen BK229.out 1; have hfz13_2 := blk_frozen BK229.out 2; have hfz13_3 := blk_frozen BK229.out 3) | ((with_reducible refine gate_callee (f := 13) rfl ?_); refine goesL_ (some 28) rfl rfl Tryd.func13 (by kernel_rfl) rfl #[.agg #[.int .i64 t224, .int .i64 t225, .int .i64 t226, .int .i64 t227]] rfl (by (try simp only [List.map_toArray, List.map_cons, List.map_nil]); first | done | rfl | (simp only [List.length_drop, List.length_take]; rfl)) ?_; (with_reducible refine (strip_Draw.calls t224 t225 t226 t227 t230 t231 _ A7.out).mono ?_); rintro e w14 ⟨rfl, hb⟩; refine ⟨_, rfl, ?_⟩; have n0_ := Aside0.mk (IsS57.below (show IsS57 w ((((w11.setCell ⟨gb229, 0, none⟩ (.int .i64 t224)).setCell ⟨gb229, 1, none⟩ (.int .i64 t225)).setCell ⟨gb229, 2, none⟩ (.int .i64 t226)).setCell ⟨gb229, 3, none⟩ (.int .i64 t227)) g223 t221 t228 from by repeat (first | (with_reducible first | exact HI223.out | apply IsS57.alloc | apply IsS57.drewN | apply IsS57.drew | apply IsS57.set_1 | refine IsS57.far ?_ NB223_229.out _) | exact HI223.out)) hb); have n1_ := Aside0.mk (blk_below (g := gb229) (o := .cells #[.int .i64 t224, .int .i64 t225, .int .i64 t226, .int .i64 t227] 29 (0, 0)) (by (with_reducible repeat (first | refine blk_drewN ?_ _ | refine blk_drew ?_ | refine blk_alloc ?_ _)); refine blk_put (cs := #[.int .i64 t224, .int .i64 t225, .int .i64 t226, .int .i64 0]) ?_ 3 _ rfl; (with_reducible repeat (first | refine blk_drewN ?_ _ | refine blk_drew ?_ | refine blk_alloc ?_ _)); refine blk_put (cs := #[.int .i64 t224, .int .i64 t225, .int .i64 0, .int .i64 0]) ?_ 2 _ rfl; (with_reducible repeat (first | refine blk_drewN ?_ _ | refine blk_drew ?_ | refine blk_alloc ?_ _)); refine blk_put (cs := #[.int .i64 t224, .int .i64 0, .int .i64 0, .int .i64 0]) ?_ 1 _ rfl; (with_reducible repeat (first | refine blk_drewN ?_ _ | refine blk_drew ?_ | refine blk_alloc ?_ _)); refine blk_put (cs := #[.int .i64 0, .int .i64 0, .int .i64 0, .int .i64 0]) ?_ 0 _ rfl; (with_reducible repeat (first | refine blk_drewN ?_ _ | refine blk_drew ?_ | refine blk_alloc ?_ _)); exact BK229.out) hb); have n2_ := Aside0.mk (below_step (by repeat (first | (with_reducible first | exact HB.out | apply below_alloc | apply pw_below_drewN | apply below_drew1 | refine below_set ?_ (IsS57.ge HI223.out) | refine below_set ?_ GE229.out) | exact HB.out)) hb); clear HI223; clear BK229; clear HB; have HI223 := n0_; have BK229 := n1_; have HB := n2_; clear n0_ n1_ n2_; (try clear hb); (try clear hb2); (try clear hk); (try clear hi)))
  (try simp only [Act.put, List.setIfInBounds_toArray, List.set_cons_zero, List.set_cons_succ])
  go_cut [37] (fun v37 wc => ∃ (kq : Nat) (x37_7 : Bool), v37 = .bool x37_7 ∧ Aside0 (awardingbodylaw19_StripSurvives.j0 kq a1 a2 a3 t230 x37_7 t221 t228 t224 t225 t226 t227 = some r) ∧ Aside0 (kq ≤ k) ∧ Aside0 (wc.heap[gb229]? = some (.cells #[.int .i64 t224, .int .i64 t225, .int .i64 t226, .int .i64 t227] 29 (0, 0))) ∧ Aside0 (IsS57 w wc g223 t221 t228) ∧ Aside0 (Below w.heap.size w wc))
  case first =>
    have H := HC8.out
    clear HC8
    by_cases c15 : t231 = 0
    · rw [if_pos c15] at H
      have c15b0 : (t231 == 0) = true := beq_iff_eq.mpr c15
      have c15b1 : (t231 != 0) = false := bne_eq_false_iff_eq.mpr c15
      clear c15
      (first | rw [c15b0] | (simp only [i64_w, i32_w]; rw [c15b0]) | skip)
      have H' := Aside0.mk H
      clear H
      go_wp2
      go_meet
      case rel => exact ⟨_, (((t230.size : Int) != 74)), (by first | rfl | (simp; done) | (simp [*]; done)), H', ⟨by first | omega | exact Nat.le_refl _⟩, ⟨by (with_reducible repeat (first | refine blk_drewN ?_ _ | refine blk_drew ?_ | refine blk_alloc ?_ _)); exact BK229.out⟩, ⟨by repeat (first | (with_reducible first | exact HI223.out | apply IsS57.alloc | apply IsS57.drewN | apply IsS57.drew | apply IsS57.set_1 | refine IsS57.far ?_ NB223_229.out _) | exact HI223.out)⟩, ⟨by repeat (first | (with_reducible first | exact HB.out | apply below_alloc | apply pw_below_drewN | apply below_drew1 | refine below_set ?_ (IsS57.ge HI223.out) | refine below_set ?_ GE229.out) | exact HB.out)⟩⟩
    · rw [if_neg c15] at H
      have c15b0 : (t231 == 0) = false := beq_eq_false_iff_ne.mpr c15
      have c15b1 : (t231 != 0) = true := bne_iff_ne.mpr c15
      (first | rw [c15b0] | (simp only [i64_w, i32_w]; rw [c15b0]) | skip)
      have H' := Aside0.mk H
      clear H
      go_wp2
      go_meet
      case rel => exact ⟨_, (true), (by first | rfl | (simp; done) | (simp [*]; done)), H', ⟨by first | omega | exact Nat.le_refl _⟩, ⟨by (with_reducible repeat (first | refine blk_drewN ?_ _ | refine blk_drew ?_ | refine blk_alloc ?_ _)); exact BK229.out⟩, ⟨by repeat (first | (with_reducible first | exact HI223.out | apply IsS57.alloc | apply IsS57.drewN | apply IsS57.drew | apply IsS57.set_1 | refine IsS57.far ?_ NB223_229.out _) | exact HI223.out)⟩, ⟨by repeat (first | (with_reducible first | exact HB.out | apply below_alloc | apply pw_below_drewN | apply below_drew1 | refine below_set ?_ (IsS57.ge HI223.out) | refine below_set ?_ GE229.out) | exact HB.out)⟩⟩
  case rest =>
    clear HC8
    try clear c1
    try clear p2
    try clear c4
    try clear c11
    try clear c12
    try clear c13
    try clear c15
    try clear c15b0
    try clear c15b1
    try clear hcz13_0
    try clear hcz13_1
    try clear hcz13_2
    try clear hcz13_3
    try clear hfz13_0
    try clear hfz13_1
    try clear hfz13_2
    try clear hfz13_3
    obtain ⟨kq, x37_7, rfl, HA, HJ7, BK229, HI223, HB⟩ := hcut
    cases kq with
    | zero => exact absurd HA.out (by simp [awardingbodylaw19_StripSurvives.j0])
    | succ kj7 =>
      have H := HA.out
      clear HA
      simp only [awardingbodylaw19_StripSurvives.j0] at H
      by_cases c16 : x37_7 = true
      · subst c16
        have H1 : (some false) = some r := by rw [if_pos rfl] at H; exact H
        clear H
        have H := H1
        clear H1
        obtain rfl := Option.some.inj H
        go_wp2
        go_ret
        exact ⟨by first | rfl | (simp [errW_none, errW_some] <;> rfl) | (simp [*, errW_none, errW_some] <;> rfl), by repeat (first | (with_reducible first | exact HB.out | apply below_alloc | apply pw_below_drewN | apply below_drew1 | refine below_set ?_ (IsS57.ge HI223.out) | refine below_set ?_ GE229.out) | exact HB.out)⟩
      · replace c16 := Bool.eq_false_iff.mpr c16
        subst c16
        have H1 : ((awardingbodymake_Cut.f a1 4).bind fun t232 => ((awardingbodymake_Cut.f a2 (wrap64 (7 - (wrap64 (2 * t232))))).bind fun t233 => (awardingbodylaw19_StripSurvives.l0 kj7 t232 t233 a3 t230 0 t221 t228 t224 t225 t226 t227))) = some r := by rw [if_neg (show ¬ (false = true) by decide)] at H; exact H
        clear H
        have H := H1
        clear H1
        replace H := Option.bind_eq_some_iff.mp H
        obtain ⟨t232, A170, H⟩ := H
        replace H : ((awardingbodymake_Cut.f a2 (wrap64 (7 - (wrap64 (2 * t232))))).bind fun t233 => (awardingbodylaw19_StripSurvives.l0 kj7 t232 t233 a3 t230 0 t221 t228 t224 t225 t226 t227)) = some r := H
        have A17 := Aside0.mk A170
        clear A170
        replace H := Option.bind_eq_some_iff.mp H
        obtain ⟨t233, A180, H⟩ := H
        replace H : (awardingbodylaw19_StripSurvives.l0 kj7 t232 t233 a3 t230 0 t221 t228 t224 t225 t226 t227) = some r := H
        have A18 := Aside0.mk A180
        clear A180
        have H' := Aside0.mk H
        clear H
        go_wp2_with (first | ((with_reducible refine gate_callee (f := 6) rfl ?_); refine goesL_ (some 39) rfl rfl Tryd.func6 (by kernel_rfl) rfl #[.int .i64 a1, .int .i64 4] rfl (by (try simp only [List.map_toArray, List.map_cons, List.map_nil]); first | done | rfl | (simp only [List.length_drop, List.length_take]; rfl)) ?_; (with_reducible refine (awardingbodymake_Cut.calls a1 4 t232 _ A17.out).mono ?_); rintro e w' ⟨rfl, ⟨nd, rfl⟩⟩; refine ⟨_, rfl, ?_⟩) | ((with_reducible refine gate_callee (f := 6) rfl ?_); refine goesL_ (some 44) rfl rfl Tryd.func6 (by kernel_rfl) rfl #[.int .i64 a2, .int .i64 (wrap64 (7 - (wrap64 (2 * t232))))] rfl (by (try simp only [List.map_toArray, List.map_cons, List.map_nil]); first | done | rfl | (simp only [List.length_drop, List.length_take]; rfl)) ?_; (with_reducible refine (awardingbodymake_Cut.calls a2 (wrap64 (7 - (wrap64 (2 * t232)))) t233 _ A18.out).mono ?_); rintro e w' ⟨rfl, ⟨nd, rfl⟩⟩; refine ⟨_, rfl, ?_⟩))
        go_loopg [11, 13] kj7 (fun kq v11 v13 w' => ∃ (x11_2 : ByteArray) (x13_2 : Int) (x224001_2 : Int), v11 = .string x11_2 ∧ v13 = .int .i64 x13_2 ∧ Aside0 (awardingbodylaw19_StripSurvives.l0 kq t232 t233 a3 x11_2 x13_2 t221 x224001_2 t224 t225 t226 t227 = some r) ∧ Aside0 (kq ≤ kj7) ∧ Aside0 (w'.heap[gb229]? = some (.cells #[.int .i64 t224, .int .i64 t225, .int .i64 t226, .int .i64 t227] 29 (0, 0))) ∧ Aside0 (IsS57 w w' g223 t221 x224001_2) ∧ Aside0 (Below w.heap.size w w'))
        case atStart => exact ⟨(t230), (0), (t228), (by first | rfl | (simp; done) | (simp [*]; done)), (by first | rfl | (simp; done) | (simp [*]; done)), H', ⟨Nat.le_refl _⟩, ⟨by (with_reducible repeat (first | refine blk_drewN ?_ _ | refine blk_drew ?_ | refine blk_alloc ?_ _)); exact BK229.out⟩, ⟨by repeat (first | (with_reducible first | exact HI223.out | apply IsS57.alloc | apply IsS57.drewN | apply IsS57.drew | apply IsS57.set_1 | refine IsS57.far ?_ NB223_229.out _) | exact HI223.out)⟩, ⟨by repeat (first | (with_reducible first | exact HB.out | apply below_alloc | apply pw_below_drewN | apply below_drew1 | refine below_set ?_ (IsS57.ge HI223.out) | refine below_set ?_ GE229.out) | exact HB.out)⟩⟩
        case round =>
          clear H'
          try clear c1
          try clear p2
          try clear c4
          try clear c6
          try clear p6
          try clear c11
          try clear c12
          try clear c13
          try clear c15
          try clear c15b0
          try clear c15b1
          try clear c16
          try clear hcz13_0
          try clear hcz13_1
          try clear hcz13_2
          try clear hcz13_3
          try clear hfz13_0
          try clear hfz13_1
          try clear hfz13_2
          try clear hfz13_3
          try clear p2
          obtain ⟨x11_2, x13_2, x224001_2, rfl, rfl, HA, HK2, BK229, HI223, HB⟩ := hrel
          cases gk with
          | zero => exact absurd HA.out (by simp [awardingbodylaw19_StripSurvives.l0])
          | succ k2 =>
            have H := HA.out
            clear HA
            simp only [awardingbodylaw19_StripSurvives.l0] at H
            by_cases c19 : x13_2 < 3
            · rw [if_pos c19] at H
              have c19b0 : decide (x13_2 < 3) = true := decide_eq_true c19
              clear c19
              replace H := Option.bind_eq_some_iff.mp H
              obtain ⟨⟨t234, t235⟩, A200, H⟩ := H
              replace H : ((awardingbodymake_Tape_Next.f t221 t235 2).bind fun bt236 => ((awardingbodymake_Change.f x11_2 t234 bt236.1).bind fun t238 => ((awardingbodymake_Tape_Next.f t221 bt236.2 7).bind fun bt239 => ((awardingbodymake_Tape_Next.f t221 bt239.2 2).bind fun bt241 => ((awardingbodymake_Change.f t238 (wrap64 (67 + bt239.1)) bt241.1).bind fun t243 => (awardingbodylaw19_StripSurvives.l0 k2 t232 t233 a3 t243 (wrap64 (x13_2 + 1)) t221 bt241.2 t224 t225 t226 t227)))))) = some r := H
              have A20 := Aside0.mk A200
              clear A200
              replace H := Option.bind_eq_some_iff.mp H
              obtain ⟨⟨t236, t237⟩, A210, H⟩ := H
              replace H : ((awardingbodymake_Change.f x11_2 t234 t236).bind fun t238 => ((awardingbodymake_Tape_Next.f t221 t237 7).bind fun bt239 => ((awardingbodymake_Tape_Next.f t221 bt239.2 2).bind fun bt241 => ((awardingbodymake_Change.f t238 (wrap64 (67 + bt239.1)) bt241.1).bind fun t243 => (awardingbodylaw19_StripSurvives.l0 k2 t232 t233 a3 t243 (wrap64 (x13_2 + 1)) t221 bt241.2 t224 t225 t226 t227))))) = some r := H
              have A21 := Aside0.mk A210
              clear A210
              replace H := Option.bind_eq_some_iff.mp H
              obtain ⟨t238, A220, H⟩ := H
              replace H : ((awardingbodymake_Tape_Next.f t221 t237 7).bind fun bt239 => ((awardingbodymake_Tape_Next.f t221 bt239.2 2).bind fun bt241 => ((awardingbodymake_Change.f t238 (wrap64 (67 + bt239.1)) bt241.1).bind fun t243 => (awardingbodylaw19_StripSurvives.l0 k2 t232 t233 a3 t243 (wrap64 (x13_2 + 1)) t221 bt241.2 t224 t225 t226 t227)))) = some r := H
              have A22 := Aside0.mk A220
              clear A220
              replace H := Option.bind_eq_some_iff.mp H
              obtain ⟨⟨t239, t240⟩, A230, H⟩ := H
              replace H : ((awardingbodymake_Tape_Next.f t221 t240 2).bind fun bt241 => ((awardingbodymake_Change.f t238 (wrap64 (67 + t239)) bt241.1).bind fun t243 => (awardingbodylaw19_StripSurvives.l0 k2 t232 t233 a3 t243 (wrap64 (x13_2 + 1)) t221 bt241.2 t224 t225 t226 t227))) = some r := H
              have A23 := Aside0.mk A230
              clear A230
              replace H := Option.bind_eq_some_iff.mp H
              obtain ⟨⟨t241, t242⟩, A240, H⟩ := H
              replace H : ((awardingbodymake_Change.f t238 (wrap64 (67 + t239)) t241).bind fun t243 => (awardingbodylaw19_StripSurvives.l0 k2 t232 t233 a3 t243 (wrap64 (x13_2 + 1)) t221 t242 t224 t225 t226 t227)) = some r := H
              have A24 := Aside0.mk A240
              clear A240
              replace H := Option.bind_eq_some_iff.mp H
              obtain ⟨t243, A250, H⟩ := H
              replace H : (awardingbodylaw19_StripSurvives.l0 k2 t232 t233 a3 t243 (wrap64 (x13_2 + 1)) t221 t242 t224 t225 t226 t227) = some r := H
              have A25 := Aside0.mk A250
              clear A250
              have H' := Aside0.mk H
              clear H
              go_wp2_with (first | ((with_reducible refine gate_callee (f := 15) rfl ?_); refine goesL_ (some 51) rfl rfl Tryd.func15 (by kernel_rfl) rfl #[.pointer (some ⟨g223, 0, none⟩), .int .i64 7] rfl (by (try simp only [List.map_toArray, List.map_cons, List.map_nil]); first | done | rfl | (simp only [List.length_drop, List.length_take]; rfl)) ?_; (with_reducible refine (awardingbodymake_Tape_Next.calls g223 t221 x224001_2 7 t234 t235 w _ ?side1 ?side2 A20.out).mono ?_); (case side1 => repeat (first | (with_reducible first | exact HI223.out | apply IsS57.alloc | apply IsS57.drewN | apply IsS57.drew | apply IsS57.set_1 | refine IsS57.far ?_ NB223_229.out _) | exact HI223.out)); (case side2 => repeat (first | (with_reducible first | exact HB.out | apply below_alloc | apply pw_below_drewN | apply below_drew1 | refine below_set ?_ (IsS57.ge HI223.out) | refine below_set ?_ GE229.out) | exact HB.out)); rintro e w26 ⟨rfl, hi, hb, hk⟩; refine ⟨_, rfl, ?_⟩; have n0_ := Aside0.mk (KeepBut.blk hk (g' := gb229) (o := .cells #[.int .i64 t224, .int .i64 t225, .int .i64 t226, .int .i64 t227] 29 (0, 0)) (by (with_reducible repeat (first | refine blk_drewN ?_ _ | refine blk_drew ?_ | refine blk_alloc ?_ _)); exact BK229.out) NB229_223.out (by simp)); have n1_ := Aside0.mk (hb); have n2_ := Aside0.mk (hi); clear BK229; clear HB; clear HI223; have BK229 := n0_; have HB := n1_; have HI223 := n2_; clear n0_ n1_ n2_; (try clear hb); (try clear hb2); (try clear hk); (try clear hi)) | ((with_reducible refine gate_callee (f := 15) rfl ?_); refine goesL_ (some 53) rfl rfl Tryd.func15 (by kernel_rfl) rfl #[.pointer (some ⟨g223, 0, none⟩), .int .i64 2] rfl (by (try simp only [List.map_toArray, List.map_cons, List.map_nil]); first | done | rfl | (simp only [List.length_drop, List.length_take]; rfl)) ?_; (with_reducible refine (awardingbodymake_Tape_Next.calls g223 t221 t235 2 t236 t237 w _ ?side1 ?side2 A21.out).mono ?_); (case side1 => repeat (first | (with_reducible first | exact HI223.out | apply IsS57.alloc | apply IsS57.drewN | apply IsS57.drew | apply IsS57.set_1 | refine IsS57.far ?_ NB223_229.out _) | exact HI223.out)); (case side2 => repeat (first | (with_reducible first | exact HB.out | apply below_alloc | apply pw_below_drewN | apply below_drew1 | refine below_set ?_ (IsS57.ge HI223.out) | refine below_set ?_ GE229.out) | exact HB.out)); rintro e w27 ⟨rfl, hi, hb, hk⟩; refine ⟨_, rfl, ?_⟩; have n0_ := Aside0.mk (KeepBut.blk hk (g' := gb229) (o := .cells #[.int .i64 t224, .int .i64 t225, .int .i64 t226, .int .i64 t227] 29 (0, 0)) (by (with_reducible repeat (first | refine blk_drewN ?_ _ | refine blk_drew ?_ | refine blk_alloc ?_ _)); exact BK229.out) NB229_223.out (by simp)); have n1_ := Aside0.mk (hb); have n2_ := Aside0.mk (hi); clear BK229; clear HB; clear HI223; have BK229 := n0_; have HB := n1_; have HI223 := n2_; clear n0_ n1_ n2_; (try clear hb); (try clear hb2); (try clear hk); (try clear hi)) | ((with_reducible refine gate_callee (f := 14) rfl ?_); refine goesL_ (some 54) rfl rfl Tryd.func14 (by kernel_rfl) rfl #[.string x11_2, .int .i64 t234, .int .i64 t236] rfl (by (try simp only [List.map_toArray, List.map_cons, List.map_nil]); first | done | rfl | (simp only [List.length_drop, List.length_take]; rfl)) ?_; (with_reducible refine (awardingbodymake_Change.calls x11_2 t234 t236 t238 _ A22.out).mono ?_); rintro e w' ⟨rfl, ⟨nd, rfl⟩⟩; refine ⟨_, rfl, ?_⟩) | ((with_reducible refine gate_callee (f := 15) rfl ?_); refine goesL_ (some 57) rfl rfl Tryd.func15 (by kernel_rfl) rfl #[.pointer (some ⟨g223, 0, none⟩), .int .i64 7] rfl (by (try simp only [List.map_toArray, List.map_cons, List.map_nil]); first | done | rfl | (simp only [List.length_drop, List.length_take]; rfl)) ?_; (with_reducible refine (awardingbodymake_Tape_Next.calls g223 t221 t237 7 t239 t240 w _ ?side1 ?side2 A23.out).mono ?_); (case side1 => repeat (first | (with_reducible first | exact HI223.out | apply IsS57.alloc | apply IsS57.drewN | apply IsS57.drew | apply IsS57.set_1 | refine IsS57.far ?_ NB223_229.out _) | exact HI223.out)); (case side2 => repeat (first | (with_reducible first | exact HB.out | apply below_alloc | apply pw_below_drewN | apply below_drew1 | refine below_set ?_ (IsS57.ge HI223.out) | refine below_set ?_ GE229.out) | exact HB.out)); rintro e w28 ⟨rfl, hi, hb, hk⟩; refine ⟨_, rfl, ?_⟩; have n0_ := Aside0.mk (KeepBut.blk hk (g' := gb229) (o := .cells #[.int .i64 t224, .int .i64 t225, .int .i64 t226, .int .i64 t227] 29 (0, 0)) (by (with_reducible repeat (first | refine blk_drewN ?_ _ | refine blk_drew ?_ | refine blk_alloc ?_ _)); exact BK229.out) NB229_223.out (by simp)); have n1_ := Aside0.mk (hb); have n2_ := Aside0.mk (hi); clear BK229; clear HB; clear HI223; have BK229 := n0_; have HB := n1_; have HI223 := n2_; clear n0_ n1_ n2_; (try clear hb); (try clear hb2); (try clear hk); (try clear hi)) | ((with_reducible refine gate_callee (f := 15) rfl ?_); refine goesL_ (some 60) rfl rfl Tryd.func15 (by kernel_rfl) rfl #[.pointer (some ⟨g223, 0, none⟩), .int .i64 2] rfl (by (try simp only [List.map_toArray, List.map_cons, List.map_nil]); first | done | rfl | (simp only [List.length_drop, List.length_take]; rfl)) ?_; (with_reducible refine (awardingbodymake_Tape_Next.calls g223 t221 t240 2 t241 t242 w _ ?side1 ?side2 A24.out).mono ?_); (case side1 => repeat (first | (with_reducible first | exact HI223.out | apply IsS57.alloc | apply IsS57.drewN | apply IsS57.drew | apply IsS57.set_1 | refine IsS57.far ?_ NB223_229.out _) | exact HI223.out)); (case side2 => repeat (first | (with_reducible first | exact HB.out | apply below_alloc | apply pw_below_drewN | apply below_drew1 | refine below_set ?_ (IsS57.ge HI223.out) | refine below_set ?_ GE229.out) | exact HB.out)); rintro e w29 ⟨rfl, hi, hb, hk⟩; refine ⟨_, rfl, ?_⟩; have n0_ := Aside0.mk (KeepBut.blk hk (g' := gb229) (o := .cells #[.int .i64 t224, .int .i64 t225, .int .i64 t226, .int .i64 t227] 29 (0, 0)) (by (with_reducible repeat (first | refine blk_drewN ?_ _ | refine blk_drew ?_ | refine blk_alloc ?_ _)); exact BK229.out) NB229_223.out (by simp)); have n1_ := Aside0.mk (hb); have n2_ := Aside0.mk (hi); clear BK229; clear HB; clear HI223; have BK229 := n0_; have HB := n1_; have HI223 := n2_; clear n0_ n1_ n2_; (try clear hb); (try clear hb2); (try clear hk); (try clear hi)) | ((with_reducible refine gate_callee (f := 14) rfl ?_); refine goesL_ (some 61) rfl rfl Tryd.func14 (by kernel_rfl) rfl #[.string t238, .int .i64 (wrap64 (67 + t239)), .int .i64 t241] rfl (by (try simp only [List.map_toArray, List.map_cons, List.map_nil]); first | done | rfl | (simp only [List.length_drop, List.length_take]; rfl)) ?_; (with_reducible refine (awardingbodymake_Change.calls t238 (wrap64 (67 + t239)) t241 t243 _ A25.out).mono ?_); rintro e w' ⟨rfl, ⟨nd, rfl⟩⟩; refine ⟨_, rfl, ?_⟩))
              go_roundg k2
              case measure => have := HJ7.out; have := HK2.out; omega
              case rel => exact ⟨(t243), (wrap64 (x13_2 + 1)), (t242), (by first | rfl | (simp; done) | (simp [*]; done)), (by first | rfl | (simp; done) | (simp [*]; done)), H', ⟨by have := HJ7.out; have := HK2.out; omega⟩, ⟨by (with_reducible repeat (first | refine blk_drewN ?_ _ | refine blk_drew ?_ | refine blk_alloc ?_ _)); exact BK229.out⟩, ⟨by repeat (first | (with_reducible first | exact HI223.out | apply IsS57.alloc | apply IsS57.drewN | apply IsS57.drew | apply IsS57.set_1 | refine IsS57.far ?_ NB223_229.out _) | exact HI223.out)⟩, ⟨by repeat (first | (with_reducible first | exact HB.out | apply below_alloc | apply pw_below_drewN | apply below_drew1 | refine below_set ?_ (IsS57.ge HI223.out) | refine below_set ?_ GE229.out) | exact HB.out)⟩⟩
            · rw [if_neg c19] at H
              have c19b0 : decide (x13_2 < 3) = false := decide_eq_false c19
              clear c19
              replace H := Option.bind_eq_some_iff.mp H
              obtain ⟨⟨t244, t247⟩, A300, H⟩ := H
              replace H : (awardingbodylaw19_StripSurvives.l1 k2 t232 t233 a3 x11_2 t244 0 t221 t247 t224 t225 t226 t227) = some r := H
              have A30 := Aside0.mk A300
              clear A300
              have H' := Aside0.mk H
              clear H
              go_wp2_with (first | ((with_reducible refine gate_callee (f := 16) rfl ?_); refine goesL_ (some 63) rfl rfl Tryd.func16 (by kernel_rfl) rfl #[.pointer (some ⟨g223, 0, none⟩), .int .i64 12] rfl (by (try simp only [List.map_toArray, List.map_cons, List.map_nil]); first | done | rfl | (simp only [List.length_drop, List.length_take]; rfl)) ?_; (with_reducible refine (awardingbodymake_Tape_Order.calls k2 g223 t221 x224001_2 12 t244 t247 w _ ?side1 ?side2 A30.out).mono ?_); (case side1 => repeat (first | (with_reducible first | exact HI223.out | apply IsS57.alloc | apply IsS57.drewN | apply IsS57.drew | apply IsS57.set_1 | refine IsS57.far ?_ NB223_229.out _) | exact HI223.out)); (case side2 => repeat (first | (with_reducible first | exact HB.out | apply below_alloc | apply pw_below_drewN | apply below_drew1 | refine below_set ?_ (IsS57.ge HI223.out) | refine below_set ?_ GE229.out) | exact HB.out)); rintro e w31 ⟨v245, rfl, ho0, hi, hb, hk⟩; refine ⟨_, rfl, ?_⟩; have n0_ := Aside0.mk (KeepBut.blk hk (g' := gb229) (o := .cells #[.int .i64 t224, .int .i64 t225, .int .i64 t226, .int .i64 t227] 29 (0, 0)) (by (with_reducible repeat (first | refine blk_drewN ?_ _ | refine blk_drew ?_ | refine blk_alloc ?_ _)); exact BK229.out) NB229_223.out (by simp)); have n1_ := Aside0.mk (Kd.R_lower ho0 (below_size (by repeat (first | (with_reducible first | exact HB.out | apply below_alloc | apply pw_below_drewN | apply below_drew1 | refine below_set ?_ (IsS57.ge HI223.out) | refine below_set ?_ GE229.out) | exact HB.out)))); have n2_ := Aside0.mk (hb); have n3_ := Aside0.mk (hi); clear BK229; clear HB; clear HI223; have BK229 := n0_; have HO246 := n1_; have HB := n2_; have HI223 := n3_; clear n0_ n1_ n2_ n3_; (try clear hb); (try clear hb2); (try clear hk); (try clear hi); (try clear ho0)))
              go_loopg [11, 15] k2 (fun kq v11 v15 w' => ∃ (x11_3 : ByteArray) (x15_3 : Int) (x224001_3 : Int), v11 = .string x11_3 ∧ v15 = .int .i64 x15_3 ∧ Aside0 (awardingbodylaw19_StripSurvives.l1 kq t232 t233 a3 x11_3 t244 x15_3 t221 x224001_3 t224 t225 t226 t227 = some r) ∧ Aside0 (kq ≤ k2) ∧ Aside0 (Kd.R (Kd.int .i64) 3 w' w.heap.size (fun _ => True) v245 t244) ∧ Aside0 (w'.heap[gb229]? = some (.cells #[.int .i64 t224, .int .i64 t225, .int .i64 t226, .int .i64 t227] 29 (0, 0))) ∧ Aside0 (IsS57 w w' g223 t221 x224001_3) ∧ Aside0 (Below w.heap.size w w'))
              case atStart => exact ⟨(x11_2), (0), (t247), (by first | rfl | (simp; done) | (simp [*]; done)), (by first | rfl | (simp; done) | (simp [*]; done)), H', ⟨Nat.le_refl _⟩, ⟨by (with_reducible repeat (first | apply Kd.R_alloc | apply Kd.R_drewN | apply Kd.R_drew)); exact HO246.out⟩, ⟨by (with_reducible repeat (first | refine blk_drewN ?_ _ | refine blk_drew ?_ | refine blk_alloc ?_ _)); exact BK229.out⟩, ⟨by repeat (first | (with_reducible first | exact HI223.out | apply IsS57.alloc | apply IsS57.drewN | apply IsS57.drew | apply IsS57.set_1 | refine IsS57.far ?_ NB223_229.out _) | exact HI223.out)⟩, ⟨by repeat (first | (with_reducible first | exact HB.out | apply below_alloc | apply pw_below_drewN | apply below_drew1 | refine below_set ?_ (IsS57.ge HI223.out) | refine below_set ?_ GE229.out) | exact HB.out)⟩⟩
              case round =>
                clear H'
                try clear c1
                try clear p2
                try clear c4
                try clear c6
                try clear p6
                try clear c11
                try clear c12
                try clear c13
                try clear c14
                try clear c15
                try clear c15b0
                try clear c15b1
                try clear c16
                try clear c19
                try clear c19b0
                try clear hcz13_0
                try clear hcz13_1
                try clear hcz13_2
                try clear hcz13_3
                try clear hfz13_0
                try clear hfz13_1
                try clear hfz13_2
                try clear hfz13_3
                try clear p2
                try clear p6
                obtain ⟨x11_3, x15_3, x224001_3, rfl, rfl, HA, HK3, HO_14, BK229, HI223, HB⟩ := hrel
                cases gk with
                | zero => exact absurd HA.out (by simp [awardingbodylaw19_StripSurvives.l1])
                | succ k3 =>
                  have H := HA.out
                  clear HA
                  simp only [awardingbodylaw19_StripSurvives.l1] at H
                  by_cases c32 : x15_3 < (wrap64 (t232 + t233))
                  · rw [if_pos c32] at H
                    have c32b0 : decide (x15_3 < (wrap64 (t232 + t233))) = true := decide_eq_true c32
                    clear c32
                    by_cases c33 : 0 ≤ x15_3
                    · rw [if_pos c33] at H
                      have c33b0 : decide (0 ≤ x15_3) = true := decide_eq_true c33
                      clear c33
                      by_cases c34 : x15_3 < (t244.length : Int)
                      · rw [if_pos c34] at H
                        have c34b0 : decide (x15_3 < (t244.length : Int)) = true := decide_eq_true c34
                        clear c34
                        replace H := Option.bind_eq_some_iff.mp H
                        obtain ⟨⟨t249, t250⟩, A350, H⟩ := H
                        replace H : (awardingbodylaw19_StripSurvives.l2 k3 t232 t233 a3 x11_3 t244 x15_3 (wrap64 (7 + (wrap64 (5 * (rd t244 x15_3))))) t249 0 t221 t250 t224 t225 t226 t227) = some r := H
                        have A35 := Aside0.mk A350
                        clear A350
                        have H' := Aside0.mk H
                        clear H
                        obtain ⟨Ao36, co36, eo36⟩ := Kd.R_slice HO_14.out
                        subst eo36
                        have p248 : 0 ≤ (x15_3 : Int) := of_decide_eq_true (by first | (with_reducible assumption) | assumption)
                        have q248 : x15_3 < (t244.length : Int) := of_decide_eq_true (by first | (with_reducible assumption) | assumption)
                        obtain ⟨ad248, e248, hx248_0⟩ := Kd.at_int (Kd.R_reads' HO_14.out).2.2 x15_3 p248 q248
                        cases e248
                        replace p248 := eq_true p248
                        replace q248 := eq_true q248
                        go_wp2_with (first | ((with_reducible refine gate_callee (f := 15) rfl ?_); refine goesL_ (some 78) rfl rfl Tryd.func15 (by kernel_rfl) rfl #[.pointer (some ⟨g223, 0, none⟩), .int .i64 5] rfl (by (try simp only [List.map_toArray, List.map_cons, List.map_nil]); first | done | rfl | (simp only [List.length_drop, List.length_take]; rfl)) ?_; (with_reducible refine (awardingbodymake_Tape_Next.calls g223 t221 x224001_3 5 t249 t250 w _ ?side1 ?side2 A35.out).mono ?_); (case side1 => repeat (first | (with_reducible first | exact HI223.out | apply IsS57.alloc | apply IsS57.drewN | apply IsS57.drew | apply IsS57.set_1 | refine IsS57.far ?_ NB223_229.out _) | exact HI223.out)); (case side2 => repeat (first | (with_reducible first | exact HB.out | apply below_alloc | apply pw_below_drewN | apply below_drew1 | refine below_set ?_ (IsS57.ge HI223.out) | refine below_set ?_ GE229.out) | exact HB.out)); rintro e w37 ⟨rfl, hi, hb, hk⟩; refine ⟨_, rfl, ?_⟩; have n0_ := Aside0.mk (Kd.R_mono (Kd.R_keep (IsS57.apart (show IsS57 w _ g223 t221 x224001_3 from by repeat (first | (with_reducible first | exact HI223.out | apply IsS57.alloc | apply IsS57.drewN | apply IsS57.drew | apply IsS57.set_1 | refine IsS57.far ?_ NB223_229.out _) | exact HI223.out)) (by (with_reducible repeat (first | apply Kd.R_alloc | apply Kd.R_drewN | apply Kd.R_drew)); exact HO_14.out) (by decide)) hk (fun _ h => h.2)) (fun _ h => h.1)); have n1_ := Aside0.mk (KeepBut.blk hk (g' := gb229) (o := .cells #[.int .i64 t224, .int .i64 t225, .int .i64 t226, .int .i64 t227] 29 (0, 0)) (by (with_reducible repeat (first | refine blk_drewN ?_ _ | refine blk_drew ?_ | refine blk_alloc ?_ _)); exact BK229.out) NB229_223.out (by simp)); have n2_ := Aside0.mk (hb); have n3_ := Aside0.mk (hi); clear HO_14; clear BK229; clear HB; clear HI223; have HO_14 := n0_; have BK229 := n1_; have HB := n2_; have HI223 := n3_; clear n0_ n1_ n2_ n3_; (try clear hb); (try clear hb2); (try clear hk); (try clear hi)))
                        go_loopg [11, 18] k3 (fun kq v11 v18 w' => ∃ (x11_4 : ByteArray) (x18_4 : Int) (x224001_4 : Int), v11 = .string x11_4 ∧ v18 = .int .i64 x18_4 ∧ Aside0 (awardingbodylaw19_StripSurvives.l2 kq t232 t233 a3 x11_4 t244 x15_3 (wrap64 (7 + (wrap64 (5 * (rd t244 x15_3))))) t249 x18_4 t221 x224001_4 t224 t225 t226 t227 = some r) ∧ Aside0 (kq ≤ k3) ∧ Aside0 (Kd.R (Kd.int .i64) 3 w' w.heap.size (fun _ => True) (.slice (some ad248) t244.length co36) t244) ∧ Aside0 (w'.heap[gb229]? = some (.cells #[.int .i64 t224, .int .i64 t225, .int .i64 t226, .int .i64 t227] 29 (0, 0))) ∧ Aside0 (IsS57 w w' g223 t221 x224001_4) ∧ Aside0 (Below w.heap.size w w'))
                        case atStart => exact ⟨(x11_3), (0), (t250), (by first | rfl | (simp; done) | (simp [*]; done)), (by first | rfl | (simp; done) | (simp [*]; done)), H', ⟨Nat.le_refl _⟩, ⟨by (with_reducible repeat (first | apply Kd.R_alloc | apply Kd.R_drewN | apply Kd.R_drew)); exact HO_14.out⟩, ⟨by (with_reducible repeat (first | refine blk_drewN ?_ _ | refine blk_drew ?_ | refine blk_alloc ?_ _)); exact BK229.out⟩, ⟨by repeat (first | (with_reducible first | exact HI223.out | apply IsS57.alloc | apply IsS57.drewN | apply IsS57.drew | apply IsS57.set_1 | refine IsS57.far ?_ NB223_229.out _) | exact HI223.out)⟩, ⟨by repeat (first | (with_reducible first | exact HB.out | apply below_alloc | apply pw_below_drewN | apply below_drew1 | refine below_set ?_ (IsS57.ge HI223.out) | refine below_set ?_ GE229.out) | exact HB.out)⟩⟩
                        case round =>
                          clear H'
                          try clear c1
                          try clear p2
                          try clear q2
                          try clear hx2
                          try clear c3
                          try clear c4
                          try clear c6
                          try clear p6
                          try clear c11
                          try clear c12
                          try clear c13
                          try clear c14
                          try clear c15
                          try clear c15b0
                          try clear c15b1
                          try clear c16
                          try clear c19
                          try clear c19b0
                          try clear p24
                          try clear q24
                          try clear hx24
                          try clear c32
                          try clear c32b0
                          try clear c33
                          try clear c33b0
                          try clear c34
                          try clear c34b0
                          try clear hcz13_0
                          try clear hcz13_1
                          try clear hcz13_2
                          try clear hcz13_3
                          try clear hfz13_0
                          try clear hfz13_1
                          try clear hfz13_2
                          try clear hfz13_3
                          try clear hx248_0
                          try clear p2
                          try clear p248
                          try clear p6
                          try clear q248
                          obtain ⟨x11_4, x18_4, x224001_4, rfl, rfl, HA, HK4, HO_14, BK229, HI223, HB⟩ := hrel
                          cases gk with
                          | zero => exact absurd HA.out (by simp [awardingbodylaw19_StripSurvives.l2])
                          | succ k4 =>
                            have H := HA.out
                            clear HA
                            simp only [awardingbodylaw19_StripSurvives.l2] at H
                            by_cases c38 : x18_4 < 5
                            · rw [if_pos c38] at H
                              have c38b0 : decide (x18_4 < 5) = true := decide_eq_true c38
                              clear c38
                              have HC39 := Aside0.mk H
                              clear H
                              go_upto_region 22 with (fail)
                              go_cut [90] (fun v90 wc => ∃ (kq : Nat) (x90_38 : Bool) (x224001_38 : Int), v90 = .bool x90_38 ∧ Aside0 (awardingbodylaw19_StripSurvives.j4 kq t232 t233 a3 x11_4 t244 x15_3 (wrap64 (7 + (wrap64 (5 * (rd t244 x15_3))))) t249 x18_4 x90_38 t221 x224001_38 t224 t225 t226 t227 = some r) ∧ Aside0 (kq ≤ k4) ∧ Aside0 (Kd.R (Kd.int .i64) 3 wc w.heap.size (fun _ => True) (.slice (some ad248) t244.length co36) t244) ∧ Aside0 (wc.heap[gb229]? = some (.cells #[.int .i64 t224, .int .i64 t225, .int .i64 t226, .int .i64 t227] 29 (0, 0))) ∧ Aside0 (IsS57 w wc g223 t221 x224001_38) ∧ Aside0 (Below w.heap.size w wc))
                              case first =>
                                have H := HC39.out
                                clear HC39
                                by_cases c40 : x18_4 = t249
                                · rw [if_pos c40] at H
                                  have c40b0 : (x18_4 == t249) = true := beq_iff_eq.mpr c40
                                  have c40b1 : (x18_4 != t249) = false := bne_eq_false_iff_eq.mpr c40
                                  clear c40
                                  (first | rw [c40b0] | (simp only [i64_w, i32_w]; rw [c40b0]) | skip)
                                  have H' := Aside0.mk H
                                  clear H
                                  go_wp2
                                  go_meet
                                  case rel => exact ⟨_, (false), (x224001_4), (by first | rfl | (simp; done) | (simp [*]; done)), H', ⟨by have := HJ7.out; have := HK2.out; have := HK3.out; have := HK4.out; first | omega | exact Nat.le_refl _⟩, ⟨by (with_reducible repeat (first | apply Kd.R_alloc | apply Kd.R_drewN | apply Kd.R_drew)); exact HO_14.out⟩, ⟨by (with_reducible repeat (first | refine blk_drewN ?_ _ | refine blk_drew ?_ | refine blk_alloc ?_ _)); exact BK229.out⟩, ⟨by repeat (first | (with_reducible first | exact HI223.out | apply IsS57.alloc | apply IsS57.drewN | apply IsS57.drew | apply IsS57.set_1 | refine IsS57.far ?_ NB223_229.out _) | exact HI223.out)⟩, ⟨by repeat (first | (with_reducible first | exact HB.out | apply below_alloc | apply pw_below_drewN | apply below_drew1 | refine below_set ?_ (IsS57.ge HI223.out) | refine below_set ?_ GE229.out) | exact HB.out)⟩⟩
                                · rw [if_neg c40] at H
                                  have c40b0 : (x18_4 == t249) = false := beq_eq_false_iff_ne.mpr c40
                                  have c40b1 : (x18_4 != t249) = true := bne_iff_ne.mpr c40
                                  (first | rw [c40b0] | (simp only [i64_w, i32_w]; rw [c40b0]) | skip)
                                  replace H := Option.bind_eq_some_iff.mp H
                                  obtain ⟨⟨t251, t252⟩, A410, H⟩ := H
                                  replace H : (awardingbodylaw19_StripSurvives.j4 k4 t232 t233 a3 x11_4 t244 x15_3 (wrap64 (7 + (wrap64 (5 * (rd t244 x15_3))))) t249 x18_4 (t251 == 0) t221 t252 t224 t225 t226 t227) = some r := H
                                  have A41 := Aside0.mk A410
                                  clear A410
                                  have H' := Aside0.mk H
                                  clear H
                                  go_wp2_with (first | (go_at_call 15; (with_reducible refine (awardingbodymake_Tape_Next.calls g223 t221 x224001_4 2 t251 t252 w _ ?side1 ?side2 A41.out).mono ?_); (case side1 => repeat (first | (with_reducible first | exact HI223.out | apply IsS57.alloc | apply IsS57.drewN | apply IsS57.drew | apply IsS57.set_1 | refine IsS57.far ?_ NB223_229.out _) | exact HI223.out)); (case side2 => repeat (first | (with_reducible first | exact HB.out | apply below_alloc | apply pw_below_drewN | apply below_drew1 | refine below_set ?_ (IsS57.ge HI223.out) | refine below_set ?_ GE229.out) | exact HB.out)); rintro e w42 ⟨rfl, hi, hb, hk⟩; have n0_ := Aside0.mk (Kd.R_mono (Kd.R_keep (IsS57.apart (show IsS57 w _ g223 t221 x224001_4 from by repeat (first | (with_reducible first | exact HI223.out | apply IsS57.alloc | apply IsS57.drewN | apply IsS57.drew | apply IsS57.set_1 | refine IsS57.far ?_ NB223_229.out _) | exact HI223.out)) (by (with_reducible repeat (first | apply Kd.R_alloc | apply Kd.R_drewN | apply Kd.R_drew)); exact HO_14.out) (by decide)) hk (fun _ h => h.2)) (fun _ h => h.1)); have n1_ := Aside0.mk (KeepBut.blk hk (g' := gb229) (o := .cells #[.int .i64 t224, .int .i64 t225, .int .i64 t226, .int .i64 t227] 29 (0, 0)) (by (with_reducible repeat (first | refine blk_drewN ?_ _ | refine blk_drew ?_ | refine blk_alloc ?_ _)); exact BK229.out) NB229_223.out (by simp)); have n2_ := Aside0.mk (hb); have n3_ := Aside0.mk (hi); clear HO_14; clear BK229; clear HB; clear HI223; have HO_14 := n0_; have BK229 := n1_; have HB := n2_; have HI223 := n3_; clear n0_ n1_ n2_ n3_; (try clear hb); (try clear hb2); (try clear hk); (try clear hi)))
                                  go_meet
                                  case rel => exact ⟨_, ((t251 == 0)), (t252), (by first | rfl | (simp; done) | (simp [*]; done)), H', ⟨by have := HJ7.out; have := HK2.out; have := HK3.out; have := HK4.out; first | omega | exact Nat.le_refl _⟩, ⟨by (with_reducible repeat (first | apply Kd.R_alloc | apply Kd.R_drewN | apply Kd.R_drew)); exact HO_14.out⟩, ⟨by (with_reducible repeat (first | refine blk_drewN ?_ _ | refine blk_drew ?_ | refine blk_alloc ?_ _)); exact BK229.out⟩, ⟨by repeat (first | (with_reducible first | exact HI223.out | apply IsS57.alloc | apply IsS57.drewN | apply IsS57.drew | apply IsS57.set_1 | refine IsS57.far ?_ NB223_229.out _) | exact HI223.out)⟩, ⟨by repeat (first | (with_reducible first | exact HB.out | apply below_alloc | apply pw_below_drewN | apply below_drew1 | refine below_set ?_ (IsS57.ge HI223.out) | refine below_set ?_ GE229.out) | exact HB.out)⟩⟩
                              case rest =>
                                clear HC39
                                try clear c1
                                try clear p2
                                try clear q2
                                try clear hx2
                                try clear c3
                                try clear c4
                                try clear c6
                                try clear p6
                                try clear c11
                                try clear c12
                                try clear c13
                                try clear c14
                                try clear c15
                                try clear c15b0
                                try clear c15b1
                                try clear c16
                                try clear c19
                                try clear c19b0
                                try clear p24
                                try clear q24
                                try clear hx24
                                try clear c32
                                try clear c32b0
                                try clear c33
                                try clear c33b0
                                try clear c34
                                try clear c34b0
                                try clear c38
                                try clear c38b0
                                try clear c40
                                try clear c40b0
                                try clear c40b1
                                try clear hcz13_0
                                try clear hcz13_1
                                try clear hcz13_2
                                try clear hcz13_3
                                try clear hfz13_0
                                try clear hfz13_1
                                try clear hfz13_2
                                try clear hfz13_3
                                try clear hx248_0
                                try clear p2
                                try clear p24
                                try clear p248
                                try clear p6
                                try clear q2
                                try clear q24
                                try clear q248
                                obtain ⟨kq, x90_38, x224001_38, rfl, HA, HJ38, HO_14, BK229, HI223, HB⟩ := hcut
                                cases kq with
                                | zero => exact absurd HA.out (by simp [awardingbodylaw19_StripSurvives.j4])
                                | succ kj38 =>
                                  have H := HA.out
                                  clear HA
                                  simp only [awardingbodylaw19_StripSurvives.j4] at H
                                  by_cases c43 : x90_38 = true
                                  · subst c43
                                    have H1 : (awardingbodylaw19_StripSurvives.l2 kj38 t232 t233 a3 x11_4 t244 x15_3 (wrap64 (7 + (wrap64 (5 * (rd t244 x15_3))))) t249 (wrap64 (x18_4 + 1)) t221 x224001_38 t224 t225 t226 t227) = some r := by rw [if_pos rfl] at H; exact H
                                    clear H
                                    have H := H1
                                    clear H1
                                    have H' := Aside0.mk H
                                    clear H
                                    go_wp2
                                    go_roundg kj38
                                    case measure => have := HJ7.out; have := HK2.out; have := HK3.out; have := HK4.out; have := HJ38.out; omega
                                    case rel => exact ⟨(x11_4), (wrap64 (x18_4 + 1)), (x224001_38), (by first | rfl | (simp; done) | (simp [*]; done)), (by first | rfl | (simp; done) | (simp [*]; done)), H', ⟨by have := HJ7.out; have := HK2.out; have := HK3.out; have := HK4.out; have := HJ38.out; omega⟩, ⟨by (with_reducible repeat (first | apply Kd.R_alloc | apply Kd.R_drewN | apply Kd.R_drew)); exact HO_14.out⟩, ⟨by (with_reducible repeat (first | refine blk_drewN ?_ _ | refine blk_drew ?_ | refine blk_alloc ?_ _)); exact BK229.out⟩, ⟨by repeat (first | (with_reducible first | exact HI223.out | apply IsS57.alloc | apply IsS57.drewN | apply IsS57.drew | apply IsS57.set_1 | refine IsS57.far ?_ NB223_229.out _) | exact HI223.out)⟩, ⟨by repeat (first | (with_reducible first | exact HB.out | apply below_alloc | apply pw_below_drewN | apply below_drew1 | refine below_set ?_ (IsS57.ge HI223.out) | refine below_set ?_ GE229.out) | exact HB.out)⟩⟩
                                  · replace c43 := Bool.eq_false_iff.mpr c43
                                    subst c43
                                    have H1 : (if x15_3 < t232 then ((awardingbodymake_Change.f x11_4 (wrap64 ((wrap64 (7 + (wrap64 (5 * (rd t244 x15_3))))) + x18_4)) 0).bind fun t253 => (awardingbodylaw19_StripSurvives.l2 kj38 t232 t233 a3 t253 t244 x15_3 (wrap64 (7 + (wrap64 (5 * (rd t244 x15_3))))) t249 (wrap64 (x18_4 + 1)) t221 x224001_38 t224 t225 t226 t227)) else ((awardingbodymake_Change.f x11_4 (wrap64 ((wrap64 (7 + (wrap64 (5 * (rd t244 x15_3))))) + x18_4)) 1).bind fun t254 => (awardingbodylaw19_StripSurvives.l2 kj38 t232 t233 a3 t254 t244 x15_3 (wrap64 (7 + (wrap64 (5 * (rd t244 x15_3))))) t249 (wrap64 (x18_4 + 1)) t221 x224001_38 t224 t225 t226 t227))) = some r := by rw [if_neg (show ¬ (false = true) by decide)] at H; exact H
                                    clear H
                                    have H := H1
                                    clear H1
                                    by_cases c44 : x15_3 < t232
                                    · rw [if_pos c44] at H
                                      have c44b0 : decide (x15_3 < t232) = true := decide_eq_true c44
                                      clear c44
                                      replace H := Option.bind_eq_some_iff.mp H
                                      obtain ⟨t253, A450, H⟩ := H
                                      replace H : (awardingbodylaw19_StripSurvives.l2 kj38 t232 t233 a3 t253 t244 x15_3 (wrap64 (7 + (wrap64 (5 * (rd t244 x15_3))))) t249 (wrap64 (x18_4 + 1)) t221 x224001_38 t224 t225 t226 t227) = some r := H
                                      have A45 := Aside0.mk A450
                                      clear A450
                                      have H' := Aside0.mk H
                                      clear H
                                      go_wp2_with (first | ((with_reducible refine gate_callee (f := 14) rfl ?_); refine goesL_ (some 98) rfl rfl Tryd.func14 (by kernel_rfl) rfl #[.string x11_4, .int .i64 (wrap64 ((wrap64 (7 + (wrap64 (5 * (rd t244 x15_3))))) + x18_4)), .int .i64 0] rfl (by (try simp only [List.map_toArray, List.map_cons, List.map_nil]); first | done | rfl | (simp only [List.length_drop, List.length_take]; rfl)) ?_; (with_reducible refine (awardingbodymake_Change.calls x11_4 (wrap64 ((wrap64 (7 + (wrap64 (5 * (rd t244 x15_3))))) + x18_4)) 0 t253 _ A45.out).mono ?_); rintro e w' ⟨rfl, ⟨nd, rfl⟩⟩; refine ⟨_, rfl, ?_⟩))
                                      go_roundg kj38
                                      case measure => have := HJ7.out; have := HK2.out; have := HK3.out; have := HK4.out; have := HJ38.out; omega
                                      case rel => exact ⟨(t253), (wrap64 (x18_4 + 1)), (x224001_38), (by first | rfl | (simp; done) | (simp [*]; done)), (by first | rfl | (simp; done) | (simp [*]; done)), H', ⟨by have := HJ7.out; have := HK2.out; have := HK3.out; have := HK4.out; have := HJ38.out; omega⟩, ⟨by (with_reducible repeat (first | apply Kd.R_alloc | apply Kd.R_drewN | apply Kd.R_drew)); exact HO_14.out⟩, ⟨by (with_reducible repeat (first | refine blk_drewN ?_ _ | refine blk_drew ?_ | refine blk_alloc ?_ _)); exact BK229.out⟩, ⟨by repeat (first | (with_reducible first | exact HI223.out | apply IsS57.alloc | apply IsS57.drewN | apply IsS57.drew | apply IsS57.set_1 | refine IsS57.far ?_ NB223_229.out _) | exact HI223.out)⟩, ⟨by repeat (first | (with_reducible first | exact HB.out | apply below_alloc | apply pw_below_drewN | apply below_drew1 | refine below_set ?_ (IsS57.ge HI223.out) | refine below_set ?_ GE229.out) | exact HB.out)⟩⟩
                                    · rw [if_neg c44] at H
                                      have c44b0 : decide (x15_3 < t232) = false := decide_eq_false c44
                                      clear c44
                                      replace H := Option.bind_eq_some_iff.mp H
                                      obtain ⟨t254, A460, H⟩ := H
                                      replace H : (awardingbodylaw19_StripSurvives.l2 kj38 t232 t233 a3 t254 t244 x15_3 (wrap64 (7 + (wrap64 (5 * (rd t244 x15_3))))) t249 (wrap64 (x18_4 + 1)) t221 x224001_38 t224 t225 t226 t227) = some r := H
                                      have A46 := Aside0.mk A460
                                      clear A460
                                      have H' := Aside0.mk H
                                      clear H
                                      go_wp2_with (first | ((with_reducible refine gate_callee (f := 14) rfl ?_); refine goesL_ (some 103) rfl rfl Tryd.func14 (by kernel_rfl) rfl #[.string x11_4, .int .i64 (wrap64 ((wrap64 (7 + (wrap64 (5 * (rd t244 x15_3))))) + x18_4)), .int .i64 1] rfl (by (try simp only [List.map_toArray, List.map_cons, List.map_nil]); first | done | rfl | (simp only [List.length_drop, List.length_take]; rfl)) ?_; (with_reducible refine (awardingbodymake_Change.calls x11_4 (wrap64 ((wrap64 (7 + (wrap64 (5 * (rd t244 x15_3))))) + x18_4)) 1 t254 _ A46.out).mono ?_); rintro e w' ⟨rfl, ⟨nd, rfl⟩⟩; refine ⟨_, rfl, ?_⟩))
                                      go_roundg kj38
                                      case measure => have := HJ7.out; have := HK2.out; have := HK3.out; have := HK4.out; have := HJ38.out; omega
                                      case rel => exact ⟨(t254), (wrap64 (x18_4 + 1)), (x224001_38), (by first | rfl | (simp; done) | (simp [*]; done)), (by first | rfl | (simp; done) | (simp [*]; done)), H', ⟨by have := HJ7.out; have := HK2.out; have := HK3.out; have := HK4.out; have := HJ38.out; omega⟩, ⟨by (with_reducible repeat (first | apply Kd.R_alloc | apply Kd.R_drewN | apply Kd.R_drew)); exact HO_14.out⟩, ⟨by (with_reducible repeat (first | refine blk_drewN ?_ _ | refine blk_drew ?_ | refine blk_alloc ?_ _)); exact BK229.out⟩, ⟨by repeat (first | (with_reducible first | exact HI223.out | apply IsS57.alloc | apply IsS57.drewN | apply IsS57.drew | apply IsS57.set_1 | refine IsS57.far ?_ NB223_229.out _) | exact HI223.out)⟩, ⟨by repeat (first | (with_reducible first | exact HB.out | apply below_alloc | apply pw_below_drewN | apply below_drew1 | refine below_set ?_ (IsS57.ge HI223.out) | refine below_set ?_ GE229.out) | exact HB.out)⟩⟩
                            · rw [if_neg c38] at H
                              have c38b0 : decide (x18_4 < 5) = false := decide_eq_false c38
                              clear c38
                              have H' := Aside0.mk H
                              clear H
                              go_wp2
                              go_roundg k4
                              case measure => have := HJ7.out; have := HK2.out; have := HK3.out; have := HK4.out; omega
                              case rel => exact ⟨(x11_4), (wrap64 (x15_3 + 1)), (x224001_4), (by first | rfl | (simp; done) | (simp [*]; done)), (by first | rfl | (simp; done) | (simp [*]; done)), H', ⟨by have := HJ7.out; have := HK2.out; have := HK3.out; have := HK4.out; omega⟩, ⟨by (with_reducible repeat (first | apply Kd.R_alloc | apply Kd.R_drewN | apply Kd.R_drew)); exact HO_14.out⟩, ⟨by (with_reducible repeat (first | refine blk_drewN ?_ _ | refine blk_drew ?_ | refine blk_alloc ?_ _)); exact BK229.out⟩, ⟨by repeat (first | (with_reducible first | exact HI223.out | apply IsS57.alloc | apply IsS57.drewN | apply IsS57.drew | apply IsS57.set_1 | refine IsS57.far ?_ NB223_229.out _) | exact HI223.out)⟩, ⟨by repeat (first | (with_reducible first | exact HB.out | apply below_alloc | apply pw_below_drewN | apply below_drew1 | refine below_set ?_ (IsS57.ge HI223.out) | refine below_set ?_ GE229.out) | exact HB.out)⟩⟩
                      · rw [if_neg c34] at H
                        exact absurd H (by simp)
                    · rw [if_neg c33] at H
                      exact absurd H (by simp)
                  · rw [if_neg c32] at H
                    have c32b0 : decide (x15_3 < (wrap64 (t232 + t233))) = false := decide_eq_false c32
                    clear c32
                    by_cases c47 : a3 = true
                    · subst c47
                      have H1 : ((strip_Flip.f x11_3).bind fun t255 => ((strip_Read.f t255).bind fun bt256 => (if bt256.2.2.2.2.2 = 0 then (if (bt256.1 == t224 && (bt256.2.1 == t225 && (bt256.2.2.1 == t226 && (bt256.2.2.2.1 == t227)))) = true then (if bt256.2.2.2.2.1 = t232 then ((awardingbodylaw19_awake.f).bind fun t263 => (some t263)) else (some false)) else (some false)) else (some false)))) = some r := by rw [if_pos rfl] at H; exact H
                      clear H
                      have H := H1
                      clear H1
                      replace H := Option.bind_eq_some_iff.mp H
                      obtain ⟨t255, A480, H⟩ := H
                      replace H : ((strip_Read.f t255).bind fun bt256 => (if bt256.2.2.2.2.2 = 0 then (if (bt256.1 == t224 && (bt256.2.1 == t225 && (bt256.2.2.1 == t226 && (bt256.2.2.2.1 == t227)))) = true then (if bt256.2.2.2.2.1 = t232 then ((awardingbodylaw19_awake.f).bind fun t263 => (some t263)) else (some false)) else (some false)) else (some false))) = some r := H
                      have A48 := Aside0.mk A480
                      clear A480
                      replace H := Option.bind_eq_some_iff.mp H
                      obtain ⟨⟨t256, t257, t258, t259, t260, t261⟩, A490, H⟩ := H
                      replace H : (if t261 = 0 then (if (t256 == t224 && (t257 == t225 && (t258 == t226 && (t259 == t227)))) = true then (if t260 = t232 then ((awardingbodylaw19_awake.f).bind fun t263 => (some t263)) else (some false)) else (some false)) else (some false)) = some r := H
                      have A49 := Aside0.mk A490
                      clear A490
                      by_cases c50 : t261 = 0
                      · rw [if_pos c50] at H
                        have c50b0 : (t261 == 0) = true := beq_iff_eq.mpr c50
                        have c50b1 : (t261 != 0) = false := bne_eq_false_iff_eq.mpr c50
                        clear c50
                        by_cases c51 : (t256 == t224 && (t257 == t225 && (t258 == t226 && (t259 == t227)))) = true
                        · rw [if_pos c51] at H
                          have c51b0 : (t256 == t224 && (t257 == t225 && (t258 == t226 && (t259 == t227)))) = true := c51
                          (try (have c51b1 : decide (t256 = t224 && (t257 == t225 && (t258 == t226 && (t259 == t227)))) = true := by simpa using c51))
                          (try (have c51b2 : (t256 == t224 && (t257 == t225 && (t258 == t226 && (t259 == t227)))) = true := by simpa using c51))
                          clear c51
                          by_cases c52 : t260 = t232
                          · rw [if_pos c52] at H
                            have c52b0 : (t260 == t232) = true := beq_iff_eq.mpr c52
                            have c52b1 : (t260 != t232) = false := bne_eq_false_iff_eq.mpr c52
                            clear c52
                            replace H := Option.bind_eq_some_iff.mp H
                            obtain ⟨t263, A530, H⟩ := H
                            replace H : (some t263) = some r := H
                            have A53 := Aside0.mk A530
                            clear A530
                            obtain rfl := Option.some.inj H
                            go_wp2_with (first | ((with_reducible refine gate_callee (f := 17) rfl ?_); refine goesL_ (some 106) rfl rfl Tryd.func17 (by kernel_rfl) rfl #[.string x11_3] rfl (by (try simp only [List.map_toArray, List.map_cons, List.map_nil]); first | done | rfl | (simp only [List.length_drop, List.length_take]; rfl)) ?_; (with_reducible refine (strip_Flip.calls x11_3 t255 _ A48.out).mono ?_); rintro e w54 ⟨rfl, hb⟩; refine ⟨_, rfl, ?_⟩; have n0_ := Aside0.mk (Kd.R_below (by (with_reducible repeat (first | apply Kd.R_alloc | apply Kd.R_drewN | apply Kd.R_drew)); exact HO_14.out) hb); have n1_ := Aside0.mk (blk_below (g := gb229) (o := .cells #[.int .i64 t224, .int .i64 t225, .int .i64 t226, .int .i64 t227] 29 (0, 0)) (by (with_reducible repeat (first | refine blk_drewN ?_ _ | refine blk_drew ?_ | refine blk_alloc ?_ _)); exact BK229.out) hb); have n2_ := Aside0.mk (IsS57.below (by repeat (first | (with_reducible first | exact HI223.out | apply IsS57.alloc | apply IsS57.drewN | apply IsS57.drew | apply IsS57.set_1 | refine IsS57.far ?_ NB223_229.out _) | exact HI223.out)) hb); have n3_ := Aside0.mk (below_step (by repeat (first | (with_reducible first | exact HB.out | apply below_alloc | apply pw_below_drewN | apply below_drew1 | refine below_set ?_ (IsS57.ge HI223.out) | refine below_set ?_ GE229.out) | exact HB.out)) hb); clear HO_14; clear BK229; clear HI223; clear HB; have HO_14 := n0_; have BK229 := n1_; have HI223 := n2_; have HB := n3_; clear n0_ n1_ n2_ n3_; (try clear hb); (try clear hb2); (try clear hk); (try clear hi)) | ((with_reducible refine gate_callee (f := 9) rfl ?_); refine goesL_ (some 109) rfl rfl Tryd.func9 (by kernel_rfl) rfl #[.string t255] rfl (by (try simp only [List.map_toArray, List.map_cons, List.map_nil]); first | done | rfl | (simp only [List.length_drop, List.length_take]; rfl)) ?_; (with_reducible refine (strip_Read.calls t255 t256 t257 t258 t259 t260 t261 _ A49.out).mono ?_); rintro e w55 ⟨rfl, hb⟩; refine ⟨_, rfl, ?_⟩; have n0_ := Aside0.mk (Kd.R_below (by (with_reducible repeat (first | apply Kd.R_alloc | apply Kd.R_drewN | apply Kd.R_drew)); exact HO_14.out) hb); have n1_ := Aside0.mk (blk_below (g := gb229) (o := .cells #[.int .i64 t224, .int .i64 t225, .int .i64 t226, .int .i64 t227] 29 (0, 0)) (by (with_reducible repeat (first | refine blk_drewN ?_ _ | refine blk_drew ?_ | refine blk_alloc ?_ _)); exact BK229.out) hb); have n2_ := Aside0.mk (IsS57.below (by repeat (first | (with_reducible first | exact HI223.out | apply IsS57.alloc | apply IsS57.drewN | apply IsS57.drew | apply IsS57.set_1 | refine IsS57.far ?_ NB223_229.out _) | exact HI223.out)) hb); have n3_ := Aside0.mk (below_step (by repeat (first | (with_reducible first | exact HB.out | apply below_alloc | apply pw_below_drewN | apply below_drew1 | refine below_set ?_ (IsS57.ge HI223.out) | refine below_set ?_ GE229.out) | exact HB.out)) hb); clear HO_14; clear BK229; clear HI223; clear HB; have HO_14 := n0_; have BK229 := n1_; have HI223 := n2_; have HB := n3_; clear n0_ n1_ n2_ n3_; (try clear hb); (try clear hb2); (try clear hk); (try clear hi)) | ((with_reducible refine gate_dst (N := 19) rfl ?_); (try (refine gate_guard (by rfl) ?_; dsimp only)); refine box_event ?hg (N := 19) ?hd (cs := #[.int .i64 0, .int .i64 0, .int .i64 0, .int .i64 0]) (t := 29) ?hr ?_; (case hd => rfl); (case hg => rfl); (case hr => first | (go_simp; done) | (go_simp; rfl)); intro gb262 hg w56 hbox hb; have n0_ := Aside0.mk (Kd.R_below (by (with_reducible repeat (first | apply Kd.R_alloc | apply Kd.R_drewN | apply Kd.R_drew)); exact HO_14.out) hb); have n1_ := Aside0.mk (blk_below (g := gb229) (o := .cells #[.int .i64 t224, .int .i64 t225, .int .i64 t226, .int .i64 t227] 29 (0, 0)) (by (with_reducible repeat (first | refine blk_drewN ?_ _ | refine blk_drew ?_ | refine blk_alloc ?_ _)); exact BK229.out) hb); have n2_ := Aside0.mk (IsS57.below (by repeat (first | (with_reducible first | exact HI223.out | apply IsS57.alloc | apply IsS57.drewN | apply IsS57.drew | apply IsS57.set_1 | refine IsS57.far ?_ NB223_229.out _) | exact HI223.out)) hb); have n3_ := Aside0.mk (below_step (by repeat (first | (with_reducible first | exact HB.out | apply below_alloc | apply pw_below_drewN | apply below_drew1 | refine below_set ?_ (IsS57.ge HI223.out) | refine below_set ?_ GE229.out) | exact HB.out)) hb); have n4_ := Aside0.mk (hbox); have n5_ := Aside0.mk ((by rw [hg]; exact (below_size (by repeat (first | (with_reducible first | exact HB.out | apply below_alloc | apply pw_below_drewN | apply below_drew1 | refine below_set ?_ (IsS57.ge HI223.out) | refine below_set ?_ GE229.out) | exact HB.out))) : w.heap.size ≤ gb262)); have n6_ := Aside0.mk ((by rw [hg]; exact (below_size (by repeat (first | (with_reducible first | exact HB.out | apply below_alloc | apply pw_below_drewN | apply below_drew1 | refine below_set ?_ (IsS57.ge HI223.out) | refine below_set ?_ GE229.out) | exact HB.out))) : w.heap.size ≤ gb262)); have n7_ := Aside0.mk ((by rw [hg]; exact Nat.ne_of_lt (blk_lt (g := gb229) (o := .cells #[.int .i64 t224, .int .i64 t225, .int .i64 t226, .int .i64 t227] 29 (0, 0)) (by (with_reducible repeat (first | refine blk_drewN ?_ _ | refine blk_drew ?_ | refine blk_alloc ?_ _)); exact BK229.out)) : gb229 ≠ gb262)); have n8_ := Aside0.mk ((by rw [hg]; exact Nat.ne_of_gt (blk_lt (g := gb229) (o := .cells #[.int .i64 t224, .int .i64 t225, .int .i64 t226, .int .i64 t227] 29 (0, 0)) (by (with_reducible repeat (first | refine blk_drewN ?_ _ | refine blk_drew ?_ | refine blk_alloc ?_ _)); exact BK229.out)) : gb262 ≠ gb229)); have n9_ := Aside0.mk ((by rw [hg]; exact Nat.ne_of_lt (IsS57.lt (show IsS57 w _ g223 t221 x224001_3 from by repeat (first | (with_reducible first | exact HI223.out | apply IsS57.alloc | apply IsS57.drewN | apply IsS57.drew | apply IsS57.set_1 | refine IsS57.far ?_ NB223_229.out _) | exact HI223.out))) : g223 ≠ gb262)); have n10_ := Aside0.mk ((by rw [hg]; exact Nat.ne_of_gt (IsS57.lt (show IsS57 w _ g223 t221 x224001_3 from by repeat (first | (with_reducible first | exact HI223.out | apply IsS57.alloc | apply IsS57.drewN | apply IsS57.drew | apply IsS57.set_1 | refine IsS57.far ?_ NB223_229.out _) | exact HI223.out))) : gb262 ≠ g223)); clear HO_14; clear BK229; clear HI223; clear HB; have HO_14 := n0_; have BK229 := n1_; have HI223 := n2_; have HB := n3_; have BK262 := n4_; have GW262 := n5_; have GE262 := n6_; have NB229_262 := n7_; have NB262_229 := n8_; have NB223_262 := n9_; have NB262_223 := n10_; clear n0_ n1_ n2_ n3_ n4_ n5_ n6_ n7_ n8_ n9_ n10_; clear hb hbox hg; have hnb57 := NB262_229.out; have hnc57 := NB229_262.out; have hnb58 := NB262_223.out; have hnc58 := NB223_262.out; have hcz59_0 : w56.cell? ⟨gb262, 0, none⟩ = some (.int .i64 0) := (blk_cell BK262.out 0).trans rfl; have hcz59_1 : w56.cell? ⟨gb262, 1, none⟩ = some (.int .i64 0) := (blk_cell BK262.out 1).trans rfl; have hcz59_2 : w56.cell? ⟨gb262, 2, none⟩ = some (.int .i64 0) := (blk_cell BK262.out 2).trans rfl; have hcz59_3 : w56.cell? ⟨gb262, 3, none⟩ = some (.int .i64 0) := (blk_cell BK262.out 3).trans rfl; have hfz59_0 := blk_frozen BK262.out 0; have hfz59_1 := blk_frozen BK262.out 1; have hfz59_2 := blk_frozen BK262.out 2; have hfz59_3 := blk_frozen BK262.out 3; have hnb60 := NB229_223.out; have hnc60 := NB223_229.out; have hcz61_0 : w56.cell? ⟨gb229, 0, none⟩ = some (.int .i64 t224) := (blk_cell BK229.out 0).trans rfl; have hcz61_1 : w56.cell? ⟨gb229, 1, none⟩ = some (.int .i64 t225) := (blk_cell BK229.out 1).trans rfl; have hcz61_2 : w56.cell? ⟨gb229, 2, none⟩ = some (.int .i64 t226) := (blk_cell BK229.out 2).trans rfl; have hcz61_3 : w56.cell? ⟨gb229, 3, none⟩ = some (.int .i64 t227) := (blk_cell BK229.out 3).trans rfl; have hfz61_0 := blk_frozen BK229.out 0; have hfz61_1 := blk_frozen BK229.out 1; have hfz61_2 := blk_frozen BK229.out 2; have hfz61_3 := blk_frozen BK229.out 3) | (go_at_call 10; (with_reducible refine (awardingbodylaw19_awake.calls  t263 _ A53.out).mono ?_); rintro e w62 ⟨rfl, hb⟩; have n0_ := Aside0.mk (Kd.R_below (by (with_reducible repeat (first | apply Kd.R_alloc | apply Kd.R_drewN | apply Kd.R_drew)); exact (Kd.R_mono (Kd.R_far (p := ⟨gb262, 3, none⟩) (Kd.R_far (p := ⟨gb262, 2, none⟩) (Kd.R_far (p := ⟨gb262, 1, none⟩) (Kd.R_far (p := ⟨gb262, 0, none⟩) (Kd.R_types HO_14.out BK262.out (by decide)) (fun _ hk => hk.2) (.int .i64 t256)) (fun _ hk => hk.2) (.int .i64 t257)) (fun _ hk => hk.2) (.int .i64 t258)) (fun _ hk => hk.2) (.int .i64 t259)) (fun _ h_ => h_.1))) hb); have n1_ := Aside0.mk (blk_below (g := gb229) (o := .cells #[.int .i64 t224, .int .i64 t225, .int .i64 t226, .int .i64 t227] 29 (0, 0)) (by (with_reducible repeat (first | refine blk_drewN ?_ _ | refine blk_drew ?_ | refine blk_alloc ?_ _)); refine blk_far ?_ NB229_262.out _; (with_reducible repeat (first | refine blk_drewN ?_ _ | refine blk_drew ?_ | refine blk_alloc ?_ _)); refine blk_far ?_ NB229_262.out _; (with_reducible repeat (first | refine blk_drewN ?_ _ | refine blk_drew ?_ | refine blk_alloc ?_ _)); refine blk_far ?_ NB229_262.out _; (with_reducible repeat (first | refine blk_drewN ?_ _ | refine blk_drew ?_ | refine blk_alloc ?_ _)); refine blk_far ?_ NB229_262.out _; (with_reducible repeat (first | refine blk_drewN ?_ _ | refine blk_drew ?_ | refine blk_alloc ?_ _)); exact BK229.out) hb); have n2_ := Aside0.mk (IsS57.below (show IsS57 w ((((w56.setCell ⟨gb262, 0, none⟩ (.int .i64 t256)).setCell ⟨gb262, 1, none⟩ (.int .i64 t257)).setCell ⟨gb262, 2, none⟩ (.int .i64 t258)).setCell ⟨gb262, 3, none⟩ (.int .i64 t259)) g223 t221 x224001_3 from by repeat (first | (with_reducible first | exact HI223.out | apply IsS57.alloc | apply IsS57.drewN | apply IsS57.drew | apply IsS57.set_1 | refine IsS57.far ?_ NB223_229.out _ | refine IsS57.far ?_ NB223_262.out _) | exact HI223.out)) hb); have n3_ := Aside0.mk (blk_below (g := gb262) (o := .cells #[.int .i64 t256, .int .i64 t257, .int .i64 t258, .int .i64 t259] 29 (0, 0)) (by (with_reducible repeat (first | refine blk_drewN ?_ _ | refine blk_drew ?_ | refine blk_alloc ?_ _)); refine blk_put (cs := #[.int .i64 t256, .int .i64 t257, .int .i64 t258, .int .i64 0]) ?_ 3 _ rfl; (with_reducible repeat (first | refine blk_drewN ?_ _ | refine blk_drew ?_ | refine blk_alloc ?_ _)); refine blk_put (cs := #[.int .i64 t256, .int .i64 t257, .int .i64 0, .int .i64 0]) ?_ 2 _ rfl; (with_reducible repeat (first | refine blk_drewN ?_ _ | refine blk_drew ?_ | refine blk_alloc ?_ _)); refine blk_put (cs := #[.int .i64 t256, .int .i64 0, .int .i64 0, .int .i64 0]) ?_ 1 _ rfl; (with_reducible repeat (first | refine blk_drewN ?_ _ | refine blk_drew ?_ | refine blk_alloc ?_ _)); refine blk_put (cs := #[.int .i64 0, .int .i64 0, .int .i64 0, .int .i64 0]) ?_ 0 _ rfl; (with_reducible repeat (first | refine blk_drewN ?_ _ | refine blk_drew ?_ | refine blk_alloc ?_ _)); exact BK262.out) hb); have n4_ := Aside0.mk (below_step (by repeat (first | (with_reducible first | exact HB.out | apply below_alloc | apply pw_below_drewN | apply below_drew1 | refine below_set ?_ (IsS57.ge HI223.out) | refine below_set ?_ GE229.out | refine below_set ?_ GE262.out) | exact HB.out)) hb); clear HO_14; clear BK229; clear HI223; clear BK262; clear HB; have HO_14 := n0_; have BK229 := n1_; have HI223 := n2_; have BK262 := n3_; have HB := n4_; clear n0_ n1_ n2_ n3_ n4_; (try clear hb); (try clear hb2); (try clear hk); (try clear hi)))
                            go_ret
                            exact ⟨by first | rfl | (simp [errW_none, errW_some] <;> rfl) | (simp [*, errW_none, errW_some] <;> rfl), by repeat (first | (with_reducible first | exact HB.out | apply below_alloc | apply pw_below_drewN | apply below_drew1 | refine below_set ?_ (IsS57.ge HI223.out) | refine below_set ?_ GE229.out | refine below_set ?_ GE262.out) | exact HB.out)⟩
                          · rw [if_neg c52] at H
                            have c52b0 : (t260 == t232) = false := beq_eq_false_iff_ne.mpr c52
                            have c52b1 : (t260 != t232) = true := bne_iff_ne.mpr c52
                            obtain rfl := Option.some.inj H
                            go_wp2_with (first | ((with_reducible refine gate_callee (f := 17) rfl ?_); refine goesL_ (some 106) rfl rfl Tryd.func17 (by kernel_rfl) rfl #[.string x11_3] rfl (by (try simp only [List.map_toArray, List.map_cons, List.map_nil]); first | done | rfl | (simp only [List.length_drop, List.length_take]; rfl)) ?_; (with_reducible refine (strip_Flip.calls x11_3 t255 _ A48.out).mono ?_); rintro e w63 ⟨rfl, hb⟩; refine ⟨_, rfl, ?_⟩; have n0_ := Aside0.mk (Kd.R_below (by (with_reducible repeat (first | apply Kd.R_alloc | apply Kd.R_drewN | apply Kd.R_drew)); exact HO_14.out) hb); have n1_ := Aside0.mk (blk_below (g := gb229) (o := .cells #[.int .i64 t224, .int .i64 t225, .int .i64 t226, .int .i64 t227] 29 (0, 0)) (by (with_reducible repeat (first | refine blk_drewN ?_ _ | refine blk_drew ?_ | refine blk_alloc ?_ _)); exact BK229.out) hb); have n2_ := Aside0.mk (IsS57.below (by repeat (first | (with_reducible first | exact HI223.out | apply IsS57.alloc | apply IsS57.drewN | apply IsS57.drew | apply IsS57.set_1 | refine IsS57.far ?_ NB223_229.out _) | exact HI223.out)) hb); have n3_ := Aside0.mk (below_step (by repeat (first | (with_reducible first | exact HB.out | apply below_alloc | apply pw_below_drewN | apply below_drew1 | refine below_set ?_ (IsS57.ge HI223.out) | refine below_set ?_ GE229.out) | exact HB.out)) hb); clear HO_14; clear BK229; clear HI223; clear HB; have HO_14 := n0_; have BK229 := n1_; have HI223 := n2_; have HB := n3_; clear n0_ n1_ n2_ n3_; (try clear hb); (try clear hb2); (try clear hk); (try clear hi)) | ((with_reducible refine gate_callee (f := 9) rfl ?_); refine goesL_ (some 109) rfl rfl Tryd.func9 (by kernel_rfl) rfl #[.string t255] rfl (by (try simp only [List.map_toArray, List.map_cons, List.map_nil]); first | done | rfl | (simp only [List.length_drop, List.length_take]; rfl)) ?_; (with_reducible refine (strip_Read.calls t255 t256 t257 t258 t259 t260 t261 _ A49.out).mono ?_); rintro e w64 ⟨rfl, hb⟩; refine ⟨_, rfl, ?_⟩; have n0_ := Aside0.mk (Kd.R_below (by (with_reducible repeat (first | apply Kd.R_alloc | apply Kd.R_drewN | apply Kd.R_drew)); exact HO_14.out) hb); have n1_ := Aside0.mk (blk_below (g := gb229) (o := .cells #[.int .i64 t224, .int .i64 t225, .int .i64 t226, .int .i64 t227] 29 (0, 0)) (by (with_reducible repeat (first | refine blk_drewN ?_ _ | refine blk_drew ?_ | refine blk_alloc ?_ _)); exact BK229.out) hb); have n2_ := Aside0.mk (IsS57.below (by repeat (first | (with_reducible first | exact HI223.out | apply IsS57.alloc | apply IsS57.drewN | apply IsS57.drew | apply IsS57.set_1 | refine IsS57.far ?_ NB223_229.out _) | exact HI223.out)) hb); have n3_ := Aside0.mk (below_step (by repeat (first | (with_reducible first | exact HB.out | apply below_alloc | apply pw_below_drewN | apply below_drew1 | refine below_set ?_ (IsS57.ge HI223.out) | refine below_set ?_ GE229.out) | exact HB.out)) hb); clear HO_14; clear BK229; clear HI223; clear HB; have HO_14 := n0_; have BK229 := n1_; have HI223 := n2_; have HB := n3_; clear n0_ n1_ n2_ n3_; (try clear hb); (try clear hb2); (try clear hk); (try clear hi)) | ((with_reducible refine gate_dst (N := 19) rfl ?_); (try (refine gate_guard (by rfl) ?_; dsimp only)); refine box_event ?hg (N := 19) ?hd (cs := #[.int .i64 0, .int .i64 0, .int .i64 0, .int .i64 0]) (t := 29) ?hr ?_; (case hd => rfl); (case hg => rfl); (case hr => first | (go_simp; done) | (go_simp; rfl)); intro gb262 hg w65 hbox hb; have n0_ := Aside0.mk (Kd.R_below (by (with_reducible repeat (first | apply Kd.R_alloc | apply Kd.R_drewN | apply Kd.R_drew)); exact HO_14.out) hb); have n1_ := Aside0.mk (blk_below (g := gb229) (o := .cells #[.int .i64 t224, .int .i64 t225, .int .i64 t226, .int .i64 t227] 29 (0, 0)) (by (with_reducible repeat (first | refine blk_drewN ?_ _ | refine blk_drew ?_ | refine blk_alloc ?_ _)); exact BK229.out) hb); have n2_ := Aside0.mk (IsS57.below (by repeat (first | (with_reducible first | exact HI223.out | apply IsS57.alloc | apply IsS57.drewN | apply IsS57.drew | apply IsS57.set_1 | refine IsS57.far ?_ NB223_229.out _) | exact HI223.out)) hb); have n3_ := Aside0.mk (below_step (by repeat (first | (with_reducible first | exact HB.out | apply below_alloc | apply pw_below_drewN | apply below_drew1 | refine below_set ?_ (IsS57.ge HI223.out) | refine below_set ?_ GE229.out) | exact HB.out)) hb); have n4_ := Aside0.mk (hbox); have n5_ := Aside0.mk ((by rw [hg]; exact (below_size (by repeat (first | (with_reducible first | exact HB.out | apply below_alloc | apply pw_below_drewN | apply below_drew1 | refine below_set ?_ (IsS57.ge HI223.out) | refine below_set ?_ GE229.out) | exact HB.out))) : w.heap.size ≤ gb262)); have n6_ := Aside0.mk ((by rw [hg]; exact (below_size (by repeat (first | (with_reducible first | exact HB.out | apply below_alloc | apply pw_below_drewN | apply below_drew1 | refine below_set ?_ (IsS57.ge HI223.out) | refine below_set ?_ GE229.out) | exact HB.out))) : w.heap.size ≤ gb262)); have n7_ := Aside0.mk ((by rw [hg]; exact Nat.ne_of_lt (blk_lt (g := gb229) (o := .cells #[.int .i64 t224, .int .i64 t225, .int .i64 t226, .int .i64 t227] 29 (0, 0)) (by (with_reducible repeat (first | refine blk_drewN ?_ _ | refine blk_drew ?_ | refine blk_alloc ?_ _)); exact BK229.out)) : gb229 ≠ gb262)); have n8_ := Aside0.mk ((by rw [hg]; exact Nat.ne_of_gt (blk_lt (g := gb229) (o := .cells #[.int .i64 t224, .int .i64 t225, .int .i64 t226, .int .i64 t227] 29 (0, 0)) (by (with_reducible repeat (first | refine blk_drewN ?_ _ | refine blk_drew ?_ | refine blk_alloc ?_ _)); exact BK229.out)) : gb262 ≠ gb229)); have n9_ := Aside0.mk ((by rw [hg]; exact Nat.ne_of_lt (IsS57.lt (show IsS57 w _ g223 t221 x224001_3 from by repeat (first | (with_reducible first | exact HI223.out | apply IsS57.alloc | apply IsS57.drewN | apply IsS57.drew | apply IsS57.set_1 | refine IsS57.far ?_ NB223_229.out _) | exact HI223.out))) : g223 ≠ gb262)); have n10_ := Aside0.mk ((by rw [hg]; exact Nat.ne_of_gt (IsS57.lt (show IsS57 w _ g223 t221 x224001_3 from by repeat (first | (with_reducible first | exact HI223.out | apply IsS57.alloc | apply IsS57.drewN | apply IsS57.drew | apply IsS57.set_1 | refine IsS57.far ?_ NB223_229.out _) | exact HI223.out))) : gb262 ≠ g223)); clear HO_14; clear BK229; clear HI223; clear HB; have HO_14 := n0_; have BK229 := n1_; have HI223 := n2_; have HB := n3_; have BK262 := n4_; have GW262 := n5_; have GE262 := n6_; have NB229_262 := n7_; have NB262_229 := n8_; have NB223_262 := n9_; have NB262_223 := n10_; clear n0_ n1_ n2_ n3_ n4_ n5_ n6_ n7_ n8_ n9_ n10_; clear hb hbox hg; have hnb66 := NB262_229.out; have hnc66 := NB229_262.out; have hnb67 := NB262_223.out; have hnc67 := NB223_262.out; have hcz68_0 : w65.cell? ⟨gb262, 0, none⟩ = some (.int .i64 0) := (blk_cell BK262.out 0).trans rfl; have hcz68_1 : w65.cell? ⟨gb262, 1, none⟩ = some (.int .i64 0) := (blk_cell BK262.out 1).trans rfl; have hcz68_2 : w65.cell? ⟨gb262, 2, none⟩ = some (.int .i64 0) := (blk_cell BK262.out 2).trans rfl; have hcz68_3 : w65.cell? ⟨gb262, 3, none⟩ = some (.int .i64 0) := (blk_cell BK262.out 3).trans rfl; have hfz68_0 := blk_frozen BK262.out 0; have hfz68_1 := blk_frozen BK262.out 1; have hfz68_2 := blk_frozen BK262.out 2; have hfz68_3 := blk_frozen BK262.out 3; have hnb69 := NB229_223.out; have hnc69 := NB223_229.out; have hcz70_0 : w65.cell? ⟨gb229, 0, none⟩ = some (.int .i64 t224) := (blk_cell BK229.out 0).trans rfl; have hcz70_1 : w65.cell? ⟨gb229, 1, none⟩ = some (.int .i64 t225) := (blk_cell BK229.out 1).trans rfl; have hcz70_2 : w65.cell? ⟨gb229, 2, none⟩ = some (.int .i64 t226) := (blk_cell BK229.out 2).trans rfl; have hcz70_3 : w65.cell? ⟨gb229, 3, none⟩ = some (.int .i64 t227) := (blk_cell BK229.out 3).trans rfl; have hfz70_0 := blk_frozen BK229.out 0; have hfz70_1 := blk_frozen BK229.out 1; have hfz70_2 := blk_frozen BK229.out 2; have hfz70_3 := blk_frozen BK229.out 3))
                            go_ret
                            exact ⟨by first | rfl | (simp [errW_none, errW_some] <;> rfl) | (simp [*, errW_none, errW_some] <;> rfl), by repeat (first | (with_reducible first | exact HB.out | apply below_alloc | apply pw_below_drewN | apply below_drew1 | refine below_set ?_ (IsS57.ge HI223.out) | refine below_set ?_ GE229.out | refine below_set ?_ GE262.out) | exact HB.out)⟩
                        · rw [if_neg c51] at H
                          have c51b0 : (t256 == t224 && (t257 == t225 && (t258 == t226 && (t259 == t227)))) = false := by simpa using c51
                          (try (have c51b1 : decide (t256 = t224 && (t257 == t225 && (t258 == t226 && (t259 == t227)))) = false := by simpa using c51))
                          (try (have c51b2 : (t256 == t224 && (t257 == t225 && (t258 == t226 && (t259 == t227)))) = false := by simpa using c51))
                          (try (have c51b3 : ¬ (t256 = t224 && (t257 == t225 && (t258 == t226 && (t259 == t227)))) := by simpa using c51))
                          clear c51
                          obtain rfl := Option.some.inj H
                          go_wp2_with (first | ((with_reducible refine gate_callee (f := 17) rfl ?_); refine goesL_ (some 106) rfl rfl Tryd.func17 (by kernel_rfl) rfl #[.string x11_3] rfl (by (try simp only [List.map_toArray, List.map_cons, List.map_nil]); first | done | rfl | (simp only [List.length_drop, List.length_take]; rfl)) ?_; (with_reducible refine (strip_Flip.calls x11_3 t255 _ A48.out).mono ?_); rintro e w71 ⟨rfl, hb⟩; refine ⟨_, rfl, ?_⟩; have n0_ := Aside0.mk (Kd.R_below (by (with_reducible repeat (first | apply Kd.R_alloc | apply Kd.R_drewN | apply Kd.R_drew)); exact HO_14.out) hb); have n1_ := Aside0.mk (blk_below (g := gb229) (o := .cells #[.int .i64 t224, .int .i64 t225, .int .i64 t226, .int .i64 t227] 29 (0, 0)) (by (with_reducible repeat (first | refine blk_drewN ?_ _ | refine blk_drew ?_ | refine blk_alloc ?_ _)); exact BK229.out) hb); have n2_ := Aside0.mk (IsS57.below (by repeat (first | (with_reducible first | exact HI223.out | apply IsS57.alloc | apply IsS57.drewN | apply IsS57.drew | apply IsS57.set_1 | refine IsS57.far ?_ NB223_229.out _) | exact HI223.out)) hb); have n3_ := Aside0.mk (below_step (by repeat (first | (with_reducible first | exact HB.out | apply below_alloc | apply pw_below_drewN | apply below_drew1 | refine below_set ?_ (IsS57.ge HI223.out) | refine below_set ?_ GE229.out) | exact HB.out)) hb); clear HO_14; clear BK229; clear HI223; clear HB; have HO_14 := n0_; have BK229 := n1_; have HI223 := n2_; have HB := n3_; clear n0_ n1_ n2_ n3_; (try clear hb); (try clear hb2); (try clear hk); (try clear hi)) | ((with_reducible refine gate_callee (f := 9) rfl ?_); refine goesL_ (some 109) rfl rfl Tryd.func9 (by kernel_rfl) rfl #[.string t255] rfl (by (try simp only [List.map_toArray, List.map_cons, List.map_nil]); first | done | rfl | (simp only [List.length_drop, List.length_take]; rfl)) ?_; (with_reducible refine (strip_Read.calls t255 t256 t257 t258 t259 t260 t261 _ A49.out).mono ?_); rintro e w72 ⟨rfl, hb⟩; refine ⟨_, rfl, ?_⟩; have n0_ := Aside0.mk (Kd.R_below (by (with_reducible repeat (first | apply Kd.R_alloc | apply Kd.R_drewN | apply Kd.R_drew)); exact HO_14.out) hb); have n1_ := Aside0.mk (blk_below (g := gb229) (o := .cells #[.int .i64 t224, .int .i64 t225, .int .i64 t226, .int .i64 t227] 29 (0, 0)) (by (with_reducible repeat (first | refine blk_drewN ?_ _ | refine blk_drew ?_ | refine blk_alloc ?_ _)); exact BK229.out) hb); have n2_ := Aside0.mk (IsS57.below (by repeat (first | (with_reducible first | exact HI223.out | apply IsS57.alloc | apply IsS57.drewN | apply IsS57.drew | apply IsS57.set_1 | refine IsS57.far ?_ NB223_229.out _) | exact HI223.out)) hb); have n3_ := Aside0.mk (below_step (by repeat (first | (with_reducible first | exact HB.out | apply below_alloc | apply pw_below_drewN | apply below_drew1 | refine below_set ?_ (IsS57.ge HI223.out) | refine below_set ?_ GE229.out) | exact HB.out)) hb); clear HO_14; clear BK229; clear HI223; clear HB; have HO_14 := n0_; have BK229 := n1_; have HI223 := n2_; have HB := n3_; clear n0_ n1_ n2_ n3_; (try clear hb); (try clear hb2); (try clear hk); (try clear hi)) | ((with_reducible refine gate_dst (N := 19) rfl ?_); (try (refine gate_guard (by rfl) ?_; dsimp only)); refine box_event ?hg (N := 19) ?hd (cs := #[.int .i64 0, .int .i64 0, .int .i64 0, .int .i64 0]) (t := 29) ?hr ?_; (case hd => rfl); (case hg => rfl); (case hr => first | (go_simp; done) | (go_simp; rfl)); intro gb262 hg w73 hbox hb; have n0_ := Aside0.mk (Kd.R_below (by (with_reducible repeat (first | apply Kd.R_alloc | apply Kd.R_drewN | apply Kd.R_drew)); exact HO_14.out) hb); have n1_ := Aside0.mk (blk_below (g := gb229) (o := .cells #[.int .i64 t224, .int .i64 t225, .int .i64 t226, .int .i64 t227] 29 (0, 0)) (by (with_reducible repeat (first | refine blk_drewN ?_ _ | refine blk_drew ?_ | refine blk_alloc ?_ _)); exact BK229.out) hb); have n2_ := Aside0.mk (IsS57.below (by repeat (first | (with_reducible first | exact HI223.out | apply IsS57.alloc | apply IsS57.drewN | apply IsS57.drew | apply IsS57.set_1 | refine IsS57.far ?_ NB223_229.out _) | exact HI223.out)) hb); have n3_ := Aside0.mk (below_step (by repeat (first | (with_reducible first | exact HB.out | apply below_alloc | apply pw_below_drewN | apply below_drew1 | refine below_set ?_ (IsS57.ge HI223.out) | refine below_set ?_ GE229.out) | exact HB.out)) hb); have n4_ := Aside0.mk (hbox); have n5_ := Aside0.mk ((by rw [hg]; exact (below_size (by repeat (first | (with_reducible first | exact HB.out | apply below_alloc | apply pw_below_drewN | apply below_drew1 | refine below_set ?_ (IsS57.ge HI223.out) | refine below_set ?_ GE229.out) | exact HB.out))) : w.heap.size ≤ gb262)); have n6_ := Aside0.mk ((by rw [hg]; exact (below_size (by repeat (first | (with_reducible first | exact HB.out | apply below_alloc | apply pw_below_drewN | apply below_drew1 | refine below_set ?_ (IsS57.ge HI223.out) | refine below_set ?_ GE229.out) | exact HB.out))) : w.heap.size ≤ gb262)); have n7_ := Aside0.mk ((by rw [hg]; exact Nat.ne_of_lt (blk_lt (g := gb229) (o := .cells #[.int .i64 t224, .int .i64 t225, .int .i64 t226, .int .i64 t227] 29 (0, 0)) (by (with_reducible repeat (first | refine blk_drewN ?_ _ | refine blk_drew ?_ | refine blk_alloc ?_ _)); exact BK229.out)) : gb229 ≠ gb262)); have n8_ := Aside0.mk ((by rw [hg]; exact Nat.ne_of_gt (blk_lt (g := gb229) (o := .cells #[.int .i64 t224, .int .i64 t225, .int .i64 t226, .int .i64 t227] 29 (0, 0)) (by (with_reducible repeat (first | refine blk_drewN ?_ _ | refine blk_drew ?_ | refine blk_alloc ?_ _)); exact BK229.out)) : gb262 ≠ gb229)); have n9_ := Aside0.mk ((by rw [hg]; exact Nat.ne_of_lt (IsS57.lt (show IsS57 w _ g223 t221 x224001_3 from by repeat (first | (with_reducible first | exact HI223.out | apply IsS57.alloc | apply IsS57.drewN | apply IsS57.drew | apply IsS57.set_1 | refine IsS57.far ?_ NB223_229.out _) | exact HI223.out))) : g223 ≠ gb262)); have n10_ := Aside0.mk ((by rw [hg]; exact Nat.ne_of_gt (IsS57.lt (show IsS57 w _ g223 t221 x224001_3 from by repeat (first | (with_reducible first | exact HI223.out | apply IsS57.alloc | apply IsS57.drewN | apply IsS57.drew | apply IsS57.set_1 | refine IsS57.far ?_ NB223_229.out _) | exact HI223.out))) : gb262 ≠ g223)); clear HO_14; clear BK229; clear HI223; clear HB; have HO_14 := n0_; have BK229 := n1_; have HI223 := n2_; have HB := n3_; have BK262 := n4_; have GW262 := n5_; have GE262 := n6_; have NB229_262 := n7_; have NB262_229 := n8_; have NB223_262 := n9_; have NB262_223 := n10_; clear n0_ n1_ n2_ n3_ n4_ n5_ n6_ n7_ n8_ n9_ n10_; clear hb hbox hg; have hnb74 := NB262_229.out; have hnc74 := NB229_262.out; have hnb75 := NB262_223.out; have hnc75 := NB223_262.out; have hcz76_0 : w73.cell? ⟨gb262, 0, none⟩ = some (.int .i64 0) := (blk_cell BK262.out 0).trans rfl; have hcz76_1 : w73.cell? ⟨gb262, 1, none⟩ = some (.int .i64 0) := (blk_cell BK262.out 1).trans rfl; have hcz76_2 : w73.cell? ⟨gb262, 2, none⟩ = some (.int .i64 0) := (blk_cell BK262.out 2).trans rfl; have hcz76_3 : w73.cell? ⟨gb262, 3, none⟩ = some (.int .i64 0) := (blk_cell BK262.out 3).trans rfl; have hfz76_0 := blk_frozen BK262.out 0; have hfz76_1 := blk_frozen BK262.out 1; have hfz76_2 := blk_frozen BK262.out 2; have hfz76_3 := blk_frozen BK262.out 3; have hnb77 := NB229_223.out; have hnc77 := NB223_229.out; have hcz78_0 : w73.cell? ⟨gb229, 0, none⟩ = some (.int .i64 t224) := (blk_cell BK229.out 0).trans rfl; have hcz78_1 : w73.cell? ⟨gb229, 1, none⟩ = some (.int .i64 t225) := (blk_cell BK229.out 1).trans rfl; have hcz78_2 : w73.cell? ⟨gb229, 2, none⟩ = some (.int .i64 t226) := (blk_cell BK229.out 2).trans rfl; have hcz78_3 : w73.cell? ⟨gb229, 3, none⟩ = some (.int .i64 t227) := (blk_cell BK229.out 3).trans rfl; have hfz78_0 := blk_frozen BK229.out 0; have hfz78_1 := blk_frozen BK229.out 1; have hfz78_2 := blk_frozen BK229.out 2; have hfz78_3 := blk_frozen BK229.out 3))
                          go_ret
                          exact ⟨by first | rfl | (simp [errW_none, errW_some] <;> rfl) | (simp [*, errW_none, errW_some] <;> rfl), by repeat (first | (with_reducible first | exact HB.out | apply below_alloc | apply pw_below_drewN | apply below_drew1 | refine below_set ?_ (IsS57.ge HI223.out) | refine below_set ?_ GE229.out | refine below_set ?_ GE262.out) | exact HB.out)⟩
                      · rw [if_neg c50] at H
                        have c50b0 : (t261 == 0) = false := beq_eq_false_iff_ne.mpr c50
                        have c50b1 : (t261 != 0) = true := bne_iff_ne.mpr c50
                        obtain rfl := Option.some.inj H
                        go_wp2_with (first | ((with_reducible refine gate_callee (f := 17) rfl ?_); refine goesL_ (some 106) rfl rfl Tryd.func17 (by kernel_rfl) rfl #[.string x11_3] rfl (by (try simp only [List.map_toArray, List.map_cons, List.map_nil]); first | done | rfl | (simp only [List.length_drop, List.length_take]; rfl)) ?_; (with_reducible refine (strip_Flip.calls x11_3 t255 _ A48.out).mono ?_); rintro e w79 ⟨rfl, hb⟩; refine ⟨_, rfl, ?_⟩; have n0_ := Aside0.mk (Kd.R_below (by (with_reducible repeat (first | apply Kd.R_alloc | apply Kd.R_drewN | apply Kd.R_drew)); exact HO_14.out) hb); have n1_ := Aside0.mk (blk_below (g := gb229) (o := .cells #[.int .i64 t224, .int .i64 t225, .int .i64 t226, .int .i64 t227] 29 (0, 0)) (by (with_reducible repeat (first | refine blk_drewN ?_ _ | refine blk_drew ?_ | refine blk_alloc ?_ _)); exact BK229.out) hb); have n2_ := Aside0.mk (IsS57.below (by repeat (first | (with_reducible first | exact HI223.out | apply IsS57.alloc | apply IsS57.drewN | apply IsS57.drew | apply IsS57.set_1 | refine IsS57.far ?_ NB223_229.out _) | exact HI223.out)) hb); have n3_ := Aside0.mk (below_step (by repeat (first | (with_reducible first | exact HB.out | apply below_alloc | apply pw_below_drewN | apply below_drew1 | refine below_set ?_ (IsS57.ge HI223.out) | refine below_set ?_ GE229.out) | exact HB.out)) hb); clear HO_14; clear BK229; clear HI223; clear HB; have HO_14 := n0_; have BK229 := n1_; have HI223 := n2_; have HB := n3_; clear n0_ n1_ n2_ n3_; (try clear hb); (try clear hb2); (try clear hk); (try clear hi)) | ((with_reducible refine gate_callee (f := 9) rfl ?_); refine goesL_ (some 109) rfl rfl Tryd.func9 (by kernel_rfl) rfl #[.string t255] rfl (by (try simp only [List.map_toArray, List.map_cons, List.map_nil]); first | done | rfl | (simp only [List.length_drop, List.length_take]; rfl)) ?_; (with_reducible refine (strip_Read.calls t255 t256 t257 t258 t259 t260 t261 _ A49.out).mono ?_); rintro e w80 ⟨rfl, hb⟩; refine ⟨_, rfl, ?_⟩; have n0_ := Aside0.mk (Kd.R_below (by (with_reducible repeat (first | apply Kd.R_alloc | apply Kd.R_drewN | apply Kd.R_drew)); exact HO_14.out) hb); have n1_ := Aside0.mk (blk_below (g := gb229) (o := .cells #[.int .i64 t224, .int .i64 t225, .int .i64 t226, .int .i64 t227] 29 (0, 0)) (by (with_reducible repeat (first | refine blk_drewN ?_ _ | refine blk_drew ?_ | refine blk_alloc ?_ _)); exact BK229.out) hb); have n2_ := Aside0.mk (IsS57.below (by repeat (first | (with_reducible first | exact HI223.out | apply IsS57.alloc | apply IsS57.drewN | apply IsS57.drew | apply IsS57.set_1 | refine IsS57.far ?_ NB223_229.out _) | exact HI223.out)) hb); have n3_ := Aside0.mk (below_step (by repeat (first | (with_reducible first | exact HB.out | apply below_alloc | apply pw_below_drewN | apply below_drew1 | refine below_set ?_ (IsS57.ge HI223.out) | refine below_set ?_ GE229.out) | exact HB.out)) hb); clear HO_14; clear BK229; clear HI223; clear HB; have HO_14 := n0_; have BK229 := n1_; have HI223 := n2_; have HB := n3_; clear n0_ n1_ n2_ n3_; (try clear hb); (try clear hb2); (try clear hk); (try clear hi)) | ((with_reducible refine gate_dst (N := 19) rfl ?_); (try (refine gate_guard (by rfl) ?_; dsimp only)); refine box_event ?hg (N := 19) ?hd (cs := #[.int .i64 0, .int .i64 0, .int .i64 0, .int .i64 0]) (t := 29) ?hr ?_; (case hd => rfl); (case hg => rfl); (case hr => first | (go_simp; done) | (go_simp; rfl)); intro gb262 hg w81 hbox hb; have n0_ := Aside0.mk (Kd.R_below (by (with_reducible repeat (first | apply Kd.R_alloc | apply Kd.R_drewN | apply Kd.R_drew)); exact HO_14.out) hb); have n1_ := Aside0.mk (blk_below (g := gb229) (o := .cells #[.int .i64 t224, .int .i64 t225, .int .i64 t226, .int .i64 t227] 29 (0, 0)) (by (with_reducible repeat (first | refine blk_drewN ?_ _ | refine blk_drew ?_ | refine blk_alloc ?_ _)); exact BK229.out) hb); have n2_ := Aside0.mk (IsS57.below (by repeat (first | (with_reducible first | exact HI223.out | apply IsS57.alloc | apply IsS57.drewN | apply IsS57.drew | apply IsS57.set_1 | refine IsS57.far ?_ NB223_229.out _) | exact HI223.out)) hb); have n3_ := Aside0.mk (below_step (by repeat (first | (with_reducible first | exact HB.out | apply below_alloc | apply pw_below_drewN | apply below_drew1 | refine below_set ?_ (IsS57.ge HI223.out) | refine below_set ?_ GE229.out) | exact HB.out)) hb); have n4_ := Aside0.mk (hbox); have n5_ := Aside0.mk ((by rw [hg]; exact (below_size (by repeat (first | (with_reducible first | exact HB.out | apply below_alloc | apply pw_below_drewN | apply below_drew1 | refine below_set ?_ (IsS57.ge HI223.out) | refine below_set ?_ GE229.out) | exact HB.out))) : w.heap.size ≤ gb262)); have n6_ := Aside0.mk ((by rw [hg]; exact (below_size (by repeat (first | (with_reducible first | exact HB.out | apply below_alloc | apply pw_below_drewN | apply below_drew1 | refine below_set ?_ (IsS57.ge HI223.out) | refine below_set ?_ GE229.out) | exact HB.out))) : w.heap.size ≤ gb262)); have n7_ := Aside0.mk ((by rw [hg]; exact Nat.ne_of_lt (blk_lt (g := gb229) (o := .cells #[.int .i64 t224, .int .i64 t225, .int .i64 t226, .int .i64 t227] 29 (0, 0)) (by (with_reducible repeat (first | refine blk_drewN ?_ _ | refine blk_drew ?_ | refine blk_alloc ?_ _)); exact BK229.out)) : gb229 ≠ gb262)); have n8_ := Aside0.mk ((by rw [hg]; exact Nat.ne_of_gt (blk_lt (g := gb229) (o := .cells #[.int .i64 t224, .int .i64 t225, .int .i64 t226, .int .i64 t227] 29 (0, 0)) (by (with_reducible repeat (first | refine blk_drewN ?_ _ | refine blk_drew ?_ | refine blk_alloc ?_ _)); exact BK229.out)) : gb262 ≠ gb229)); have n9_ := Aside0.mk ((by rw [hg]; exact Nat.ne_of_lt (IsS57.lt (show IsS57 w _ g223 t221 x224001_3 from by repeat (first | (with_reducible first | exact HI223.out | apply IsS57.alloc | apply IsS57.drewN | apply IsS57.drew | apply IsS57.set_1 | refine IsS57.far ?_ NB223_229.out _) | exact HI223.out))) : g223 ≠ gb262)); have n10_ := Aside0.mk ((by rw [hg]; exact Nat.ne_of_gt (IsS57.lt (show IsS57 w _ g223 t221 x224001_3 from by repeat (first | (with_reducible first | exact HI223.out | apply IsS57.alloc | apply IsS57.drewN | apply IsS57.drew | apply IsS57.set_1 | refine IsS57.far ?_ NB223_229.out _) | exact HI223.out))) : gb262 ≠ g223)); clear HO_14; clear BK229; clear HI223; clear HB; have HO_14 := n0_; have BK229 := n1_; have HI223 := n2_; have HB := n3_; have BK262 := n4_; have GW262 := n5_; have GE262 := n6_; have NB229_262 := n7_; have NB262_229 := n8_; have NB223_262 := n9_; have NB262_223 := n10_; clear n0_ n1_ n2_ n3_ n4_ n5_ n6_ n7_ n8_ n9_ n10_; clear hb hbox hg; have hnb82 := NB262_229.out; have hnc82 := NB229_262.out; have hnb83 := NB262_223.out; have hnc83 := NB223_262.out; have hcz84_0 : w81.cell? ⟨gb262, 0, none⟩ = some (.int .i64 0) := (blk_cell BK262.out 0).trans rfl; have hcz84_1 : w81.cell? ⟨gb262, 1, none⟩ = some (.int .i64 0) := (blk_cell BK262.out 1).trans rfl; have hcz84_2 : w81.cell? ⟨gb262, 2, none⟩ = some (.int .i64 0) := (blk_cell BK262.out 2).trans rfl; have hcz84_3 : w81.cell? ⟨gb262, 3, none⟩ = some (.int .i64 0) := (blk_cell BK262.out 3).trans rfl; have hfz84_0 := blk_frozen BK262.out 0; have hfz84_1 := blk_frozen BK262.out 1; have hfz84_2 := blk_frozen BK262.out 2; have hfz84_3 := blk_frozen BK262.out 3))
                        go_ret
                        exact ⟨by first | rfl | (simp [errW_none, errW_some] <;> rfl) | (simp [*, errW_none, errW_some] <;> rfl), by repeat (first | (with_reducible first | exact HB.out | apply below_alloc | apply pw_below_drewN | apply below_drew1 | refine below_set ?_ (IsS57.ge HI223.out) | refine below_set ?_ GE229.out | refine below_set ?_ GE262.out) | exact HB.out)⟩
                    · replace c47 := Bool.eq_false_iff.mpr c47
                      subst c47
                      have H1 : ((strip_Read.f x11_3).bind fun bt264 => (if bt264.2.2.2.2.2 = 0 then (if (bt264.1 == t224 && (bt264.2.1 == t225 && (bt264.2.2.1 == t226 && (bt264.2.2.2.1 == t227)))) = true then (if bt264.2.2.2.2.1 = t232 then ((awardingbodylaw19_awake.f).bind fun t271 => (some t271)) else (some false)) else (some false)) else (some false))) = some r := by rw [if_neg (show ¬ (false = true) by decide)] at H; exact H
                      clear H
                      have H := H1
                      clear H1
                      replace H := Option.bind_eq_some_iff.mp H
                      obtain ⟨⟨t264, t265, t266, t267, t268, t269⟩, A850, H⟩ := H
                      replace H : (if t269 = 0 then (if (t264 == t224 && (t265 == t225 && (t266 == t226 && (t267 == t227)))) = true then (if t268 = t232 then ((awardingbodylaw19_awake.f).bind fun t271 => (some t271)) else (some false)) else (some false)) else (some false)) = some r := H
                      have A85 := Aside0.mk A850
                      clear A850
                      by_cases c86 : t269 = 0
                      · rw [if_pos c86] at H
                        have c86b0 : (t269 == 0) = true := beq_iff_eq.mpr c86
                        have c86b1 : (t269 != 0) = false := bne_eq_false_iff_eq.mpr c86
                        clear c86
                        by_cases c87 : (t264 == t224 && (t265 == t225 && (t266 == t226 && (t267 == t227)))) = true
                        · rw [if_pos c87] at H
                          have c87b0 : (t264 == t224 && (t265 == t225 && (t266 == t226 && (t267 == t227)))) = true := c87
                          (try (have c87b1 : decide (t264 = t224 && (t265 == t225 && (t266 == t226 && (t267 == t227)))) = true := by simpa using c87))
                          (try (have c87b2 : (t264 == t224 && (t265 == t225 && (t266 == t226 && (t267 == t227)))) = true := by simpa using c87))
                          clear c87
                          by_cases c88 : t268 = t232
                          · rw [if_pos c88] at H
                            have c88b0 : (t268 == t232) = true := beq_iff_eq.mpr c88
                            have c88b1 : (t268 != t232) = false := bne_eq_false_iff_eq.mpr c88
                            clear c88
                            replace H := Option.bind_eq_some_iff.mp H
                            obtain ⟨t271, A890, H⟩ := H
                            replace H : (some t271) = some r := H
                            have A89 := Aside0.mk A890
                            clear A890
                            obtain rfl := Option.some.inj H
                            go_wp2_with (first | ((with_reducible refine gate_callee (f := 9) rfl ?_); refine goesL_ (some 109) rfl rfl Tryd.func9 (by kernel_rfl) rfl #[.string x11_3] rfl (by (try simp only [List.map_toArray, List.map_cons, List.map_nil]); first | done | rfl | (simp only [List.length_drop, List.length_take]; rfl)) ?_; (with_reducible refine (strip_Read.calls x11_3 t264 t265 t266 t267 t268 t269 _ A85.out).mono ?_); rintro e w90 ⟨rfl, hb⟩; refine ⟨_, rfl, ?_⟩; have n0_ := Aside0.mk (Kd.R_below (by (with_reducible repeat (first | apply Kd.R_alloc | apply Kd.R_drewN | apply Kd.R_drew)); exact HO_14.out) hb); have n1_ := Aside0.mk (blk_below (g := gb229) (o := .cells #[.int .i64 t224, .int .i64 t225, .int .i64 t226, .int .i64 t227] 29 (0, 0)) (by (with_reducible repeat (first | refine blk_drewN ?_ _ | refine blk_drew ?_ | refine blk_alloc ?_ _)); exact BK229.out) hb); have n2_ := Aside0.mk (IsS57.below (by repeat (first | (with_reducible first | exact HI223.out | apply IsS57.alloc | apply IsS57.drewN | apply IsS57.drew | apply IsS57.set_1 | refine IsS57.far ?_ NB223_229.out _) | exact HI223.out)) hb); have n3_ := Aside0.mk (below_step (by repeat (first | (with_reducible first | exact HB.out | apply below_alloc | apply pw_below_drewN | apply below_drew1 | refine below_set ?_ (IsS57.ge HI223.out) | refine below_set ?_ GE229.out) | exact HB.out)) hb); clear HO_14; clear BK229; clear HI223; clear HB; have HO_14 := n0_; have BK229 := n1_; have HI223 := n2_; have HB := n3_; clear n0_ n1_ n2_ n3_; (try clear hb); (try clear hb2); (try clear hk); (try clear hi)) | ((with_reducible refine gate_dst (N := 19) rfl ?_); (try (refine gate_guard (by rfl) ?_; dsimp only)); refine box_event ?hg (N := 19) ?hd (cs := #[.int .i64 0, .int .i64 0, .int .i64 0, .int .i64 0]) (t := 29) ?hr ?_; (case hd => rfl); (case hg => rfl); (case hr => first | (go_simp; done) | (go_simp; rfl)); intro gb270 hg w91 hbox hb; have n0_ := Aside0.mk (Kd.R_below (by (with_reducible repeat (first | apply Kd.R_alloc | apply Kd.R_drewN | apply Kd.R_drew)); exact HO_14.out) hb); have n1_ := Aside0.mk (blk_below (g := gb229) (o := .cells #[.int .i64 t224, .int .i64 t225, .int .i64 t226, .int .i64 t227] 29 (0, 0)) (by (with_reducible repeat (first | refine blk_drewN ?_ _ | refine blk_drew ?_ | refine blk_alloc ?_ _)); exact BK229.out) hb); have n2_ := Aside0.mk (IsS57.below (by repeat (first | (with_reducible first | exact HI223.out | apply IsS57.alloc | apply IsS57.drewN | apply IsS57.drew | apply IsS57.set_1 | refine IsS57.far ?_ NB223_229.out _) | exact HI223.out)) hb); have n3_ := Aside0.mk (below_step (by repeat (first | (with_reducible first | exact HB.out | apply below_alloc | apply pw_below_drewN | apply below_drew1 | refine below_set ?_ (IsS57.ge HI223.out) | refine below_set ?_ GE229.out) | exact HB.out)) hb); have n4_ := Aside0.mk (hbox); have n5_ := Aside0.mk ((by rw [hg]; exact (below_size (by repeat (first | (with_reducible first | exact HB.out | apply below_alloc | apply pw_below_drewN | apply below_drew1 | refine below_set ?_ (IsS57.ge HI223.out) | refine below_set ?_ GE229.out) | exact HB.out))) : w.heap.size ≤ gb270)); have n6_ := Aside0.mk ((by rw [hg]; exact (below_size (by repeat (first | (with_reducible first | exact HB.out | apply below_alloc | apply pw_below_drewN | apply below_drew1 | refine below_set ?_ (IsS57.ge HI223.out) | refine below_set ?_ GE229.out) | exact HB.out))) : w.heap.size ≤ gb270)); have n7_ := Aside0.mk ((by rw [hg]; exact Nat.ne_of_lt (blk_lt (g := gb229) (o := .cells #[.int .i64 t224, .int .i64 t225, .int .i64 t226, .int .i64 t227] 29 (0, 0)) (by (with_reducible repeat (first | refine blk_drewN ?_ _ | refine blk_drew ?_ | refine blk_alloc ?_ _)); exact BK229.out)) : gb229 ≠ gb270)); have n8_ := Aside0.mk ((by rw [hg]; exact Nat.ne_of_gt (blk_lt (g := gb229) (o := .cells #[.int .i64 t224, .int .i64 t225, .int .i64 t226, .int .i64 t227] 29 (0, 0)) (by (with_reducible repeat (first | refine blk_drewN ?_ _ | refine blk_drew ?_ | refine blk_alloc ?_ _)); exact BK229.out)) : gb270 ≠ gb229)); have n9_ := Aside0.mk ((by rw [hg]; exact Nat.ne_of_lt (IsS57.lt (show IsS57 w _ g223 t221 x224001_3 from by repeat (first | (with_reducible first | exact HI223.out | apply IsS57.alloc | apply IsS57.drewN | apply IsS57.drew | apply IsS57.set_1 | refine IsS57.far ?_ NB223_229.out _) | exact HI223.out))) : g223 ≠ gb270)); have n10_ := Aside0.mk ((by rw [hg]; exact Nat.ne_of_gt (IsS57.lt (show IsS57 w _ g223 t221 x224001_3 from by repeat (first | (with_reducible first | exact HI223.out | apply IsS57.alloc | apply IsS57.drewN | apply IsS57.drew | apply IsS57.set_1 | refine IsS57.far ?_ NB223_229.out _) | exact HI223.out))) : gb270 ≠ g223)); clear HO_14; clear BK229; clear HI223; clear HB; have HO_14 := n0_; have BK229 := n1_; have HI223 := n2_; have HB := n3_; have BK270 := n4_; have GW270 := n5_; have GE270 := n6_; have NB229_270 := n7_; have NB270_229 := n8_; have NB223_270 := n9_; have NB270_223 := n10_; clear n0_ n1_ n2_ n3_ n4_ n5_ n6_ n7_ n8_ n9_ n10_; clear hb hbox hg; have hnb92 := NB270_229.out; have hnc92 := NB229_270.out; have hnb93 := NB270_223.out; have hnc93 := NB223_270.out; have hcz94_0 : w91.cell? ⟨gb270, 0, none⟩ = some (.int .i64 0) := (blk_cell BK270.out 0).trans rfl; have hcz94_1 : w91.cell? ⟨gb270, 1, none⟩ = some (.int .i64 0) := (blk_cell BK270.out 1).trans rfl; have hcz94_2 : w91.cell? ⟨gb270, 2, none⟩ = some (.int .i64 0) := (blk_cell BK270.out 2).trans rfl; have hcz94_3 : w91.cell? ⟨gb270, 3, none⟩ = some (.int .i64 0) := (blk_cell BK270.out 3).trans rfl; have hfz94_0 := blk_frozen BK270.out 0; have hfz94_1 := blk_frozen BK270.out 1; have hfz94_2 := blk_frozen BK270.out 2; have hfz94_3 := blk_frozen BK270.out 3; have hnb95 := NB229_223.out; have hnc95 := NB223_229.out; have hcz96_0 : w91.cell? ⟨gb229, 0, none⟩ = some (.int .i64 t224) := (blk_cell BK229.out 0).trans rfl; have hcz96_1 : w91.cell? ⟨gb229, 1, none⟩ = some (.int .i64 t225) := (blk_cell BK229.out 1).trans rfl; have hcz96_2 : w91.cell? ⟨gb229, 2, none⟩ = some (.int .i64 t226) := (blk_cell BK229.out 2).trans rfl; have hcz96_3 : w91.cell? ⟨gb229, 3, none⟩ = some (.int .i64 t227) := (blk_cell BK229.out 3).trans rfl; have hfz96_0 := blk_frozen BK229.out 0; have hfz96_1 := blk_frozen BK229.out 1; have hfz96_2 := blk_frozen BK229.out 2; have hfz96_3 := blk_frozen BK229.out 3) | (go_at_call 10; (with_reducible refine (awardingbodylaw19_awake.calls  t271 _ A89.out).mono ?_); rintro e w97 ⟨rfl, hb⟩; have n0_ := Aside0.mk (Kd.R_below (by (with_reducible repeat (first | apply Kd.R_alloc | apply Kd.R_drewN | apply Kd.R_drew)); exact (Kd.R_mono (Kd.R_far (p := ⟨gb270, 3, none⟩) (Kd.R_far (p := ⟨gb270, 2, none⟩) (Kd.R_far (p := ⟨gb270, 1, none⟩) (Kd.R_far (p := ⟨gb270, 0, none⟩) (Kd.R_types HO_14.out BK270.out (by decide)) (fun _ hk => hk.2) (.int .i64 t264)) (fun _ hk => hk.2) (.int .i64 t265)) (fun _ hk => hk.2) (.int .i64 t266)) (fun _ hk => hk.2) (.int .i64 t267)) (fun _ h_ => h_.1))) hb); have n1_ := Aside0.mk (blk_below (g := gb229) (o := .cells #[.int .i64 t224, .int .i64 t225, .int .i64 t226, .int .i64 t227] 29 (0, 0)) (by (with_reducible repeat (first | refine blk_drewN ?_ _ | refine blk_drew ?_ | refine blk_alloc ?_ _)); refine blk_far ?_ NB229_270.out _; (with_reducible repeat (first | refine blk_drewN ?_ _ | refine blk_drew ?_ | refine blk_alloc ?_ _)); refine blk_far ?_ NB229_270.out _; (with_reducible repeat (first | refine blk_drewN ?_ _ | refine blk_drew ?_ | refine blk_alloc ?_ _)); refine blk_far ?_ NB229_270.out _; (with_reducible repeat (first | refine blk_drewN ?_ _ | refine blk_drew ?_ | refine blk_alloc ?_ _)); refine blk_far ?_ NB229_270.out _; (with_reducible repeat (first | refine blk_drewN ?_ _ | refine blk_drew ?_ | refine blk_alloc ?_ _)); exact BK229.out) hb); have n2_ := Aside0.mk (IsS57.below (show IsS57 w ((((w91.setCell ⟨gb270, 0, none⟩ (.int .i64 t264)).setCell ⟨gb270, 1, none⟩ (.int .i64 t265)).setCell ⟨gb270, 2, none⟩ (.int .i64 t266)).setCell ⟨gb270, 3, none⟩ (.int .i64 t267)) g223 t221 x224001_3 from by repeat (first | (with_reducible first | exact HI223.out | apply IsS57.alloc | apply IsS57.drewN | apply IsS57.drew | apply IsS57.set_1 | refine IsS57.far ?_ NB223_229.out _ | refine IsS57.far ?_ NB223_270.out _) | exact HI223.out)) hb); have n3_ := Aside0.mk (blk_below (g := gb270) (o := .cells #[.int .i64 t264, .int .i64 t265, .int .i64 t266, .int .i64 t267] 29 (0, 0)) (by (with_reducible repeat (first | refine blk_drewN ?_ _ | refine blk_drew ?_ | refine blk_alloc ?_ _)); refine blk_put (cs := #[.int .i64 t264, .int .i64 t265, .int .i64 t266, .int .i64 0]) ?_ 3 _ rfl; (with_reducible repeat (first | refine blk_drewN ?_ _ | refine blk_drew ?_ | refine blk_alloc ?_ _)); refine blk_put (cs := #[.int .i64 t264, .int .i64 t265, .int .i64 0, .int .i64 0]) ?_ 2 _ rfl; (with_reducible repeat (first | refine blk_drewN ?_ _ | refine blk_drew ?_ | refine blk_alloc ?_ _)); refine blk_put (cs := #[.int .i64 t264, .int .i64 0, .int .i64 0, .int .i64 0]) ?_ 1 _ rfl; (with_reducible repeat (first | refine blk_drewN ?_ _ | refine blk_drew ?_ | refine blk_alloc ?_ _)); refine blk_put (cs := #[.int .i64 0, .int .i64 0, .int .i64 0, .int .i64 0]) ?_ 0 _ rfl; (with_reducible repeat (first | refine blk_drewN ?_ _ | refine blk_drew ?_ | refine blk_alloc ?_ _)); exact BK270.out) hb); have n4_ := Aside0.mk (below_step (by repeat (first | (with_reducible first | exact HB.out | apply below_alloc | apply pw_below_drewN | apply below_drew1 | refine below_set ?_ (IsS57.ge HI223.out) | refine below_set ?_ GE229.out | refine below_set ?_ GE270.out) | exact HB.out)) hb); clear HO_14; clear BK229; clear HI223; clear BK270; clear HB; have HO_14 := n0_; have BK229 := n1_; have HI223 := n2_; have BK270 := n3_; have HB := n4_; clear n0_ n1_ n2_ n3_ n4_; (try clear hb); (try clear hb2); (try clear hk); (try clear hi)))
                            go_ret
                            exact ⟨by first | rfl | (simp [errW_none, errW_some] <;> rfl) | (simp [*, errW_none, errW_some] <;> rfl), by repeat (first | (with_reducible first | exact HB.out | apply below_alloc | apply pw_below_drewN | apply below_drew1 | refine below_set ?_ (IsS57.ge HI223.out) | refine below_set ?_ GE229.out | refine below_set ?_ GE270.out) | exact HB.out)⟩
                          · rw [if_neg c88] at H
                            have c88b0 : (t268 == t232) = false := beq_eq_false_iff_ne.mpr c88
                            have c88b1 : (t268 != t232) = true := bne_iff_ne.mpr c88
                            obtain rfl := Option.some.inj H
                            go_wp2_with (first | ((with_reducible refine gate_callee (f := 9) rfl ?_); refine goesL_ (some 109) rfl rfl Tryd.func9 (by kernel_rfl) rfl #[.string x11_3] rfl (by (try simp only [List.map_toArray, List.map_cons, List.map_nil]); first | done | rfl | (simp only [List.length_drop, List.length_take]; rfl)) ?_; (with_reducible refine (strip_Read.calls x11_3 t264 t265 t266 t267 t268 t269 _ A85.out).mono ?_); rintro e w98 ⟨rfl, hb⟩; refine ⟨_, rfl, ?_⟩; have n0_ := Aside0.mk (Kd.R_below (by (with_reducible repeat (first | apply Kd.R_alloc | apply Kd.R_drewN | apply Kd.R_drew)); exact HO_14.out) hb); have n1_ := Aside0.mk (blk_below (g := gb229) (o := .cells #[.int .i64 t224, .int .i64 t225, .int .i64 t226, .int .i64 t227] 29 (0, 0)) (by (with_reducible repeat (first | refine blk_drewN ?_ _ | refine blk_drew ?_ | refine blk_alloc ?_ _)); exact BK229.out) hb); have n2_ := Aside0.mk (IsS57.below (by repeat (first | (with_reducible first | exact HI223.out | apply IsS57.alloc | apply IsS57.drewN | apply IsS57.drew | apply IsS57.set_1 | refine IsS57.far ?_ NB223_229.out _) | exact HI223.out)) hb); have n3_ := Aside0.mk (below_step (by repeat (first | (with_reducible first | exact HB.out | apply below_alloc | apply pw_below_drewN | apply below_drew1 | refine below_set ?_ (IsS57.ge HI223.out) | refine below_set ?_ GE229.out) | exact HB.out)) hb); clear HO_14; clear BK229; clear HI223; clear HB; have HO_14 := n0_; have BK229 := n1_; have HI223 := n2_; have HB := n3_; clear n0_ n1_ n2_ n3_; (try clear hb); (try clear hb2); (try clear hk); (try clear hi)) | ((with_reducible refine gate_dst (N := 19) rfl ?_); (try (refine gate_guard (by rfl) ?_; dsimp only)); refine box_event ?hg (N := 19) ?hd (cs := #[.int .i64 0, .int .i64 0, .int .i64 0, .int .i64 0]) (t := 29) ?hr ?_; (case hd => rfl); (case hg => rfl); (case hr => first | (go_simp; done) | (go_simp; rfl)); intro gb270 hg w99 hbox hb; have n0_ := Aside0.mk (Kd.R_below (by (with_reducible repeat (first | apply Kd.R_alloc | apply Kd.R_drewN | apply Kd.R_drew)); exact HO_14.out) hb); have n1_ := Aside0.mk (blk_below (g := gb229) (o := .cells #[.int .i64 t224, .int .i64 t225, .int .i64 t226, .int .i64 t227] 29 (0, 0)) (by (with_reducible repeat (first | refine blk_drewN ?_ _ | refine blk_drew ?_ | refine blk_alloc ?_ _)); exact BK229.out) hb); have n2_ := Aside0.mk (IsS57.below (by repeat (first | (with_reducible first | exact HI223.out | apply IsS57.alloc | apply IsS57.drewN | apply IsS57.drew | apply IsS57.set_1 | refine IsS57.far ?_ NB223_229.out _) | exact HI223.out)) hb); have n3_ := Aside0.mk (below_step (by repeat (first | (with_reducible first | exact HB.out | apply below_alloc | apply pw_below_drewN | apply below_drew1 | refine below_set ?_ (IsS57.ge HI223.out) | refine below_set ?_ GE229.out) | exact HB.out)) hb); have n4_ := Aside0.mk (hbox); have n5_ := Aside0.mk ((by rw [hg]; exact (below_size (by repeat (first | (with_reducible first | exact HB.out | apply below_alloc | apply pw_below_drewN | apply below_drew1 | refine below_set ?_ (IsS57.ge HI223.out) | refine below_set ?_ GE229.out) | exact HB.out))) : w.heap.size ≤ gb270)); have n6_ := Aside0.mk ((by rw [hg]; exact (below_size (by repeat (first | (with_reducible first | exact HB.out | apply below_alloc | apply pw_below_drewN | apply below_drew1 | refine below_set ?_ (IsS57.ge HI223.out) | refine below_set ?_ GE229.out) | exact HB.out))) : w.heap.size ≤ gb270)); have n7_ := Aside0.mk ((by rw [hg]; exact Nat.ne_of_lt (blk_lt (g := gb229) (o := .cells #[.int .i64 t224, .int .i64 t225, .int .i64 t226, .int .i64 t227] 29 (0, 0)) (by (with_reducible repeat (first | refine blk_drewN ?_ _ | refine blk_drew ?_ | refine blk_alloc ?_ _)); exact BK229.out)) : gb229 ≠ gb270)); have n8_ := Aside0.mk ((by rw [hg]; exact Nat.ne_of_gt (blk_lt (g := gb229) (o := .cells #[.int .i64 t224, .int .i64 t225, .int .i64 t226, .int .i64 t227] 29 (0, 0)) (by (with_reducible repeat (first | refine blk_drewN ?_ _ | refine blk_drew ?_ | refine blk_alloc ?_ _)); exact BK229.out)) : gb270 ≠ gb229)); have n9_ := Aside0.mk ((by rw [hg]; exact Nat.ne_of_lt (IsS57.lt (show IsS57 w _ g223 t221 x224001_3 from by repeat (first | (with_reducible first | exact HI223.out | apply IsS57.alloc | apply IsS57.drewN | apply IsS57.drew | apply IsS57.set_1 | refine IsS57.far ?_ NB223_229.out _) | exact HI223.out))) : g223 ≠ gb270)); have n10_ := Aside0.mk ((by rw [hg]; exact Nat.ne_of_gt (IsS57.lt (show IsS57 w _ g223 t221 x224001_3 from by repeat (first | (with_reducible first | exact HI223.out | apply IsS57.alloc | apply IsS57.drewN | apply IsS57.drew | apply IsS57.set_1 | refine IsS57.far ?_ NB223_229.out _) | exact HI223.out))) : gb270 ≠ g223)); clear HO_14; clear BK229; clear HI223; clear HB; have HO_14 := n0_; have BK229 := n1_; have HI223 := n2_; have HB := n3_; have BK270 := n4_; have GW270 := n5_; have GE270 := n6_; have NB229_270 := n7_; have NB270_229 := n8_; have NB223_270 := n9_; have NB270_223 := n10_; clear n0_ n1_ n2_ n3_ n4_ n5_ n6_ n7_ n8_ n9_ n10_; clear hb hbox hg; have hnb100 := NB270_229.out; have hnc100 := NB229_270.out; have hnb101 := NB270_223.out; have hnc101 := NB223_270.out; have hcz102_0 : w99.cell? ⟨gb270, 0, none⟩ = some (.int .i64 0) := (blk_cell BK270.out 0).trans rfl; have hcz102_1 : w99.cell? ⟨gb270, 1, none⟩ = some (.int .i64 0) := (blk_cell BK270.out 1).trans rfl; have hcz102_2 : w99.cell? ⟨gb270, 2, none⟩ = some (.int .i64 0) := (blk_cell BK270.out 2).trans rfl; have hcz102_3 : w99.cell? ⟨gb270, 3, none⟩ = some (.int .i64 0) := (blk_cell BK270.out 3).trans rfl; have hfz102_0 := blk_frozen BK270.out 0; have hfz102_1 := blk_frozen BK270.out 1; have hfz102_2 := blk_frozen BK270.out 2; have hfz102_3 := blk_frozen BK270.out 3; have hnb103 := NB229_223.out; have hnc103 := NB223_229.out; have hcz104_0 : w99.cell? ⟨gb229, 0, none⟩ = some (.int .i64 t224) := (blk_cell BK229.out 0).trans rfl; have hcz104_1 : w99.cell? ⟨gb229, 1, none⟩ = some (.int .i64 t225) := (blk_cell BK229.out 1).trans rfl; have hcz104_2 : w99.cell? ⟨gb229, 2, none⟩ = some (.int .i64 t226) := (blk_cell BK229.out 2).trans rfl; have hcz104_3 : w99.cell? ⟨gb229, 3, none⟩ = some (.int .i64 t227) := (blk_cell BK229.out 3).trans rfl; have hfz104_0 := blk_frozen BK229.out 0; have hfz104_1 := blk_frozen BK229.out 1; have hfz104_2 := blk_frozen BK229.out 2; have hfz104_3 := blk_frozen BK229.out 3))
                            go_ret
                            exact ⟨by first | rfl | (simp [errW_none, errW_some] <;> rfl) | (simp [*, errW_none, errW_some] <;> rfl), by repeat (first | (with_reducible first | exact HB.out | apply below_alloc | apply pw_below_drewN | apply below_drew1 | refine below_set ?_ (IsS57.ge HI223.out) | refine below_set ?_ GE229.out | refine below_set ?_ GE270.out) | exact HB.out)⟩
                        · rw [if_neg c87] at H
                          have c87b0 : (t264 == t224 && (t265 == t225 && (t266 == t226 && (t267 == t227)))) = false := by simpa using c87
                          (try (have c87b1 : decide (t264 = t224 && (t265 == t225 && (t266 == t226 && (t267 == t227)))) = false := by simpa using c87))
                          (try (have c87b2 : (t264 == t224 && (t265 == t225 && (t266 == t226 && (t267 == t227)))) = false := by simpa using c87))
                          (try (have c87b3 : ¬ (t264 = t224 && (t265 == t225 && (t266 == t226 && (t267 == t227)))) := by simpa using c87))
                          clear c87
                          obtain rfl := Option.some.inj H
                          go_wp2_with (first | ((with_reducible refine gate_callee (f := 9) rfl ?_); refine goesL_ (some 109) rfl rfl Tryd.func9 (by kernel_rfl) rfl #[.string x11_3] rfl (by (try simp only [List.map_toArray, List.map_cons, List.map_nil]); first | done | rfl | (simp only [List.length_drop, List.length_take]; rfl)) ?_; (with_reducible refine (strip_Read.calls x11_3 t264 t265 t266 t267 t268 t269 _ A85.out).mono ?_); rintro e w105 ⟨rfl, hb⟩; refine ⟨_, rfl, ?_⟩; have n0_ := Aside0.mk (Kd.R_below (by (with_reducible repeat (first | apply Kd.R_alloc | apply Kd.R_drewN | apply Kd.R_drew)); exact HO_14.out) hb); have n1_ := Aside0.mk (blk_below (g := gb229) (o := .cells #[.int .i64 t224, .int .i64 t225, .int .i64 t226, .int .i64 t227] 29 (0, 0)) (by (with_reducible repeat (first | refine blk_drewN ?_ _ | refine blk_drew ?_ | refine blk_alloc ?_ _)); exact BK229.out) hb); have n2_ := Aside0.mk (IsS57.below (by repeat (first | (with_reducible first | exact HI223.out | apply IsS57.alloc | apply IsS57.drewN | apply IsS57.drew | apply IsS57.set_1 | refine IsS57.far ?_ NB223_229.out _) | exact HI223.out)) hb); have n3_ := Aside0.mk (below_step (by repeat (first | (with_reducible first | exact HB.out | apply below_alloc | apply pw_below_drewN | apply below_drew1 | refine below_set ?_ (IsS57.ge HI223.out) | refine below_set ?_ GE229.out) | exact HB.out)) hb); clear HO_14; clear BK229; clear HI223; clear HB; have HO_14 := n0_; have BK229 := n1_; have HI223 := n2_; have HB := n3_; clear n0_ n1_ n2_ n3_; (try clear hb); (try clear hb2); (try clear hk); (try clear hi)) | ((with_reducible refine gate_dst (N := 19) rfl ?_); (try (refine gate_guard (by rfl) ?_; dsimp only)); refine box_event ?hg (N := 19) ?hd (cs := #[.int .i64 0, .int .i64 0, .int .i64 0, .int .i64 0]) (t := 29) ?hr ?_; (case hd => rfl); (case hg => rfl); (case hr => first | (go_simp; done) | (go_simp; rfl)); intro gb270 hg w106 hbox hb; have n0_ := Aside0.mk (Kd.R_below (by (with_reducible repeat (first | apply Kd.R_alloc | apply Kd.R_drewN | apply Kd.R_drew)); exact HO_14.out) hb); have n1_ := Aside0.mk (blk_below (g := gb229) (o := .cells #[.int .i64 t224, .int .i64 t225, .int .i64 t226, .int .i64 t227] 29 (0, 0)) (by (with_reducible repeat (first | refine blk_drewN ?_ _ | refine blk_drew ?_ | refine blk_alloc ?_ _)); exact BK229.out) hb); have n2_ := Aside0.mk (IsS57.below (by repeat (first | (with_reducible first | exact HI223.out | apply IsS57.alloc | apply IsS57.drewN | apply IsS57.drew | apply IsS57.set_1 | refine IsS57.far ?_ NB223_229.out _) | exact HI223.out)) hb); have n3_ := Aside0.mk (below_step (by repeat (first | (with_reducible first | exact HB.out | apply below_alloc | apply pw_below_drewN | apply below_drew1 | refine below_set ?_ (IsS57.ge HI223.out) | refine below_set ?_ GE229.out) | exact HB.out)) hb); have n4_ := Aside0.mk (hbox); have n5_ := Aside0.mk ((by rw [hg]; exact (below_size (by repeat (first | (with_reducible first | exact HB.out | apply below_alloc | apply pw_below_drewN | apply below_drew1 | refine below_set ?_ (IsS57.ge HI223.out) | refine below_set ?_ GE229.out) | exact HB.out))) : w.heap.size ≤ gb270)); have n6_ := Aside0.mk ((by rw [hg]; exact (below_size (by repeat (first | (with_reducible first | exact HB.out | apply below_alloc | apply pw_below_drewN | apply below_drew1 | refine below_set ?_ (IsS57.ge HI223.out) | refine below_set ?_ GE229.out) | exact HB.out))) : w.heap.size ≤ gb270)); have n7_ := Aside0.mk ((by rw [hg]; exact Nat.ne_of_lt (blk_lt (g := gb229) (o := .cells #[.int .i64 t224, .int .i64 t225, .int .i64 t226, .int .i64 t227] 29 (0, 0)) (by (with_reducible repeat (first | refine blk_drewN ?_ _ | refine blk_drew ?_ | refine blk_alloc ?_ _)); exact BK229.out)) : gb229 ≠ gb270)); have n8_ := Aside0.mk ((by rw [hg]; exact Nat.ne_of_gt (blk_lt (g := gb229) (o := .cells #[.int .i64 t224, .int .i64 t225, .int .i64 t226, .int .i64 t227] 29 (0, 0)) (by (with_reducible repeat (first | refine blk_drewN ?_ _ | refine blk_drew ?_ | refine blk_alloc ?_ _)); exact BK229.out)) : gb270 ≠ gb229)); have n9_ := Aside0.mk ((by rw [hg]; exact Nat.ne_of_lt (IsS57.lt (show IsS57 w _ g223 t221 x224001_3 from by repeat (first | (with_reducible first | exact HI223.out | apply IsS57.alloc | apply IsS57.drewN | apply IsS57.drew | apply IsS57.set_1 | refine IsS57.far ?_ NB223_229.out _) | exact HI223.out))) : g223 ≠ gb270)); have n10_ := Aside0.mk ((by rw [hg]; exact Nat.ne_of_gt (IsS57.lt (show IsS57 w _ g223 t221 x224001_3 from by repeat (first | (with_reducible first | exact HI223.out | apply IsS57.alloc | apply IsS57.drewN | apply IsS57.drew | apply IsS57.set_1 | refine IsS57.far ?_ NB223_229.out _) | exact HI223.out))) : gb270 ≠ g223)); clear HO_14; clear BK229; clear HI223; clear HB; have HO_14 := n0_; have BK229 := n1_; have HI223 := n2_; have HB := n3_; have BK270 := n4_; have GW270 := n5_; have GE270 := n6_; have NB229_270 := n7_; have NB270_229 := n8_; have NB223_270 := n9_; have NB270_223 := n10_; clear n0_ n1_ n2_ n3_ n4_ n5_ n6_ n7_ n8_ n9_ n10_; clear hb hbox hg; have hnb107 := NB270_229.out; have hnc107 := NB229_270.out; have hnb108 := NB270_223.out; have hnc108 := NB223_270.out; have hcz109_0 : w106.cell? ⟨gb270, 0, none⟩ = some (.int .i64 0) := (blk_cell BK270.out 0).trans rfl; have hcz109_1 : w106.cell? ⟨gb270, 1, none⟩ = some (.int .i64 0) := (blk_cell BK270.out 1).trans rfl; have hcz109_2 : w106.cell? ⟨gb270, 2, none⟩ = some (.int .i64 0) := (blk_cell BK270.out 2).trans rfl; have hcz109_3 : w106.cell? ⟨gb270, 3, none⟩ = some (.int .i64 0) := (blk_cell BK270.out 3).trans rfl; have hfz109_0 := blk_frozen BK270.out 0; have hfz109_1 := blk_frozen BK270.out 1; have hfz109_2 := blk_frozen BK270.out 2; have hfz109_3 := blk_frozen BK270.out 3; have hnb110 := NB229_223.out; have hnc110 := NB223_229.out; have hcz111_0 : w106.cell? ⟨gb229, 0, none⟩ = some (.int .i64 t224) := (blk_cell BK229.out 0).trans rfl; have hcz111_1 : w106.cell? ⟨gb229, 1, none⟩ = some (.int .i64 t225) := (blk_cell BK229.out 1).trans rfl; have hcz111_2 : w106.cell? ⟨gb229, 2, none⟩ = some (.int .i64 t226) := (blk_cell BK229.out 2).trans rfl; have hcz111_3 : w106.cell? ⟨gb229, 3, none⟩ = some (.int .i64 t227) := (blk_cell BK229.out 3).trans rfl; have hfz111_0 := blk_frozen BK229.out 0; have hfz111_1 := blk_frozen BK229.out 1; have hfz111_2 := blk_frozen BK229.out 2; have hfz111_3 := blk_frozen BK229.out 3))
                          go_ret
                          exact ⟨by first | rfl | (simp [errW_none, errW_some] <;> rfl) | (simp [*, errW_none, errW_some] <;> rfl), by repeat (first | (with_reducible first | exact HB.out | apply below_alloc | apply pw_below_drewN | apply below_drew1 | refine below_set ?_ (IsS57.ge HI223.out) | refine below_set ?_ GE229.out | refine below_set ?_ GE270.out) | exact HB.out)⟩
                      · rw [if_neg c86] at H
                        have c86b0 : (t269 == 0) = false := beq_eq_false_iff_ne.mpr c86
                        have c86b1 : (t269 != 0) = true := bne_iff_ne.mpr c86
                        obtain rfl := Option.some.inj H
                        go_wp2_with (first | ((with_reducible refine gate_callee (f := 9) rfl ?_); refine goesL_ (some 109) rfl rfl Tryd.func9 (by kernel_rfl) rfl #[.string x11_3] rfl (by (try simp only [List.map_toArray, List.map_cons, List.map_nil]); first | done | rfl | (simp only [List.length_drop, List.length_take]; rfl)) ?_; (with_reducible refine (strip_Read.calls x11_3 t264 t265 t266 t267 t268 t269 _ A85.out).mono ?_); rintro e w112 ⟨rfl, hb⟩; refine ⟨_, rfl, ?_⟩; have n0_ := Aside0.mk (Kd.R_below (by (with_reducible repeat (first | apply Kd.R_alloc | apply Kd.R_drewN | apply Kd.R_drew)); exact HO_14.out) hb); have n1_ := Aside0.mk (blk_below (g := gb229) (o := .cells #[.int .i64 t224, .int .i64 t225, .int .i64 t226, .int .i64 t227] 29 (0, 0)) (by (with_reducible repeat (first | refine blk_drewN ?_ _ | refine blk_drew ?_ | refine blk_alloc ?_ _)); exact BK229.out) hb); have n2_ := Aside0.mk (IsS57.below (by repeat (first | (with_reducible first | exact HI223.out | apply IsS57.alloc | apply IsS57.drewN | apply IsS57.drew | apply IsS57.set_1 | refine IsS57.far ?_ NB223_229.out _) | exact HI223.out)) hb); have n3_ := Aside0.mk (below_step (by repeat (first | (with_reducible first | exact HB.out | apply below_alloc | apply pw_below_drewN | apply below_drew1 | refine below_set ?_ (IsS57.ge HI223.out) | refine below_set ?_ GE229.out) | exact HB.out)) hb); clear HO_14; clear BK229; clear HI223; clear HB; have HO_14 := n0_; have BK229 := n1_; have HI223 := n2_; have HB := n3_; clear n0_ n1_ n2_ n3_; (try clear hb); (try clear hb2); (try clear hk); (try clear hi)) | ((with_reducible refine gate_dst (N := 19) rfl ?_); (try (refine gate_guard (by rfl) ?_; dsimp only)); refine box_event ?hg (N := 19) ?hd (cs := #[.int .i64 0, .int .i64 0, .int .i64 0, .int .i64 0]) (t := 29) ?hr ?_; (case hd => rfl); (case hg => rfl); (case hr => first | (go_simp; done) | (go_simp; rfl)); intro gb270 hg w113 hbox hb; have n0_ := Aside0.mk (Kd.R_below (by (with_reducible repeat (first | apply Kd.R_alloc | apply Kd.R_drewN | apply Kd.R_drew)); exact HO_14.out) hb); have n1_ := Aside0.mk (blk_below (g := gb229) (o := .cells #[.int .i64 t224, .int .i64 t225, .int .i64 t226, .int .i64 t227] 29 (0, 0)) (by (with_reducible repeat (first | refine blk_drewN ?_ _ | refine blk_drew ?_ | refine blk_alloc ?_ _)); exact BK229.out) hb); have n2_ := Aside0.mk (IsS57.below (by repeat (first | (with_reducible first | exact HI223.out | apply IsS57.alloc | apply IsS57.drewN | apply IsS57.drew | apply IsS57.set_1 | refine IsS57.far ?_ NB223_229.out _) | exact HI223.out)) hb); have n3_ := Aside0.mk (below_step (by repeat (first | (with_reducible first | exact HB.out | apply below_alloc | apply pw_below_drewN | apply below_drew1 | refine below_set ?_ (IsS57.ge HI223.out) | refine below_set ?_ GE229.out) | exact HB.out)) hb); have n4_ := Aside0.mk (hbox); have n5_ := Aside0.mk ((by rw [hg]; exact (below_size (by repeat (first | (with_reducible first | exact HB.out | apply below_alloc | apply pw_below_drewN | apply below_drew1 | refine below_set ?_ (IsS57.ge HI223.out) | refine below_set ?_ GE229.out) | exact HB.out))) : w.heap.size ≤ gb270)); have n6_ := Aside0.mk ((by rw [hg]; exact (below_size (by repeat (first | (with_reducible first | exact HB.out | apply below_alloc | apply pw_below_drewN | apply below_drew1 | refine below_set ?_ (IsS57.ge HI223.out) | refine below_set ?_ GE229.out) | exact HB.out))) : w.heap.size ≤ gb270)); have n7_ := Aside0.mk ((by rw [hg]; exact Nat.ne_of_lt (blk_lt (g := gb229) (o := .cells #[.int .i64 t224, .int .i64 t225, .int .i64 t226, .int .i64 t227] 29 (0, 0)) (by (with_reducible repeat (first | refine blk_drewN ?_ _ | refine blk_drew ?_ | refine blk_alloc ?_ _)); exact BK229.out)) : gb229 ≠ gb270)); have n8_ := Aside0.mk ((by rw [hg]; exact Nat.ne_of_gt (blk_lt (g := gb229) (o := .cells #[.int .i64 t224, .int .i64 t225, .int .i64 t226, .int .i64 t227] 29 (0, 0)) (by (with_reducible repeat (first | refine blk_drewN ?_ _ | refine blk_drew ?_ | refine blk_alloc ?_ _)); exact BK229.out)) : gb270 ≠ gb229)); have n9_ := Aside0.mk ((by rw [hg]; exact Nat.ne_of_lt (IsS57.lt (show IsS57 w _ g223 t221 x224001_3 from by repeat (first | (with_reducible first | exact HI223.out | apply IsS57.alloc | apply IsS57.drewN | apply IsS57.drew | apply IsS57.set_1 | refine IsS57.far ?_ NB223_229.out _) | exact HI223.out))) : g223 ≠ gb270)); have n10_ := Aside0.mk ((by rw [hg]; exact Nat.ne_of_gt (IsS57.lt (show IsS57 w _ g223 t221 x224001_3 from by repeat (first | (with_reducible first | exact HI223.out | apply IsS57.alloc | apply IsS57.drewN | apply IsS57.drew | apply IsS57.set_1 | refine IsS57.far ?_ NB223_229.out _) | exact HI223.out))) : gb270 ≠ g223)); clear HO_14; clear BK229; clear HI223; clear HB; have HO_14 := n0_; have BK229 := n1_; have HI223 := n2_; have HB := n3_; have BK270 := n4_; have GW270 := n5_; have GE270 := n6_; have NB229_270 := n7_; have NB270_229 := n8_; have NB223_270 := n9_; have NB270_223 := n10_; clear n0_ n1_ n2_ n3_ n4_ n5_ n6_ n7_ n8_ n9_ n10_; clear hb hbox hg; have hnb114 := NB270_229.out; have hnc114 := NB229_270.out; have hnb115 := NB270_223.out; have hnc115 := NB223_270.out; have hcz116_0 : w113.cell? ⟨gb270, 0, none⟩ = some (.int .i64 0) := (blk_cell BK270.out 0).trans rfl; have hcz116_1 : w113.cell? ⟨gb270, 1, none⟩ = some (.int .i64 0) := (blk_cell BK270.out 1).trans rfl; have hcz116_2 : w113.cell? ⟨gb270, 2, none⟩ = some (.int .i64 0) := (blk_cell BK270.out 2).trans rfl; have hcz116_3 : w113.cell? ⟨gb270, 3, none⟩ = some (.int .i64 0) := (blk_cell BK270.out 3).trans rfl; have hfz116_0 := blk_frozen BK270.out 0; have hfz116_1 := blk_frozen BK270.out 1; have hfz116_2 := blk_frozen BK270.out 2; have hfz116_3 := blk_frozen BK270.out 3))
                        go_ret
                        exact ⟨by first | rfl | (simp [errW_none, errW_some] <;> rfl) | (simp [*, errW_none, errW_some] <;> rfl), by repeat (first | (with_reducible first | exact HB.out | apply below_alloc | apply pw_below_drewN | apply below_drew1 | refine below_set ?_ (IsS57.ge HI223.out) | refine below_set ?_ GE229.out | refine below_set ?_ GE270.out) | exact HB.out)⟩
/-- THE ONE PURE STATEMENT of awardingbodylaw19_StripSurvives: yours. -/
def awardingbodylaw19_StripSurvives.Pure : Prop := ∀ (l0 : List Int) (a1 : Int) (a2 : Int) (a3 : Bool), l0.length ≤ maxLen → l0.length * 8 ≤ 140737488351232 → (∀ x ∈ l0, (Lit.int .i64 x).wf = true) → (Lit.int .i64 a1).wf = true → (Lit.int .i64 a2).wf = true → ∃ k, awardingbodylaw19_StripSurvives.f k l0 a1 a2 a3 = some true
theorem awardingbodylaw19_StripSurvives.walk (P : awardingbodylaw19_StripSurvives.Pure) (a0 : Option Addr) (len0 cap0 : Nat) (z0 : List Int) (a1 : Int) (a2 : Int) (a3 : Bool) (w : World) (w0 : (a0 = none ∧ len0 = 0 ∧ cap0 = 0 ∧ z0 = []) ∨ ∃ x, a0 = some x ∧ len0 ≤ cap0 ∧ cap0 ≤ maxLen ∧ z0.length = cap0 ∧ (∀ i, i < z0.length → w.cell? (x.add i) = some (.int .i64 (z0.getD i 0))) ∧ ∀ n ∈ z0, (Lit.int .i64 n).wf = true) (y0 : len0 * 8 ≤ 140737488351232) (w1 : (Lit.int .i64 a1).wf = true) (w2 : (Lit.int .i64 a2).wf = true) :
    Calls Tryd.prog 4 #[.slice a0 len0 cap0, .int .i64 a1, .int .i64 a2, .bool a3] w fun e w' => e = .returned (.bool true) ∧ Below w.heap.size w w' := by
  obtain ⟨l0, rfl, hr0, hm0, hw0, hc0⟩ := ReadsInt.ofRowC w0
  obtain ⟨k, h⟩ := P l0 a1 a2 a3 hm0 y0 hw0 w1 w2
  refine (awardingbodylaw19_StripSurvives.calls k _ _ l0 a1 a2 a3 true w (Kd.C_of_reads (d := (0 : Int)) (h1 := fun _ => rfl) hr0) hc0 h).mono ?_
  rintro e w' ⟨rfl, hd⟩
  exact ⟨rfl, hd⟩
end Go.Proofs.YtcpmgkedmmiioaaDoor.P
end
