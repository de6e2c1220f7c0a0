/- stripTurns_card, part 21: what the row's proof needs: words of the print, contracts of functions, the plain law. -/
import Derived.StillTailTactics
import Derived.Lib.Walk
import Derived.Laws.CopyOwn
import Derived.Test.YtcpmgkedmmiioaaGreatDoorKa19
import Derived.Test.YtcpmgkedmmiioaaGreatDoorKa20
import Derived.Test.YtcpmgkedmmiioaaGreatDoorKa14
section
set_option linter.unusedVariables false
namespace Go.Proofs.YtcpmgkedmmiioaaGreatDoor.R
open Go.RowKit Go.Proofs.YtcpmgkedmmiioaaGreatDoorW.PrintWords Go.Proofs.YtcpmgkedmmiioaaGreatDoorW.PrintLast Go.Proofs.YtcpmgkedmmiioaaGreatDoorW.PrintMore Go.Proofs.YtcpmgkedmmiioaaGreatDoor.Gf
open H (Row fi fo fi_zero fi_inj fi_bound fi_fo fo_fi val xor_f fv fv_length pl pl_length pl_getD frow frow_length frow_get filled filled_length scaled stage stage2 scaled_zero scaled_stage stage2_zero stage2_end stage_c stage_skip stage_end stage_row stage2_row stage2_c stage2_step scaled_step)
/-- the first k places are blank -/
def blank (lp : List Int) (l : List Int) : Nat → List Int
  | 0 => l
  | k + 1 => (blank lp l k).set ((pl lp).getD k 0) 0
theorem blank_length (lp l : List Int) (k : Nat) : (blank lp l k).length = l.length := by
  induction k with
  | zero => rfl
  | succ k ih => simp only [blank]; rw [List.length_set, ih]
theorem blank_get (lp l : List Int) (i : Nat) (hi : i < l.length) : ∀ k, (blank lp l k).getD i 0 = if ∃ q, q < k ∧ (pl lp).getD q 0 = i then 0 else l.getD i 0 := by
  intro k
  induction k with
  | zero => rw [if_neg (by rintro ⟨q, h, _⟩; omega)]; rfl
  | succ k ih =>
    simp only [blank]
    rw [H.ints_set_getD _ _ _ _ (by rw [blank_length]; exact hi)]
    by_cases h : i = (pl lp).getD k 0
    · rw [if_pos h, if_pos ⟨k, by omega, h.symm⟩]
    · rw [if_neg h, ih]
      by_cases h2 : ∃ q, q < k ∧ (pl lp).getD q 0 = i
      · obtain ⟨q, h3, h4⟩ := h2
        rw [if_pos ⟨q, h3, h4⟩, if_pos ⟨q, by omega, h4⟩]
      · rw [if_neg h2, if_neg]
        rintro ⟨q, h3, h4⟩
        by_cases hq : q = k
        · subst hq; exact h h4.symm
        · exact h2 ⟨q, by omega, h4⟩
theorem _root_.Go.Proofs.YtcpmgkedmmiioaaGreatDoor.R.Bld.grow {base : Nat} {w0 W W1 : World} {vm : Value} {j : Nat} {rows : Nat → List F} {rv : Nat → Value} {vr : Value} {xs : List F} (h : Bld base w0 W vm j rows rv vr xs) (hb : Below W.heap.size W W1) : Bld base w0 W1 vm j rows rv vr xs :=
  ⟨pw_own_below h.top hb, fun q hq => pw_own_below (h.row q hq) hb, h.inj, pw_own_below h.cur hb, h.apart, h.below.trans (hb.mono h.size), Nat.le_trans h.size hb.size⟩
theorem power_pk (n j pk : Nat) (hn : n ≤ 15) (hpk : pk < n) (hj : j < 6) (W : World) : Calls Tryz.prog 228 #[.int .i64 (wrap64 (((j : Int) + 1) * wrap64 ((n : Int) - 1 - (pk : Int))))] W fun e w' => e = .returned (.int .i64 (fi (fpow (px n pk) (1 + j)))) ∧ Below W.heap.size W w' := by
  have h := power_calls (wrap64 (((j : Int) + 1) * ((n : Int) - 1 - (pk : Int)))) W
  rw [H.pow_exp hpk (by omega) hj] at h
  have e : wrap64 ((n : Int) - 1 - (pk : Int)) = (n : Int) - 1 - (pk : Int) := by unfold wrap64; omega
  rw [e]
  exact h
theorem syndrome_n (A : Option Addr) (n c : Nat) (z : List Int) (hz : z.length = n) (W : World) (hr : Kd.C (Kd.int .i64) W A z.length z) (hc : n ≤ c) (hl : n ≤ 15) (hv : ∀ i, i < n → 0 ≤ z.getD i 0 ∧ z.getD i 0 ≤ 31) (j : Nat) (hj : j < 6) :
    Calls Tryz.prog 229 #[.slice A n c, .int .i64 ((j : Int) + 1)] W fun e w' => e = .returned (.int .i64 (fi (syn z.length (val z) j))) ∧ Below W.heap.size W w' := by
  subst hz
  exact syndrome_calls A c z W hr hc hl hv j hj
theorem codeword_n (A : Option Addr) (n c : Nat) (z : List Int) (hz : z.length = n) (W : World) (hr : Kd.C (Kd.int .i64) W A z.length z) (hc : n ≤ c) :
    Calls Tryz.prog 232 #[.slice A n c] W fun e w' => (∃ b, e = .returned (.bool b)) ∧ Below W.heap.size W w' := by
  subst hz
  exact codeword_calls A c z W hr hc
theorem info_int_size : (Tryz.prog.info? 3).map (·.size) = some 1 := by kernel_rfl
theorem info_int : (Tryz.prog.info? 3).map (fun i => (i.zero, i.size, i.bytes)) = some (some (.int .i64 0), 1, 8) := by kernel_rfl
set_option maxHeartbeats 4000000 in
set_option maxRecDepth 100000 in
theorem fill_calls (A : Option Addr) (c : Nat) (l : List Int) (Ap : Option Addr) (cp : Nat) (lp : List Int) (w : World) (hr : Kd.C (Kd.int .i64) w A l.length l) (hc : l.length ≤ c) (hrp : Kd.C (Kd.int .i64) w Ap lp.length lp) (hcp : lp.length ≤ cp)
    (hl1 : 0 < l.length) (hl : l.length ≤ 15) (hv : ∀ i, i < l.length → 0 ≤ (blank lp l lp.length).getD i 0 ∧ (blank lp l lp.length).getD i 0 ≤ 31) (hp : ∀ q, q < lp.length → 0 ≤ lp.getD q 0 ∧ lp.getD q 0 < l.length) (hp6 : lp.length ≤ 6) :
    Calls Tryz.prog 170 #[.slice A l.length c, .slice Ap lp.length cp] w fun e w' => Below w.heap.size w w' ∧
      ((elim 6 (fillM l.length (val (blank lp l lp.length)) (pl lp)) lp.length = none ∧ e = .returned (.tuple #[.slice none 0 0, .bool false])) ∨ ∃ m1 v b, elim 6 (fillM l.length (val (blank lp l lp.length)) (pl lp)) lp.length = some m1 ∧ e = .returned (.tuple #[v, .bool b]) ∧ Kd.R (Kd.int .i64) 3 w' w.heap.size (fun _ => True) v (filled (blank lp l lp.length) lp (fun i => m1 i lp.length) lp.length)) := by
  obtain ⟨z, hz⟩ : ∃ z, blank lp l lp.length = z := ⟨_, rfl⟩
  have HZL : Aside0 (z.length = l.length) := ⟨by rw [← hz, blank_length]⟩
  rw [hz] at hv ⊢
  have HZ := Aside0.mk hz
  clear hz
  obtain ⟨M, hM⟩ : ∃ M, fillM l.length (val z) (pl lp) = M := ⟨_, rfl⟩
  rw [hM]
  have HM := Aside0.mk hM
  clear hM
  have HR := Aside0.mk hr
  have HV := Aside0.mk hv
  have HRP := Aside0.mk hrp
  have HP := Aside0.mk hp
  clear hr hv hrp hp
  obtain ⟨ad0, hA⟩ : ∃ ad, A = some ad := by obtain ⟨ad, e, _⟩ := Kd.at_int HR.out 0 (by omega) (by omega); exact ⟨ad, e⟩
  subst hA
  have hmk : ∀ W : World, (Instr.makeSlice 22 (.int .i64 l.length) (.int .i64 l.length)).run Tryz.prog W = .ok (.slice (some ⟨W.heap.size, 0, none⟩) l.length l.length) (W.alloc (.cells (madeCells #[.int .i64 0] l.length) 3)) := fun W => run_make_row' (P := Tryz.prog) 22 3 (.int .i64 0) 8 Tryz.underlying22 info_int rfl .i64 .i64 l.length (by omega) (by omega) W
  have HB0 : Aside0 (Below w.heap.size w (w.alloc (.cells (madeCells #[.int .i64 0] l.length) 3))) := ⟨below_alloc (Below.refl _ _) _⟩
  have hZ : madeCells #[Value.int .i64 0] l.length = (List.replicate l.length (Value.int .i64 0)).toArray := by
    apply Array.ext_getElem?
    intro i
    by_cases hi : i < l.length
    · simp [madeCells, hi, Nat.mod_one]
    · simp [madeCells, hi]
  have HH0 : Aside0 ((w.alloc (.cells (madeCells #[.int .i64 0] l.length) 3)).heap[w.heap.size]? = some (.cells (List.replicate l.length (Value.int .i64 0)).toArray 3 (0, 0))) := ⟨by rw [← hZ]; exact heap_alloc_new _ _⟩
  have HC0 : Aside0 (∀ q v, (nums .i64 l)[q]? = some v → (w.alloc (.cells (madeCells #[.int .i64 0] l.length) 3)).cell? (Addr.add ad0 q) = some v) := ⟨fun q v hq => by
    have hq1 : q < l.length := by have := (List.getElem?_eq_some_iff.1 hq).1; unfold nums at this; rw [List.length_map] at this; exact this
    obtain ⟨ad, e, hx⟩ := Kd.at_int HR.out (q : Int) (by omega) (by omega)
    cases e
    simp only [Int.toNat_natCast] at hx
    have e2 : (nums .i64 l)[q]? = some (Value.int .i64 (rd l (q : Int))) := by
      unfold nums rd; rw [List.getElem?_map]; simp [hq1]
    rw [e2] at hq
    rw [← Option.some.inj hq]
    exact (HB0.out.cell (World.block_lt_of_cell? w _ hx)).trans hx⟩
  clear hZ
  go_enter Tryz.func170, Tryz.ntmps170
  go_wp2_with (first | ((with_reducible refine gate_builtin (b := .copy) (xs := #[.tmp 26, .tmp 27]) rfl ?_); (refine wpList_copy_splice rfl (.tmp 26) (.tmp 27) 22 22 rfl 3 Tryz.underlying22 info_int_size (some ⟨w.heap.size, 0, none⟩) (some ad0) l.length l.length l.length c rfl rfl w.heap.size 0 (List.replicate l.length (Value.int .i64 0)) 3 HH0.out (nums .i64 l) ?aN ?aP (by simp [nums]) (by simp [nums, Value.oneCell']) w.heap.size w HB0.out (Nat.le_refl _) ?_; (case aN => simp [nums]); (case aP => exact fun _ => ⟨rfl, _, rfl, HC0.out⟩); intro w1 hh hb; have HH1 := Aside0.mk hh; have HB1 := Aside0.mk hb; clear hh hb)))
  have HL : Aside0 (((nums .i64 l).length : Int) = (l.length : Int)) := ⟨by simp [nums]⟩
  obtain ⟨B2, hB2⟩ : ∃ B2, w.heap.size = B2 := ⟨_, rfl⟩
  have HO1 : Aside0 (Kd.R (Kd.int .i64) 3 w1 B2 (fun _ => True) (.slice (some ⟨B2, 0, none⟩) l.length l.length) (blank lp l 0)) := ⟨by
    have h := HH1.out.out
    rw [hB2] at h
    have e : splice (List.replicate l.length (Value.int .i64 0)) 0 (nums .i64 l) = nums .i64 l := by simp [splice, nums]
    rw [e] at h
    have e2 : (nums .i64 l).toArray.toList.take l.length = encs (Value.int .i64) l := by
      have e3 : l.length = (encs (Value.int .i64) l).length := by simp [encs]
      rw [e3]; exact List.take_length
    exact Kd.R_of_own (enc := Value.int .i64) (h1 := fun _ => rfl) (ok := fun _ => True) (xs := l) ⟨by simp [encs], .inr ⟨B2, l.length, _, rfl, Nat.le_refl _, h, Nat.le_refl _, by unfold maxLen; omega, by simp [nums], by first | exact e2 | (simpa using e2)⟩⟩ (fun _ _ => trivial)⟩
  have HW1 : Aside0 (Below B2 w w1) := ⟨by rw [← hB2]; exact HB1.out⟩
  rw [hB2]
  clear HH1 HC0 HH0 HB0 hmk HB1
  go_loopg [8] lp.length (fun g v8 wx => ∃ k : Nat, k ≤ lp.length ∧ v8 = .int .i64 k ∧ Aside0 (g = lp.length - k) ∧ Aside0 (Kd.R (Kd.int .i64) 3 wx B2 (fun _ => True) (.slice (some ⟨B2, 0, none⟩) l.length l.length) (blank lp l k)) ∧ Aside0 (Below B2 w wx))
  case atStart => exact ⟨0, Nat.zero_le _, rfl, ⟨rfl⟩, HO1, HW1⟩
  case round =>
    clear HO1 HW1
    obtain ⟨k, hk, rfl, HG, HO, HW⟩ := hrel
    by_cases hkn : k < lp.length
    · have t2 : decide ((k : Int) < (lp.length : Int)) = true := decide_eq_true (by omega)
      obtain ⟨ad, e, hx⟩ := Kd.at_int HRP.out (k : Int) (by omega) (by omega)
      cases e
      have hlt := World.block_lt_of_cell? w _ hx
      rw [hB2] at hlt
      replace hx := (HW.out.cell hlt).trans hx
      clear hlt
      simp only [Int.toNat_natCast] at hx
      have p1 := eq_true (show (0 : Int) ≤ (k : Int) by omega)
      have q1 := eq_true (show (k : Int) < (lp.length : Int) by omega)
      have hpk : rd lp (k : Int) = (((pl lp).getD k 0 : Nat) : Int) ∧ (pl lp).getD k 0 < l.length := by
        have := HP.out k hkn
        have e : rd lp (k : Int) = lp.getD k 0 := by simp [rd]
        rw [e, pl_getD]; omega
      rw [hpk.1] at hx
      obtain ⟨pk, hpk2⟩ : ∃ pk, (pl lp).getD k 0 = pk := ⟨_, rfl⟩
      rw [hpk2] at hx hpk
      have HPK := Aside0.mk hpk2
      clear hpk2
      have p2 := eq_true (show (0 : Int) ≤ (pk : Int) by omega)
      have q2 := eq_true (show (pk : Int) < (l.length : Int) by omega)
      have HO' : Kd.R (Kd.int .i64) 3 wr B2 (fun _ => True) (.slice (some ⟨B2, 0, none⟩) (blank lp l k).length l.length) (blank lp l k) := by rw [blank_length]; exact HO.out
      obtain ⟨d1, d2⟩ := Kd.R_cell (0 : Int) HO' (pk : Int) (by omega) (by rw [blank_length]; omega)
      simp only [Int.toNat_natCast] at d1 d2
      have HO2 := Aside0.mk HO'
      clear HO' hpk
      go_wp2
      go_roundg (lp.length - (k + 1))
      case measure => have := HG.out; omega
      case rel =>
        refine ⟨k + 1, by omega, by first | rfl | (simp; done), ⟨rfl⟩, ⟨?_⟩, ⟨HW.out.setCell (by simp) _⟩⟩
        have h1 := (Kd.R_put HO2.out (pk : Int) 0).1
        simp only [Int.toNat_natCast] at h1
        simp only [blank]
        rw [HPK.out]
        rw [blank_length] at h1
        exact h1
    · have t2 : decide ((k : Int) < (lp.length : Int)) = false := decide_eq_false (by omega)
      obtain rfl : k = lp.length := by omega
      rw [HZ.out] at HO
      clear hkn hk HG
      go_wp2
      obtain ⟨W3, rfl⟩ : ∃ W3, W3 = wr := ⟨_, rfl⟩
      go_loopg [9, 10] 6 (fun g v9 v10 wx => ∃ j : Nat, j ≤ 6 ∧ v10 = .int .i64 ((j : Int) + 1) ∧ Aside0 (g = 6 - j) ∧ ∃ rv, Aside0 (Bld W3.heap.size W3 wx v9 j (frow z lp) rv (.slice none 0 0) []))
      case atStart => exact ⟨0, Nat.zero_le _, rfl, ⟨rfl⟩, _, ⟨Bld.start W3 W3 (Below.refl _ _) _⟩⟩
      case round =>
        obtain ⟨j, hj, rfl, HG, rv, HBL⟩ := hrel
        by_cases hj6 : j < 6
        · have t1 : decide ((j : Int) + 1 ≤ 6) = true := decide_eq_true (by omega)
          go_wp2
          go_loopg [11, 12] lp.length (fun g v11 v12 wx => ∃ k : Nat, k ≤ lp.length ∧ v12 = .int .i64 k ∧ Aside0 (g = lp.length - k) ∧ Aside0 (Bld W3.heap.size W3 wx u9 j (frow z lp) rv v11 ((List.range k).map (fun q => fpow (px z.length ((pl lp).getD q 0)) (1 + j)))))
          case atStart => exact ⟨0, Nat.zero_le _, rfl, ⟨rfl⟩, HBL⟩
          case round =>
            clear HBL
            obtain ⟨k, hk, rfl, HG2, HBL⟩ := hrel
            by_cases hkn : k < lp.length
            · have t2 : decide ((k : Int) < (lp.length : Int)) = true := decide_eq_true (by omega)
              obtain ⟨ad, e, hx⟩ := Kd.at_int HRP.out (k : Int) (by omega) (by omega)
              cases e
              have hlt := World.block_lt_of_cell? w _ hx
              replace hx := ((HBL.out.below.cell (Nat.lt_of_lt_of_le hlt HW.out.size)).trans ((HW.out.cell (by rw [← hB2]; exact hlt)))).trans hx
              clear hlt
              simp only [Int.toNat_natCast] at hx
              have p1 := eq_true (show (0 : Int) ≤ (k : Int) by omega)
              have q1 := eq_true (show (k : Int) < (lp.length : Int) by omega)
              have hpk : rd lp (k : Int) = (((pl lp).getD k 0 : Nat) : Int) ∧ (pl lp).getD k 0 < l.length := by
                have := HP.out k hkn
                have e : rd lp (k : Int) = lp.getD k 0 := by simp [rd]
                rw [e, pl_getD]; omega
              rw [hpk.1] at hx
              obtain ⟨pk, hpk2⟩ : ∃ pk, (pl lp).getD k 0 = pk := ⟨_, rfl⟩
              rw [hpk2] at hx hpk
              have HPK := Aside0.mk hpk2
              have HPL := Aside0.mk hpk.2
              clear hpk2 hpk
              have HXL : Aside0 (((List.range k).map (fun q => fpow (px z.length ((pl lp).getD q 0)) (1 + j))).length ≤ 6) := ⟨by simp; omega⟩
              obtain ⟨xs, hxs⟩ : ∃ xs, (List.range k).map (fun q => fpow (px z.length ((pl lp).getD q 0)) (1 + j)) = xs := ⟨_, rfl⟩
              rw [hxs] at HBL HXL
              have HXS := Aside0.mk hxs
              clear hxs
              go_wp2_with (first | (go_at_call 228; refine (power_pk l.length j pk hl HPL.out hj6 _).mono ?_; rintro e w5 ⟨rfl, hb5⟩; have HBL1 := Aside0.mk (HBL.out.grow hb5); clear hb5) | (at_builtin; refine print_append (w0 := W3) W3.heap.size rfl (.tmp 51) (.tmp 62) 22 3 (.int .i64 0) 8 rfl Tryz.underlying22 info_int rfl (by decide) u11 (fv xs) (.int .i64 (fi (fpow (px l.length pk) (1 + j)))) rfl rfl rfl ?aO ?aB ?aS ?aL ?_; (case aO => exact HBL1.out.cur'); (case aB => exact HBL1.out.below); (case aS => exact HBL1.out.size); (case aL => have := HXL.out; rw [fv_length]; omega); intro v1 w1 ho hb hg hat; have HBL2 := Aside0.mk (HBL1.out.elem ho hb hg hat); clear ho hb hg hat))
              go_roundg (lp.length - (k + 1))
              case measure => have := HG2.out; omega
              case rel =>
                refine ⟨k + 1, by omega, by first | rfl | (simp; done), ⟨rfl⟩, ⟨?_⟩⟩
                have := HBL2.out
                rw [List.range_succ, List.map_append, HXS.out]
                rw [← HPK.out, ← HZL.out] at this
                exact this
            · have t2 : decide ((k : Int) < (lp.length : Int)) = false := decide_eq_false (by omega)
              have HX0 : Aside0 (((List.range k).map (fun q => fpow (px z.length ((pl lp).getD q 0)) (1 + j))) ++ [syn z.length (val z) j] = frow z lp j) := ⟨by obtain rfl : k = lp.length := (by omega); rfl⟩
              have HXL : Aside0 (((List.range k).map (fun q => fpow (px z.length ((pl lp).getD q 0)) (1 + j))).length ≤ 6) := ⟨by simp; omega⟩
              obtain ⟨xs, hxs⟩ : ∃ xs, (List.range k).map (fun q => fpow (px z.length ((pl lp).getD q 0)) (1 + j)) = xs := ⟨_, rfl⟩
              rw [hxs] at HBL HXL HX0
              clear hxs
              have HRZ : Aside0 (Kd.C (Kd.int .i64) wr (some ⟨B2, 0, none⟩) z.length z) := ⟨by
                have h1 := (Kd.R_reads' HO.out).2.2
                exact Kd.C_below h1 (HBL.out.below.mono (by first | exact Nat.le_refl _))⟩
              go_wp2_with (first | (go_at_call 229; refine (syndrome_n (some ⟨B2, 0, none⟩) l.length l.length z HZL.out _ HRZ.out (Nat.le_refl _) hl HV.out j hj6).mono ?_; rintro e w5 ⟨rfl, hb5⟩; have HBL1 := Aside0.mk (HBL.out.grow hb5); clear hb5) | ((with_reducible refine gate_builtin (b := .append) (xs := #[.tmp 65, .tmp 69]) rfl ?_); at_builtin; refine print_append (w0 := W3) W3.heap.size rfl (.tmp 65) (.tmp 69) 22 3 (.int .i64 0) 8 rfl Tryz.underlying22 info_int rfl (by decide) u11 (fv xs) (.int .i64 (fi (syn z.length (val z) j))) rfl rfl rfl ?aO ?aB ?aS ?aL ?_; (case aO => exact HBL1.out.cur'); (case aB => exact HBL1.out.below); (case aS => exact HBL1.out.size); (case aL => have := HXL.out; rw [fv_length]; omega); intro v1 w1 ho hb hg hat; have HBL2 := Aside0.mk (HBL1.out.elem ho hb hg hat); clear ho hb hg hat; obtain ⟨A1, c1, hv1⟩ := own_slice HBL2.out.cur; subst hv1; simp only [List.length_append, List.length_cons, List.length_nil, Nat.zero_add] at HBL2) | ((with_reducible refine gate_builtin (b := .append) (xs := #[.tmp 64, .tmp 71]) rfl ?_); at_builtin; refine print_append (w0 := W3) W3.heap.size rfl (.tmp 64) (.tmp 71) 45 22 (.slice none 0 0) 24 rfl Tryz.underlying45 info_row rfl (by decide) u9 ((List.range j).map rv) (.slice A1 (xs.length + 1) c1) rfl rfl ?aC ?aO ?aB ?aS ?aL ?_; (case aC => exact HBL2.out.cell); (case aO => exact HBL2.out.top'); (case aB => exact HBL2.out.below); (case aS => exact HBL2.out.size); (case aL => simp; omega); intro v2 w2 ho hb hg hat; have HBL3 := Aside0.mk (HBL2.out.push HX0.out.symm ho hb hg); clear ho hb hg hat))
              go_roundg (6 - (j + 1))
              case measure => have := HG.out; omega
              case rel =>
                obtain ⟨rv', h'⟩ := HBL3.out
                exact ⟨j + 1, by omega, by first | rfl | (simp; done), ⟨rfl⟩, rv', ⟨h'⟩⟩
        · have t1 : decide ((j : Int) + 1 ≤ 6) = false := decide_eq_false (by omega)
          obtain rfl : j = 6 := by omega
          obtain ⟨B0, cr, b, cp2, rfl, hM, hb0, hb⟩ := HBL.out.mat (n := lp.length) (m := fillM z.length (val z) (pl lp)) (by omega) (fun q _ => frow_length z lp q) (fun q k _ hk => frow_get z lp q k hk)
          rw [HZL.out, HM.out] at hM
          have HMT := Aside0.mk hM
          have HB0 := Aside0.mk hb0
          have HB1 := Aside0.mk hb
          have HBW := Aside0.mk HBL.out.below
          clear hM hb0 hb HBL hj hj6 HG
          have hOlt := (Kd.R_cell (0 : Int) (show Kd.R (Kd.int .i64) 3 W3 B2 (fun _ => True) (.slice (some ⟨B2, 0, none⟩) z.length l.length) z by rw [HZL.out]; exact HO.out) 0 (by omega) (by rw [HZL.out]; omega)).1
          have HB2S : Aside0 (B2 < W3.heap.size) := ⟨World.block_lt_of_cell? W3 _ hOlt⟩
          clear hOlt
          obtain ⟨S3, hS3⟩ : ∃ S3, W3.heap.size = S3 := ⟨_, rfl⟩
          rw [hS3] at HB0 HB1 HBW HB2S
          have HS3 := Aside0.mk hS3
          clear hS3
          go_wp2
          go_loopg [13] lp.length (fun g v13 wx => ∃ c1 : Nat, c1 ≤ lp.length ∧ v13 = .int .i64 c1 ∧ ∃ (m1 : Nat → Nat → F) (b1 cp1 : Nat → Nat), Aside0 (g = lp.length - c1) ∧ Aside0 (elim 6 M c1 = some m1) ∧ Aside0 (Mat wx B0 6 lp.length b1 cp1 m1) ∧ Aside0 (∀ i, i < 6 → S3 ≤ b1 i) ∧ Aside0 (Below S3 W3 wx))
          case atStart => exact ⟨0, Nat.zero_le _, rfl, M, b, cp2, ⟨rfl⟩, ⟨rfl⟩, HMT, HB1, HBW⟩
          case round =>
            clear HMT HB1 HBW
            obtain ⟨c1, hc1, rfl, m1, b1, cp1, HG, HE, HMT, HB1, HBW⟩ := hrel
            have hcR := (elim_some (n := lp.length) c1 m1 HE.out).1
            by_cases hcn : c1 < lp.length
            · have t3 : decide ((c1 : Int) < (lp.length : Int)) = true := decide_eq_true (by omega)
              have hcR2 : c1 < 6 := by omega
              go_wp2
              go_loopg [14] (6 - c1) (fun g v14 wx => wx = wr ∧ ∃ row : Nat, c1 ≤ row ∧ row ≤ 6 ∧ v14 = .int .i64 row ∧ Aside0 (g = 6 - row) ∧ Aside0 (∀ i, c1 ≤ i → i < row → m1 i c1 = 0))
              case atStart => exact ⟨rfl, c1, Nat.le_refl _, hcR, rfl, ⟨rfl⟩, ⟨fun i h1 h2 => by omega⟩⟩
              case round =>
                obtain ⟨rfl, row, hcr, hrR, rfl, HG2, HZR⟩ := hrel
                by_cases hrow : row < 6
                · have t4 : decide ((row : Int) < 6) = true := decide_eq_true (by omega)
                  have e1 := HMT.out.top.cell hrow
                  have e2 := (HMT.out.row row hrow).cell (show c1 < lp.length + 1 by omega)
                  have p2 := eq_true (show (0 : Int) ≤ (row : Int) by omega)
                  have p3 := eq_true (show (row : Int) < 6 by omega)
                  have p4 := eq_true (show (0 : Int) ≤ (c1 : Int) by omega)
                  have p5 := eq_true (show (c1 : Int) < (lp.length : Int) + 1 by omega)
                  have p6 := eq_true (show row < 6 from hrow)
                  have p7 := eq_true (show c1 < lp.length + 1 by omega)
                  by_cases hz : m1 row c1 = 0
                  · rw [hz, fi_zero] at e2
                    go_wp2
                    go_roundg (6 - (row + 1))
                    case measure => have := HG2.out; omega
                    case rel =>
                      refine ⟨rfl, row + 1, by omega, by omega, by first | rfl | (simp; done), ⟨rfl⟩, ⟨fun i h1 h2 => ?_⟩⟩
                      by_cases e : i = row
                      · subst e; exact hz
                      · exact HZR.out i h1 (by omega)
                  · have hz2 : (fi (m1 row c1) == 0) = false := by
                      rw [beq_eq_false_iff_ne]; intro e; exact hz (fi_inj (e.trans fi_zero.symm))
                    have t5 : ((row : Int) == 6) = false := by rw [beq_eq_false_iff_ne]; omega
                    have d1 := HMT.out.top.cell (show c1 < 6 by omega)
                    have d2 := HMT.out.top.frozen c1
                    have d3 := HMT.out.top.frozen row
                    have p8 := eq_true (show (c1 : Int) < 6 by omega)
                    have p9 := eq_true (show c1 < 6 by omega)
                    go_upto_region 28 with fail
                    have d4 := (HMT.out.top.set c1 (.slice (some ⟨b1 row, 0, none⟩) (lp.length + 1) (cp1 row))).cell hrow
                    have d5 := (HMT.out.top.set c1 (.slice (some ⟨b1 row, 0, none⟩) (lp.length + 1) (cp1 row))).frozen row
                    have HM2 := HMT.out.swap (show c1 < 6 by omega) hrow
                    have HS2 := (HBW.out.setCell (p := ⟨B0, c1, none⟩) HB0.out (.slice (some ⟨b1 row, 0, none⟩) (lp.length + 1) (cp1 row))).setCell (p := ⟨B0, row, none⟩) HB0.out (.slice (some ⟨b1 c1, 0, none⟩) (lp.length + 1) (cp1 c1))
                    obtain ⟨v4, hv4⟩ : ∃ v, (if row = c1 then Value.slice (some ⟨b1 row, 0, none⟩) (lp.length + 1) (cp1 row) else .slice (some ⟨b1 row, 0, none⟩) (lp.length + 1) (cp1 row)) = v := ⟨_, rfl⟩
                    rw [hv4] at d4
                    clear hv4 d1 d2 d3 e1 e2
                    obtain ⟨w2, hw2⟩ : ∃ w2, w2 = wr.setCell ⟨B0, c1, none⟩ (.slice (some ⟨b1 row, 0, none⟩) (lp.length + 1) (cp1 row)) := ⟨_, rfl⟩
                    rw [← hw2] at d4 d5 HM2 HS2 ⊢
                    clear hw2
                    have HM2 := Aside0.mk HM2
                    have HS2 := Aside0.mk HS2
                    go_upto_region 29 with fail
                    replace HM2 := HM2.out
                    replace HS2 := HS2.out
                    obtain ⟨w3, hw3⟩ : ∃ w3, w3 = w2.setCell ⟨B0, row, none⟩ (.slice (some ⟨b1 c1, 0, none⟩) (lp.length + 1) (cp1 c1)) := ⟨_, rfl⟩
                    rw [← hw3] at HM2 HS2 ⊢
                    clear hw3 d4 d5
                    have HB2 : ∀ i, i < 6 → S3 ≤ (fun i => if i = c1 then b1 row else if i = row then b1 c1 else b1 i) i := by
                      intro i hi; have := HB1.out; simp only; split <;> (try split) <;> apply this <;> omega
                    generalize (fun i => if i = c1 then b1 row else if i = row then b1 c1 else b1 i) = b2 at HM2 HB2
                    generalize (fun i => if i = c1 then cp1 row else if i = row then cp1 c1 else cp1 i) = cp3 at HM2
                    have hpiv : (swapR m1 c1 row) c1 c1 ≠ 0 := by simpa [swapR] using hz
                    have HE2 := Aside0.mk (elim_next HE.out hcr hrow hz HZR.out)
                    generalize swapR m1 c1 row = m2 at HM2 hpiv HE2
                    clear HMT HB1 HE HZR hz hz2 t5 t4 p2 p3 p6 hcr HG2 HBW
                    replace HM2 := Aside0.mk HM2
                    replace HS2 := Aside0.mk HS2
                    replace HB2 := Aside0.mk HB2
                    have Hpiv := Aside0.mk hpiv
                    clear hpiv
                    have e1 := HM2.out.top.cell hcR2
                    have e2 := (HM2.out.row c1 hcR2).cell (show c1 < lp.length + 1 by omega)
                    go_wp2_with (first | (go_at_call 230; refine (inverse_calls _ _).mono ?_; rintro e w' ⟨rfl, rfl⟩))
                    clear e1 e2
                    go_loopg [17] (lp.length + 1) (fun g v17 wx => ∃ k : Nat, k ≤ lp.length + 1 ∧ v17 = .int .i64 k ∧ Aside0 (g = lp.length + 1 - k) ∧ Aside0 (Mat wx B0 6 lp.length b2 cp3 (scaled m2 c1 k)) ∧ Aside0 (Below S3 W3 wx))
                    case atStart => exact ⟨0, Nat.zero_le _, rfl, ⟨rfl⟩, ⟨by rw [scaled_zero]; exact HM2.out⟩, HS2⟩
                    case round =>
                      clear HM2 HS2
                      obtain ⟨k, hk, rfl, HG3, HM2, HS2⟩ := hrel
                      have e1 := HM2.out.top.cell hcR2
                      by_cases hkn : k < lp.length + 1
                      · have t4 : decide ((k : Int) < (lp.length : Int) + 1) = true := decide_eq_true (by omega)
                        have e2 := (HM2.out.row c1 hcR2).cell hkn
                        simp only [scaled, if_true, Nat.lt_irrefl, if_false] at e2
                        have e3 := (HM2.out.row c1 hcR2).frozen k
                        have r1 := eq_true (show (0 : Int) ≤ (k : Int) by omega)
                        have r2 := eq_true (show (k : Int) < (lp.length : Int) + 1 by omega)
                        have r3 := eq_true hkn
                        go_wp2
                        go_still_tail 15, (by kernel_rfl)
                        still_call (mul_still _ _ _)
                        repeat still_step
                        refine wpStill_nil ?_
                        change wpList _ _ _ _ _ wr.drew
                        go_wp2
                        go_roundg (lp.length + 1 - (k + 1))
                        case measure => have := HG3.out; omega
                        case rel =>
                          refine ⟨k + 1, by omega, by first | rfl | (simp; done), ⟨rfl⟩, ⟨((HM2.out.set hcR2 (k := k) _).drew).congr fun i' k' hi' hk' => ?_⟩, ⟨below_drew (HS2.out.setCell (HB2.out c1 hcR2) _)⟩⟩
                          exact scaled_step m2 c1 k i' k'
                      · have t4 : decide ((k : Int) < (lp.length : Int) + 1) = false := decide_eq_false (by omega)
                        have HM3 : Aside0 (Mat wr B0 6 lp.length b2 cp3 (stage m2 c1 0)) := ⟨HM2.out.congr fun i k' _ hk' => by
                          obtain rfl : k = lp.length + 1 := by omega
                          exact scaled_stage m2 c1 lp.length i k' hk'⟩
                        clear HM2
                        go_wp2
                        clear e1
                        go_loopg [18] 6 (fun g v18 wx => ∃ i : Nat, i ≤ 6 ∧ v18 = .int .i64 i ∧ Aside0 (g = 6 - i) ∧ Aside0 (Mat wx B0 6 lp.length b2 cp3 (stage m2 c1 i)) ∧ Aside0 (Below S3 W3 wx))
                        case atStart => exact ⟨0, Nat.zero_le _, rfl, ⟨rfl⟩, HM3, HS2⟩
                        case round =>
                          clear HM3 HS2 t4 hkn hk HG3
                          obtain ⟨i, hi, rfl, HG3, HM2, HS2⟩ := hrel
                          by_cases hiR : i < 6
                          · have t4 : decide ((i : Int) < 6) = true := decide_eq_true (by omega)
                            have e1 := HM2.out.top.cell hiR
                            have e2 := (HM2.out.row i hiR).cell (show c1 < lp.length + 1 by omega)
                            have e4 := HM2.out.top.cell hcR2
                            have r1 := eq_true (show (0 : Int) ≤ (i : Int) by omega)
                            have r2 := eq_true (show (i : Int) < 6 by omega)
                            have r3 := eq_true hiR
                            have HGI : Aside0 (i ≠ c1 → stage m2 c1 i i c1 = m2 i c1) := ⟨fun h => stage_row m2 c1 i c1 h⟩
                            obtain ⟨gi, hgi⟩ : ∃ gi, stage m2 c1 i i c1 = gi := ⟨_, rfl⟩
                            rw [hgi] at e2 HGI
                            clear hgi
                            go_wp2
                            clear e1 e2 e4
                            go_loopg [20] (lp.length + 1) (fun g v20 wx => ∃ k : Nat, k ≤ lp.length + 1 ∧ (i = c1 → k = 0) ∧ v20 = .int .i64 k ∧ Aside0 (g = lp.length + 1 - k) ∧ Aside0 (Mat wx B0 6 lp.length b2 cp3 (stage2 m2 c1 i k)) ∧ Aside0 (Below S3 W3 wx))
                            case atStart => exact ⟨0, Nat.zero_le _, fun _ => rfl, rfl, ⟨rfl⟩, ⟨by rw [stage2_zero]; exact HM2.out⟩, HS2⟩
                            case round =>
                              clear HM2 HS2
                              obtain ⟨k, hk, hk0, rfl, HG4, HM2, HS2⟩ := hrel
                              have e4 := HM2.out.top.cell hcR2
                              by_cases hkn : k < lp.length + 1
                              · have t6 : decide ((k : Int) < (lp.length : Int) + 1) = true := decide_eq_true (by omega)
                                by_cases hic : i = c1
                                · have t7 : ((i : Int) != (c1 : Int)) = false := by simp [hic]
                                  have HK0 := Aside0.mk (hk0 hic)
                                  have HIC := Aside0.mk hic
                                  clear hic hk0
                                  go_wp2
                                  go_roundg (6 - (i + 1))
                                  case measure => have := HG3.out; omega
                                  case rel => exact ⟨i + 1, by omega, by first | rfl | (simp; done), ⟨rfl⟩, ⟨by have := HM2.out; rw [HK0.out, stage2_zero, HIC.out, stage_c] at this; rw [HIC.out]; exact this⟩, HS2⟩
                                · have t7 : ((i : Int) != (c1 : Int)) = true := by rw [bne_iff_ne]; omega
                                  have e1 := HM2.out.top.cell hiR
                                  have e2 := (HM2.out.row i hiR).cell hkn
                                  have e3 := (HM2.out.row i hiR).frozen k
                                  have e5 := (HM2.out.row c1 hcR2).cell hkn
                                  rw [stage2_row _ _ _ _ hic] at e2
                                  rw [stage2_c] at e5
                                  have HIC := Aside0.mk hic
                                  clear hic hk0
                                  have r4 := eq_true (show (0 : Int) ≤ (k : Int) by omega)
                                  have r5 := eq_true (show (k : Int) < (lp.length : Int) + 1 by omega)
                                  have r6 := eq_true hkn
                                  go_wp2
                                  go_still_tail 18, (by kernel_rfl)
                                  still_call (mul_still _ _ _)
                                  repeat still_step
                                  rw [xor_f]
                                  repeat still_step
                                  refine wpStill_nil ?_
                                  change wpList _ _ _ _ _ wr.drew
                                  go_wp2
                                  go_roundg (lp.length + 1 - (k + 1))
                                  case measure => have := HG4.out; omega
                                  case rel =>
                                    refine ⟨k + 1, by omega, fun h => absurd h HIC.out, by first | rfl | (simp; done), ⟨rfl⟩, ⟨((HM2.out.set hiR (k := k) _).drew).congr fun i' k' hi' hk' => ?_⟩, ⟨below_drew (HS2.out.setCell (HB2.out i hiR) _)⟩⟩
                                    rw [HGI.out HIC.out, mul_comm (mul (m2 c1 k) (inv (m2 c1 c1))) (m2 i c1)]
                                    exact stage2_step m2 c1 i k i' k' HIC.out
                              · have t6 : decide ((k : Int) < (lp.length : Int) + 1) = false := decide_eq_false (by omega)
                                have HM4 : Aside0 (Mat wr B0 6 lp.length b2 cp3 (stage m2 c1 (i + 1))) := ⟨HM2.out.congr fun i' k' _ hk' => by
                                  obtain rfl : k = lp.length + 1 := by omega
                                  exact stage2_end m2 c1 i lp.length i' k' hk'⟩
                                clear HM2
                                go_wp2
                                go_roundg (6 - (i + 1))
                                case measure => have := HG3.out; omega
                                case rel => exact ⟨i + 1, by omega, by first | rfl | (simp; done), ⟨rfl⟩, HM4, HS2⟩
                          · have t4 : decide ((i : Int) < 6) = false := decide_eq_false (by omega)
                            obtain rfl : i = 6 := by omega
                            go_wp2
                            go_roundg (lp.length - (c1 + 1))
                            case measure => have := HG.out; omega
                            case rel => exact ⟨c1 + 1, by omega, by first | rfl | (simp; done), _, _, _, ⟨rfl⟩, HE2, ⟨HM2.out.congr fun i' k' hi' _ => stage_end m2 c1 6 i' k' hi'⟩, HB2, HS2⟩
                · have t4 : decide ((row : Int) < 6) = false := decide_eq_false (by omega)
                  obtain rfl : row = 6 := by omega
                  have HNO : Aside0 (elim 6 M lp.length = none) := ⟨by
                    have h1 : elim 6 M (c1 + 1) = none := by
                      unfold elim; rw [HE.out]; simp only [Option.bind_some]; rw [pivot_none_of (6 - c1) (by omega) fun i h1 h2 => HZR.out i (by omega) h2]; rfl
                    have := elim_none h1 (lp.length - (c1 + 1))
                    rw [show c1 + 1 + (lp.length - (c1 + 1)) = lp.length from by omega] at this
                    exact this⟩
                  go_wp2
                  go_ret2
                  exact ⟨by rw [hB2]; exact HW.out.trans (HBW.out.mono (Nat.le_of_lt HB2S.out)), .inl ⟨HNO.out, rfl⟩⟩
            · have t3 : decide ((c1 : Int) < (lp.length : Int)) = false := decide_eq_false (by omega)
              obtain rfl : c1 = lp.length := by omega
              have hcR6 := hcR
              obtain ⟨y, hy⟩ : ∃ y : Nat → F, (fun i => m1 i lp.length) = y := ⟨_, rfl⟩
              have HY : Aside0 (∀ i, m1 i lp.length = y i) := ⟨fun i => by rw [← hy]⟩
              have HO3 : Aside0 (Kd.R (Kd.int .i64) 3 wr B2 (fun _ => True) (.slice (some ⟨B2, 0, none⟩) l.length l.length) (filled z lp y 0)) := ⟨Kd.R_below HO.out (by rw [HS3.out]; exact HBW.out)⟩
              have HW3 : Aside0 (Below B2 w wr) := ⟨HW.out.trans (HBW.out.mono (Nat.le_of_lt HB2S.out))⟩
              have HZ0 : Aside0 (∀ k, k < lp.length → val z ((pl lp).getD k 0) = 0) := ⟨fun k hk => by
                have h1 := HP.out k hk
                have h2 : z.getD ((pl lp).getD k 0) 0 = 0 := by
                  rw [← HZ.out, blank_get lp l _ (by rw [pl_getD]; omega) lp.length, if_pos ⟨k, hk, rfl⟩]
                unfold H.val
                rw [h2]; rfl⟩
              have HNE : Aside0 (B0 ≠ B2 ∧ ∀ i, i < 6 → b1 i ≠ B2) := ⟨⟨by have := HB0.out; have := HB2S.out; omega, fun i hi => by have := HB1.out i hi; have := HB2S.out; omega⟩⟩
              clear hy HO HBW
              go_wp2
              go_loopg [21] lp.length (fun g v21 wx => ∃ k : Nat, k ≤ lp.length ∧ v21 = .int .i64 k ∧ Aside0 (g = lp.length - k) ∧ Aside0 (Kd.R (Kd.int .i64) 3 wx B2 (fun _ => True) (.slice (some ⟨B2, 0, none⟩) l.length l.length) (filled z lp y k)) ∧ Aside0 (Mat wx B0 6 lp.length b1 cp1 m1) ∧ Aside0 (Below B2 w wx))
              case atStart => exact ⟨0, Nat.zero_le _, rfl, ⟨rfl⟩, HO3, HMT, HW3⟩
              case round =>
                clear HO3 HMT HW3
                obtain ⟨k, hk, rfl, HG2, HO, HMT, HW3⟩ := hrel
                by_cases hkn : k < lp.length
                · have t4 : decide ((k : Int) < (lp.length : Int)) = true := decide_eq_true (by omega)
                  obtain ⟨ad, e, hx⟩ := Kd.at_int HRP.out (k : Int) (by omega) (by omega)
                  cases e
                  have hlt := World.block_lt_of_cell? w _ hx
                  rw [hB2] at hlt
                  replace hx := (HW3.out.cell hlt).trans hx
                  clear hlt
                  simp only [Int.toNat_natCast] at hx
                  have p1 := eq_true (show (0 : Int) ≤ (k : Int) by omega)
                  have q1 := eq_true (show (k : Int) < (lp.length : Int) by omega)
                  have hpk : rd lp (k : Int) = (((pl lp).getD k 0 : Nat) : Int) ∧ (pl lp).getD k 0 < l.length := by
                    have := HP.out k hkn
                    have e : rd lp (k : Int) = lp.getD k 0 := by simp [rd]
                    rw [e, pl_getD]; omega
                  rw [hpk.1] at hx
                  have HZK := Aside0.mk (HZ0.out k hkn)
                  obtain ⟨pk, hpk2⟩ : ∃ pk, (pl lp).getD k 0 = pk := ⟨_, rfl⟩
                  rw [hpk2] at hx hpk HZK
                  have HPK := Aside0.mk hpk2
                  clear hpk2
                  have p2 := eq_true (show (0 : Int) ≤ (pk : Int) by omega)
                  have q2 := eq_true (show (pk : Int) < (l.length : Int) by omega)
                  have HO' : Kd.R (Kd.int .i64) 3 wr B2 (fun _ => True) (.slice (some ⟨B2, 0, none⟩) (filled z lp y k).length l.length) (filled z lp y k) := by rw [filled_length, HZL.out]; exact HO.out
                  obtain ⟨d1, d2⟩ := Kd.R_cell (0 : Int) HO' (pk : Int) (by omega) (by rw [filled_length, HZL.out]; omega)
                  simp only [Int.toNat_natCast] at d1 d2
                  have HO2 := Aside0.mk HO'
                  clear HO' hpk
                  have e1 := HMT.out.top.cell (show k < 6 by omega)
                  have e2 := (HMT.out.row k (by omega)).cell (show lp.length < lp.length + 1 by omega)
                  rw [HY.out] at e2
                  have r2 := eq_true (show (k : Int) < 6 by omega)
                  have r3 := eq_true (show k < 6 by omega)
                  have r4 := eq_true (show (0 : Int) ≤ (lp.length : Int) by omega)
                  have r5 := eq_true (show (lp.length : Int) < (lp.length : Int) + 1 by omega)
                  have r6 := eq_true (show lp.length < lp.length + 1 by omega)
                  go_wp2
                  go_still_tail 14, (by kernel_rfl)
                  change wpList _ _ _ _ _ wr.drew
                  go_wp2
                  go_roundg (lp.length - (k + 1))
                  case measure => have := HG2.out; omega
                  case rel =>
                    refine ⟨k + 1, by omega, by first | rfl | (simp; done), ⟨rfl⟩, ⟨?_⟩, ⟨(show Mat _ B0 6 lp.length b1 cp1 m1 from ⟨HMT.out.top.setOther HNE.out.1 _, fun q hq => (HMT.out.row q hq).setOther (HNE.out.2 q hq) _, HMT.out.inj⟩).drew⟩, ⟨below_drew (HW3.out.setCell (by simp) _)⟩⟩
                    have h1 := (Kd.R_put HO2.out (pk : Int) (fi (y k))).1
                    simp only [Int.toNat_natCast] at h1
                    simp only [filled]
                    rw [HPK.out, HZK.out, zero_add]
                    rw [filled_length, HZL.out] at h1
                    exact Kd.R_below h1 (below_drew (Below.refl _ _))
                · have t4 : decide ((k : Int) < (lp.length : Int)) = false := decide_eq_false (by omega)
                  obtain rfl : k = lp.length := by omega
                  have HCF : Aside0 (Kd.C (Kd.int .i64) wr (some ⟨B2, 0, none⟩) (filled z lp y lp.length).length (filled z lp y lp.length)) := ⟨(Kd.R_reads' (show Kd.R (Kd.int .i64) 3 wr B2 (fun _ => True) (.slice (some ⟨B2, 0, none⟩) (filled z lp y lp.length).length l.length) (filled z lp y lp.length) by rw [filled_length, HZL.out]; exact HO.out)).2.2⟩
                  go_wp2_with (first | (go_at_call 232; refine (codeword_n (some ⟨B2, 0, none⟩) l.length l.length _ (by rw [filled_length, HZL.out]) _ HCF.out (Nat.le_refl _)).mono ?_; rintro e w5 ⟨⟨bb, rfl⟩, hb5⟩; have HB5 := Aside0.mk hb5; clear hb5))
                  go_ret2
                  refine ⟨by rw [hB2]; exact HW3.out.trans (HB5.out.mono (by have := HW3.out.size; omega)), .inr ⟨m1, _, bb, HE.out, rfl, ?_⟩⟩
                  rw [hB2]
                  have := Kd.R_below HO.out HB5.out
                  have e : (fun i => m1 i lp.length) = y := funext HY.out
                  rw [e]
                  exact this
end Go.Proofs.YtcpmgkedmmiioaaGreatDoor.R
end
