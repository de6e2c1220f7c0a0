/- stripTurns_card, part 23: what the row's proof needs: words of the print, contracts of functions, the plain law. -/
import Derived.Test.YtcpmgkedmmiioaaGreatDoorKa21
import Derived.Test.YtcpmgkedmmiioaaGreatDoorKa22
section
set_option linter.unusedVariables false
namespace Go.Proofs.YtcpmgkedmmiioaaGreatDoor.R
open Go.RowKit Go.Proofs.YtcpmgkedmmiioaaGreatDoorW.PrintWords Go.Proofs.YtcpmgkedmmiioaaGreatDoorW.PrintLast Go.Proofs.YtcpmgkedmmiioaaGreatDoorW.PrintMore Go.Proofs.YtcpmgkedmmiioaaGreatDoor.Gf
open H (Row fi fo fi_zero fi_inj fi_bound fi_fo fo_fi val pl pl_length pl_getD filled filled_length filled_all eps eps_length eps_getD pl_eps encf m6 fillf wordf)
/-- the data, six blanks behind -/
def wz (l : List Int) (i : Nat) : List Int := l.take i ++ List.replicate (l.length + 6 - i) 0
theorem wz_length (l : List Int) (i : Nat) (h : i ≤ l.length) : (wz l i).length = l.length + 6 := by
  unfold wz; rw [List.length_append, List.length_take, List.length_replicate]; omega
theorem wz_set (l : List Int) (i : Nat) (h : i < l.length) : (wz l i).set i (l.getD i 0) = wz l (i + 1) := by
  refine H.ints_ext (by rw [List.length_set, wz_length _ _ (by omega), wz_length _ _ (by omega)]) fun q hq => ?_
  rw [List.length_set, wz_length _ _ (by omega)] at hq
  rw [H.ints_set_getD _ _ _ _ (by rw [wz_length _ _ (by omega)]; exact hq)]
  have key : ∀ j, j ≤ l.length → (wz l j).getD q 0 = if q < j then l.getD q 0 else 0 := by
    intro j hj
    unfold wz
    rw [List.getD_eq_getElem?_getD]
    by_cases h1 : q < j
    · rw [if_pos h1, List.getElem?_append_left (by rw [List.length_take]; omega), List.getElem?_take, if_pos h1, List.getD_eq_getElem?_getD]
    · rw [if_neg h1, List.getElem?_append_right (by rw [List.length_take]; omega), List.getElem?_replicate]
      split <;> rfl
  rw [key i (by omega), key (i + 1) (by omega)]
  by_cases h1 : q = i
  · subst h1; rw [if_pos rfl, if_pos (by omega)]
  · rw [if_neg h1]
    by_cases h2 : q < i
    · rw [if_pos h2, if_pos (by omega)]
    · rw [if_neg h2, if_neg (by omega)]
/-- the places of the check symbols -/
def pv (n i : Nat) : List Int := (List.range i).map fun (q : Nat) => (n : Int) + (q : Int)
theorem pv_eps (n : Nat) : pv n 6 = eps n 6 := by
  unfold pv eps
  refine List.map_congr_left fun q hq => ?_
  rw [List.mem_range] at hq
  rw [if_pos hq]; omega
theorem pv_succ (n i : Nat) : pv n (i + 1) = pv n i ++ [(n : Int) + (i : Int)] := by unfold pv; rw [List.range_succ, List.map_append]; rfl
theorem encode_eq {l : List Int} (h1 : 1 ≤ l.length) (h9 : l.length ≤ 9) (hr : ∀ i, i < l.length → 0 ≤ l.getD i 0 ∧ l.getD i 0 ≤ 31) :
    blank (eps l.length 6) (wz l l.length) 6 = wz l l.length ∧ (∀ i, i < (wz l l.length).length → 0 ≤ (wz l l.length).getD i 0 ∧ (wz l l.length).getD i 0 ≤ 31) ∧
    ∃ m1, elim 6 (fillM (wz l l.length).length (val (wz l l.length)) (pl (eps l.length 6))) 6 = some m1 ∧ filled (wz l l.length) (eps l.length 6) (fun i => m1 i 6) 6 = (encf l).1 ∧ (encf l).2 = 0 := by
  obtain ⟨z, hz⟩ : ∃ z, wz l l.length = z := ⟨_, rfl⟩
  rw [hz]
  have hzl : z.length = l.length + 6 := by rw [← hz, wz_length _ _ (Nat.le_refl _)]
  have hzg : ∀ i, i < z.length → z.getD i 0 = if i < l.length then l.getD i 0 else 0 := by
    intro q hq
    rw [← hz]
    unfold wz
    rw [List.getD_eq_getElem?_getD]
    by_cases h1 : q < l.length
    · rw [if_pos h1, List.getElem?_append_left (by rw [List.length_take]; omega), List.getElem?_take, if_pos h1, List.getD_eq_getElem?_getD]
    · rw [if_neg h1, List.getElem?_append_right (by rw [List.length_take]; omega), List.getElem?_replicate]
      split <;> rfl
  have hP : ∀ a, a ∈ pl (eps l.length 6) ↔ l.length ≤ a ∧ a < z.length := by intro a; rw [pl_eps]; simp; omega
  have hPd : (pl (eps l.length 6)).Nodup := by rw [pl_eps]; simp
  have hPN : ∀ a, a ∈ pl (eps l.length 6) → a < z.length := fun a ha => ((hP a).1 ha).2
  have hPk : ∀ q, q < 6 → (pl (eps l.length 6)).getD q 0 = l.length + q := by
    intro q hq
    rw [pl_getD, eps_getD _ _ _ hq, if_pos hq]; omega
  refine ⟨?_, ?_, ?_⟩
  · refine H.ints_ext (blank_length _ _ _) fun i hi => ?_
    rw [blank_length] at hi
    rw [blank_get _ _ _ hi]
    by_cases h : ∃ q, q < 6 ∧ (pl (eps l.length 6)).getD q 0 = i
    · rw [if_pos h]
      obtain ⟨q, hq, e⟩ := h
      rw [hPk q hq] at e
      rw [hzg i hi, if_neg (by omega)]
    · rw [if_neg h]
  · intro i hi
    rw [hzg i hi]
    split
    · next h => exact hr i h
    · omega
  · obtain ⟨e1, _, _, _⟩ := H.encf_code h1 h9 hr
    obtain ⟨t, ht⟩ : ∃ t, l ++ m6 = t := ⟨_, rfl⟩
    have htl : t.length = z.length := by rw [← ht, hzl]; simp [m6]
    have htg : ∀ i, i < t.length → t.getD i 0 = if i < l.length then l.getD i 0 else -1 := by
      intro i hi
      rw [← ht, List.getD_eq_getElem?_getD]
      by_cases h : i < l.length
      · rw [if_pos h, List.getElem?_append_left h, List.getD_eq_getElem?_getD]
      · rw [if_neg h, List.getElem?_append_right (by omega)]
        obtain ⟨k, rfl⟩ : ∃ k, i = l.length + k := ⟨i - l.length, by omega⟩
        rw [Nat.add_sub_cancel_left]
        rcases (show k = 0 ∨ k = 1 ∨ k = 2 ∨ k = 3 ∨ k = 4 ∨ k = 5 by omega) with rfl | rfl | rfl | rfl | rfl | rfl <;> rfl
    have hval : val z = val t := by
      funext i
      unfold H.val
      by_cases h : i < z.length
      · rw [hzg i h, htg i (by omega)]
        by_cases h2 : i < l.length
        · rw [if_pos h2, if_pos h2]
        · rw [if_neg h2, if_neg h2]; rfl
      · rw [List.getD_eq_getElem?_getD, List.getD_eq_getElem?_getD, List.getElem?_eq_none (by omega), List.getElem?_eq_none (by omega)]
    have he : encf l = (fillf t (eps l.length 6), 0) := by
      unfold H.encf at e1 ⊢
      rw [ht] at e1 ⊢
      by_cases h : wordf t (-1) = true ∧ l.contains (-1) = false
      · rw [if_pos h]
      · rw [if_neg h] at e1; exact absurd e1 (by decide)
    have hP6 : (pl (eps l.length 6)).length = 6 := by rw [pl_length, eps_length]
    obtain ⟨y, hy⟩ := H.solve_square (n := (pl (eps l.length 6)).length) (m := fillM t.length (val t) (pl (eps l.length 6))) (by
      intro x hz hx
      refine vander_places (N := t.length) (by omega) hPd (fun a ha => by rw [htl]; exact hPN a ha) (by omega) x fun j hj => ?_
      have := hz j (by omega)
      rw [lin_fill, hx, mul_zero, add_zero] at this; exact this)
    rw [hP6] at hy
    have hy2 := hy
    unfold solve at hy2
    obtain ⟨m1, hm1, hm2⟩ := Option.bind_eq_some_iff.1 hy2
    have hm3 : (fun i => m1 i 6) = y := by
      split at hm2
      · exact Option.some.inj hm2
      · cases hm2
    refine ⟨m1, by rw [hval, ← htl]; exact hm1, ?_, by rw [he]⟩
    rw [he, hm3]
    have hfill : fillf t (eps l.length 6) = filled t (eps l.length 6) y (eps l.length 6).length := by
      unfold H.fillf; rw [eps_length, hy]
    rw [hfill, eps_length]
    refine H.ints_ext (by rw [filled_length, filled_length, htl]) fun i hi => ?_
    rw [filled_length] at hi
    have h2 := filled_all z (eps l.length 6) y hPd hPN i hi
    have h3 := filled_all t (eps l.length 6) y hPd (fun a ha => by rw [htl]; exact hPN a ha) i (by omega)
    rw [eps_length] at h2 h3
    rw [h2, h3, hval]
    by_cases hm : i ∈ pl (eps l.length 6)
    · rw [if_pos hm, if_pos hm]
    · rw [if_neg hm, if_neg hm]
      have : i < l.length := by
        refine Decidable.byContradiction fun h => hm ((hP i).2 ⟨by omega, hi⟩)
      rw [hzg i hi, htg i (by omega), if_pos this, if_pos this]
theorem element_calls (a : Int) (h0 : 0 ≤ a) (h1 : a ≤ 31) (w : World) : Calls Tryz.prog 169 #[.int .i64 a] w fun e w' => e = .returned (.bool true) ∧ w = w' :=
  awardingbodyref18_element.calls a true w (by unfold awardingbodyref18_element.f; rw [if_pos (by omega), decide_eq_true (by omega)])
set_option maxHeartbeats 4000000 in
set_option maxRecDepth 100000 in
theorem encode_calls (A : Option Addr) (c : Nat) (l : List Int) (w : World) (hr : Kd.C (Kd.int .i64) w A l.length l) (hc : l.length ≤ c) (h1 : 1 ≤ l.length) (h9 : l.length ≤ 9) (hv : ∀ i, i < l.length → 0 ≤ l.getD i 0 ∧ l.getD i 0 ≤ 31) :
    Calls Tryz.prog 115 #[.slice A l.length c] w fun e w' => ∃ v, e = .returned (.tuple #[v, .int .i64 0]) ∧ Kd.R (Kd.int .i64) 3 w' w.heap.size (fun _ => True) v (encf l).1 ∧ Below w.heap.size w w' := by
  have HR := Aside0.mk hr
  have HV := Aside0.mk hv
  have HEQ := Aside0.mk (encode_eq h1 h9 hv)
  clear hr hv
  have t1 : decide ((l.length : Int) < 1) = false := decide_eq_false (by omega)
  have t2 : decide (9 < (l.length : Int)) = false := decide_eq_false (by omega)
  have hmk : ∀ W : World, (Instr.makeSlice 22 (.int .i64 ((l.length : Int) + 6)) (.int .i64 ((l.length : Int) + 6))).run Tryz.prog W = .ok (.slice (some ⟨W.heap.size, 0, none⟩) (l.length + 6) (l.length + 6)) (W.alloc (.cells (madeCells #[.int .i64 0] (l.length + 6)) 3)) := fun W => run_make_row' (P := Tryz.prog) 22 3 (.int .i64 0) 8 Tryz.underlying22 info_int rfl .i64 .i64 (l.length + 6) (by omega) (by omega) W
  obtain ⟨B2, hB2⟩ : ∃ B2, w.heap.size = B2 := ⟨_, rfl⟩
  have HO1 : Aside0 (Kd.R (Kd.int .i64) 3 (w.alloc (.cells (madeCells #[.int .i64 0] (l.length + 6)) 3)) B2 (fun _ => True) (.slice (some ⟨B2, 0, none⟩) (l.length + 6) (l.length + 6)) (wz l 0)) := ⟨by
    have hZ : madeCells #[Value.int .i64 0] (l.length + 6) = (encs (Value.int .i64) (wz l 0)).toArray := by
      apply Array.ext_getElem?
      intro i
      by_cases hi : i < l.length + 6
      · simp [madeCells, hi, Nat.mod_one, encs, wz]
      · simp [madeCells, hi, encs, wz]
    have hl0 : (wz l 0).length = l.length + 6 := wz_length l 0 (Nat.zero_le _)
    have := Kd.R_of_own (w := w.alloc (.cells (madeCells #[.int .i64 0] (l.length + 6)) 3)) (e := 3) (base := B2) (v := .slice (some ⟨B2, 0, none⟩) (l.length + 6) (l.length + 6)) (enc := Value.int .i64) (h1 := fun _ => rfl) (ok := fun _ => True) (xs := wz l 0) ⟨by simp [encs], .inr ⟨B2, l.length + 6, _, by rw [hl0], Nat.le_refl _, by rw [← hB2]; exact heap_alloc_new _ _, by omega, by unfold maxLen; omega, by rw [hZ]; simp [encs, hl0], by rw [hZ]; exact List.take_of_length_le (by simp [encs, hl0])⟩⟩ (fun _ _ => trivial)
    exact this⟩
  have HW1 : Aside0 (Below B2 w (w.alloc (.cells (madeCells #[.int .i64 0] (l.length + 6)) 3))) := ⟨by rw [← hB2]; exact below_alloc (Below.refl _ _) _⟩
  go_enter Tryz.func115, Tryz.ntmps115
  go_wp2
  clear hmk
  go_loopg [6] l.length (fun g v6 wx => ∃ i : Nat, i ≤ l.length ∧ v6 = .int .i64 i ∧ Aside0 (g = l.length - i) ∧ Aside0 (Kd.R (Kd.int .i64) 3 wx B2 (fun _ => True) (.slice (some ⟨B2, 0, none⟩) (l.length + 6) (l.length + 6)) (wz l i)) ∧ Aside0 (Below B2 w wx))
  case atStart => exact ⟨0, Nat.zero_le _, rfl, ⟨rfl⟩, HO1, HW1⟩
  case round =>
    clear HO1 HW1
    obtain ⟨i, hi, rfl, HG, HO, HW⟩ := hrel
    by_cases hil : i < l.length
    · have t3 : decide ((i : Int) < (l.length : Int)) = true := decide_eq_true (by omega)
      obtain ⟨ad, e, hx⟩ := Kd.at_int HR.out (i : Int) (by omega) (by omega)
      cases e
      have hlt := World.block_lt_of_cell? w _ hx
      rw [hB2] at hlt
      replace hx := (HW.out.cell hlt).trans hx
      clear hlt
      simp only [Int.toNat_natCast] at hx
      have e0 : rd l (i : Int) = l.getD i 0 := by simp [rd]
      rw [e0] at hx
      have HVI := Aside0.mk (HV.out i hil)
      obtain ⟨x, hxe⟩ : ∃ x, l.getD i 0 = x := ⟨_, rfl⟩
      rw [hxe] at hx HVI
      have HX := Aside0.mk hxe
      clear hxe e0
      have p1 := eq_true (show (0 : Int) ≤ (i : Int) by omega)
      have q1 := eq_true (show (i : Int) < (l.length : Int) by omega)
      have q2 := eq_true (show (i : Int) < (l.length : Int) + 6 by omega)
      have hwl := wz_length l i hi
      have HO' : Kd.R (Kd.int .i64) 3 wr B2 (fun _ => True) (.slice (some ⟨B2, 0, none⟩) (wz l i).length (l.length + 6)) (wz l i) := by rw [hwl]; exact HO.out
      obtain ⟨d1, d2⟩ := Kd.R_cell (0 : Int) HO' (i : Int) (by omega) (by rw [hwl]; omega)
      simp only [Int.toNat_natCast] at d1 d2
      have HO2 := Aside0.mk HO'
      have HWL := Aside0.mk hwl
      clear HO' hwl
      go_wp2_with (first | (go_at_call 169; refine (element_calls x HVI.out.1 HVI.out.2 _).mono ?_; rintro e w5 ⟨rfl, rfl⟩))
      go_roundg (l.length - (i + 1))
      case measure => have := HG.out; omega
      case rel =>
        refine ⟨i + 1, by omega, by first | rfl | (simp; done), ⟨rfl⟩, ⟨?_⟩, ⟨HW.out.setCell (by simp) _⟩⟩
        have h1 := (Kd.R_put HO2.out (i : Int) x).1
        simp only [Int.toNat_natCast] at h1
        rw [HWL.out, ← HX.out, wz_set l i hil] at h1
        rw [← HX.out]
        exact h1
    · have t3 : decide ((i : Int) < (l.length : Int)) = false := decide_eq_false (by omega)
      obtain rfl : i = l.length := by omega
      obtain ⟨W3, rfl⟩ : ∃ W3, W3 = wr := ⟨_, rfl⟩
      clear hi hil HG
      go_wp2
      go_loopg [5, 7] 6 (fun g v5 v7 wx => ∃ i : Nat, i ≤ 6 ∧ v7 = .int .i64 i ∧ Aside0 (g = 6 - i) ∧ Aside0 (wx.ownsRow W3.heap.size 3 1 v5 (nums .i64 (pv l.length i)).length (nums .i64 (pv l.length i))) ∧ Aside0 (Below W3.heap.size W3 wx))
      case atStart => exact ⟨0, Nat.zero_le _, rfl, ⟨rfl⟩, ⟨own_nil _ _ _ _⟩, ⟨Below.refl _ _⟩⟩
      case round =>
        obtain ⟨i, hi, rfl, HG, HP, HB⟩ := hrel
        have HPL : Aside0 ((nums .i64 (pv l.length i)).length = i) := ⟨by simp [nums, pv]⟩
        by_cases hi6 : i < 6
        · have t4 : decide ((i : Int) < 6) = true := decide_eq_true (by omega)
          have HPS : Aside0 (nums .i64 (pv l.length i) ++ [Value.int .i64 ((l.length : Int) + (i : Int))] = nums .i64 (pv l.length (i + 1))) := ⟨by rw [pv_succ]; simp [nums]⟩
          obtain ⟨xs, hxs⟩ : ∃ xs, nums .i64 (pv l.length i) = xs := ⟨_, rfl⟩
          rw [hxs] at HP HPL HPS
          clear hxs
          go_wp2_with (first | (at_builtin; refine print_append (w0 := W3) W3.heap.size rfl (.tmp 45) (.tmp 50) 22 3 (.int .i64 0) 8 rfl Tryz.underlying22 info_int rfl (by decide) u5 xs (.int .i64 ((l.length : Int) + (i : Int))) rfl rfl rfl ?aO ?aB ?aS ?aL ?_; (case aO => exact HP.out); (case aB => exact HB.out); (case aS => exact HB.out.size); (case aL => have := HPL.out; omega); intro v1 w1 ho hb hg hat; have HP1 := Aside0.mk ho; have HB1 := Aside0.mk hb; clear ho hb hg hat))
          go_roundg (6 - (i + 1))
          case measure => have := HG.out; omega
          case rel => exact ⟨i + 1, by omega, by first | rfl | (simp; done), ⟨rfl⟩, ⟨by rw [← HPS.out]; exact HP1.out⟩, HB1⟩
        · have t4 : decide ((i : Int) < 6) = false := decide_eq_false (by omega)
          obtain rfl : i = 6 := by omega
          have HR5 := Kd.R_of_own (enc := Value.int .i64) (h1 := fun _ => rfl) (ok := fun _ => True) (xs := pv l.length 6) HP.out (fun _ _ => trivial)
          obtain ⟨A5, c5, rfl, hc5, hC5⟩ := Kd.R_reads HR5
          rw [pv_eps] at hC5 hc5
          have HC5 := Aside0.mk hC5
          have h6 : (pv l.length 6).length = 6 := by simp [pv]
          rw [h6]
          rw [eps_length] at hc5
          have HWZ : Aside0 (Kd.C (Kd.int .i64) wr (some ⟨B2, 0, none⟩) (wz l l.length).length (wz l l.length)) := ⟨by
            have h1 := (Kd.R_reads' (show Kd.R (Kd.int .i64) 3 W3 B2 (fun _ => True) (.slice (some ⟨B2, 0, none⟩) (wz l l.length).length (l.length + 6)) (wz l l.length) by rw [wz_length _ _ (Nat.le_refl _)]; exact HO.out)).2.2
            exact Kd.C_below h1 HB.out⟩
          clear hC5 h6 HR5 HP HPL
          have HFC : Aside0 (Calls Tryz.prog 170 #[.slice (some ⟨B2, 0, none⟩) (l.length + 6) (l.length + 6), .slice A5 6 c5] wr fun e w' => Below wr.heap.size wr w' ∧ ∃ v b, e = .returned (.tuple #[v, .bool b]) ∧ Kd.R (Kd.int .i64) 3 w' wr.heap.size (fun _ => True) v (encf l).1) := ⟨by
            have hz := wz_length l l.length (Nat.le_refl _)
            have h0 := fill_calls (some ⟨B2, 0, none⟩) (l.length + 6) (wz l l.length) A5 c5 (eps l.length 6) wr HWZ.out (by omega) (by rw [eps_length]; have := HC5.out; rw [eps_length] at this; exact this) (by rw [eps_length]; exact hc5) (by omega) (by omega)
              (by rw [eps_length, HEQ.out.1]; exact HEQ.out.2.1) (by intro q hq; rw [eps_length] at hq; rw [eps_getD _ _ _ hq, if_pos hq]; omega) (by rw [eps_length]; omega)
            rw [eps_length, HEQ.out.1, hz] at h0
            refine h0.mono fun e w' ⟨hb, hx⟩ => ⟨hb, ?_⟩
            obtain ⟨m1, hm, hf, _⟩ := HEQ.out.2.2
            rw [hz] at hm
            rcases hx with ⟨hn, _⟩ | ⟨m2, v, b, hm2, rfl, hR⟩
            · rw [hm] at hn; cases hn
            · rw [hm] at hm2
              rw [← Option.some.inj hm2, hf] at hR
              exact ⟨v, b, rfl, hR⟩⟩
          go_wp2_with (first | (go_at_call 170; refine HFC.out.mono ?_; rintro e w5 ⟨hb5, v5, bb, rfl, hR5⟩; have HB5 := Aside0.mk hb5; have HR5 := Aside0.mk hR5; clear hb5 hR5))
          go_ret2
          have hs : B2 ≤ wr.heap.size := by have := HW.out.size; have := HB.out.size; omega
          refine ⟨_, rfl, ?_, ?_⟩
          · rw [hB2]; exact Kd.R_lower HR5.out hs
          · rw [hB2]; exact (HW.out.trans (HB.out.mono (by have := HW.out.size; omega))).trans (HB5.out.mono hs)
end Go.Proofs.YtcpmgkedmmiioaaGreatDoor.R
end
