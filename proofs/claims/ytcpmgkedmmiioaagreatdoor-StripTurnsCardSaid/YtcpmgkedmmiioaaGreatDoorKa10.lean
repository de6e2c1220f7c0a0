/- stripTurns_card, part 10: what the row's proof needs: words of the print, contracts of functions, the plain law. -/
import Derived.WalkSpells
import Derived.Test.YtcpmgkedmmiioaaGreatDoorKa9
section
set_option linter.unusedVariables false
namespace Go.Proofs.YtcpmgkedmmiioaaGreatDoor.H
open Go.RowKit Go.Proofs.YtcpmgkedmmiioaaGreatDoorW.PrintWords Go.Proofs.YtcpmgkedmmiioaaGreatDoorW.PrintLast Go.Proofs.YtcpmgkedmmiioaaGreatDoorW.PrintMore Go.Proofs.YtcpmgkedmmiioaaGreatDoor.B Go.Proofs.YtcpmgkedmmiioaaGreatDoor.Gf
theorem info_int : (Tryz.prog.info? 3).map (fun i => (i.zero, i.size, i.bytes)) = some (some (.int .i64 0), 1, 8) := by kernel_rfl
set_option maxHeartbeats 4000000 in
set_option maxRecDepth 100000 in
theorem clone_calls (A : Option Addr) (c : Nat) (l : List Int) (w : World) (hr : Kd.C (Kd.int .i64) w A l.length l) (hc : l.length ≤ c) (hl : l.length < 17592186044416) :
    Calls Tryz.prog 69 #[.slice A l.length c] w fun e w' => ∃ v, e = .returned v ∧ Kd.R (Kd.int .i64) 3 w' w.heap.size (fun _ => True) v l ∧ Below w.heap.size w w' := by
  have hq := fun (W : World) (a : Option Addr) (n c : Nat) => Lib.run_eql_slice_nil (P := Tryz.prog) W 22 3 a n c 0 0 Tryz.underlying22
  cases A with
  | none =>
    have h0 : l = [] := by
      rcases Nat.eq_zero_or_pos l.length with h | h
      · exact List.eq_nil_of_length_eq_zero h
      · obtain ⟨ad, e, _⟩ := Kd.at_int hr 0 (by omega) (by omega); cases e
    subst h0
    go_enter Tryz.func69, Tryz.ntmps69
    go_wp2
    go_ret
    exact ⟨_, rfl, Kd.R_nil _ _ _ _ _, Below.refl _ _⟩
  | some ad =>
    have HR := Aside0.mk (Kd.C_below hr (below_alloc (Below.refl _ _) (.cells #[] 3)))
    have HO := Aside0.mk (Kd.R_of_own (enc := Value.int .i64) (h1 := fun _ => rfl) (ok := fun _ => True) (xs := []) (own_lit w w.heap.size 3 .i64 [] (Nat.le_refl _) (by simp)) (fun _ _ => trivial))
    clear hr
    go_enter Tryz.func69, Tryz.ntmps69
    go_wp2_with (first | (at_builtin; refine Kd.R_append_row (Value.int .i64) (0 : Int) (h1 := fun _ => rfl) (w0 := w) w.heap.size rfl (.tmp 5) (.tmp 6) 22 3 (.int .i64 0) 8 rfl Tryz.underlying22 info_int rfl (by decide) (.slice (some ⟨w.heap.size, 0, none⟩) 0 0) [] l (some ad) l.length c (fun _ => True) rfl rfl (fun _ _ => trivial) ?aO ?aR ?aB ?aS ?aL ?_; (case aO => exact HO.out); (case aR => exact HR.out); (case aB => exact below_alloc (Below.refl _ _) _); (case aS => simp); (case aL => simp; omega); intro v1 w1 ho hb hg hat; have HO1 := Aside0.mk ho; have HB1 := Aside0.mk hb; clear ho hb hg hat))
    go_ret
    exact ⟨_, rfl, HO1.out, HB1.out⟩
end Go.Proofs.YtcpmgkedmmiioaaGreatDoor.H
end

section
set_option linter.unusedVariables false
namespace Go.Proofs.YtcpmgkedmmiioaaGreatDoor.H
open Go.RowKit Go.Proofs.YtcpmgkedmmiioaaGreatDoorW.PrintWords Go.Proofs.YtcpmgkedmmiioaaGreatDoorW.PrintLast Go.Proofs.YtcpmgkedmmiioaaGreatDoorW.PrintMore Go.Proofs.YtcpmgkedmmiioaaGreatDoor.B Go.Proofs.YtcpmgkedmmiioaaGreatDoor.Gf
theorem index6_0 (x0 x1 x2 x3 x4 x5 : Value) (w : World) : (Instr.index 228 (.agg #[x0, x1, x2, x3, x4, x5]) (.int .i64 0)).run Tryz.prog w = .ok x0 w := by kernel_rfl
theorem index6_1 (x0 x1 x2 x3 x4 x5 : Value) (w : World) : (Instr.index 228 (.agg #[x0, x1, x2, x3, x4, x5]) (.int .i64 1)).run Tryz.prog w = .ok x1 w := by kernel_rfl
theorem index6_2 (x0 x1 x2 x3 x4 x5 : Value) (w : World) : (Instr.index 228 (.agg #[x0, x1, x2, x3, x4, x5]) (.int .i64 2)).run Tryz.prog w = .ok x2 w := by kernel_rfl
theorem index6_3 (x0 x1 x2 x3 x4 x5 : Value) (w : World) : (Instr.index 228 (.agg #[x0, x1, x2, x3, x4, x5]) (.int .i64 3)).run Tryz.prog w = .ok x3 w := by kernel_rfl
theorem index6_4 (x0 x1 x2 x3 x4 x5 : Value) (w : World) : (Instr.index 228 (.agg #[x0, x1, x2, x3, x4, x5]) (.int .i64 4)).run Tryz.prog w = .ok x4 w := by kernel_rfl
theorem index6_5 (x0 x1 x2 x3 x4 x5 : Value) (w : World) : (Instr.index 228 (.agg #[x0, x1, x2, x3, x4, x5]) (.int .i64 5)).run Tryz.prog w = .ok x5 w := by kernel_rfl
theorem index6 (s : Nat → Int) (j : Nat) (hj : j < 6) (w : World) :
    (Instr.index 228 (.agg #[.int .i64 (s 0), .int .i64 (s 1), .int .i64 (s 2), .int .i64 (s 3), .int .i64 (s 4), .int .i64 (s 5)]) (.int .i64 (j : Int))).run Tryz.prog w = .ok (.int .i64 (s j)) w := by
  have h : j = 0 ∨ j = 1 ∨ j = 2 ∨ j = 3 ∨ j = 4 ∨ j = 5 := by omega
  rcases h with rfl | rfl | rfl | rfl | rfl | rfl
  · exact index6_0 _ _ _ _ _ _ w
  · exact index6_1 _ _ _ _ _ _ w
  · exact index6_2 _ _ _ _ _ _ w
  · exact index6_3 _ _ _ _ _ _ w
  · exact index6_4 _ _ _ _ _ _ w
  · exact index6_5 _ _ _ _ _ _ w
theorem _root_.Go.RowKit.Below.since {B : Nat} {w w1 w2 : World} (h : Below B w w1) (k : w1.Since B w2) : Below B w w2 := ⟨k.os.trans h.os, k.tape.trans h.tape, k.output.trans h.output, Nat.le_trans h.size k.size, fun i hi => (k.block i hi).trans (h.block i hi)⟩
/-- a list's numbers as places -/
def pl (lp : List Int) : List Nat := lp.map Int.toNat
theorem pl_length (lp : List Int) : (pl lp).length = lp.length := by unfold pl; rw [List.length_map]
theorem pl_getD (lp : List Int) (k : Nat) : (pl lp).getD k 0 = (lp.getD k 0).toNat := by
  unfold pl; rw [List.getD_eq_getElem?_getD, List.getD_eq_getElem?_getD, List.getElem?_map]; cases lp[k]? <;> rfl
/-- row j of the equations -/
def frow (l lp : List Int) (j : Nat) : List F := (List.range lp.length).map (fun q => fpow (px l.length ((pl lp).getD q 0)) (1 + j)) ++ [syn l.length (val l) j]
theorem frow_length (l lp : List Int) (j : Nat) : (frow l lp j).length = lp.length + 1 := by simp [frow]
theorem frow_get (l lp : List Int) (j k : Nat) (hk : k ≤ lp.length) : (frow l lp j).getD k 0 = fillM l.length (val l) (pl lp) j k := by
  unfold frow fillM
  rw [pl_length, List.getD_eq_getElem?_getD]
  by_cases h : k < lp.length
  · rw [if_pos h, List.getElem?_append_left (by simpa using h), List.getElem?_map, List.getElem?_range h]; rfl
  · rw [if_neg h, List.getElem?_append_right (by simp; omega)]
    have : k - ((List.range lp.length).map (fun q => fpow (px l.length ((pl lp).getD q 0)) (1 + j))).length = 0 := by simp; omega
    rw [this]; rfl
/-- the word with the first k changes -/
def filled (l lp : List Int) (y : Nat → F) : Nat → List Int
  | 0 => l
  | k + 1 => (filled l lp y k).set ((pl lp).getD k 0) (fi (val l ((pl lp).getD k 0) ^^^ y k))
theorem filled_length (l lp : List Int) (y : Nat → F) (k : Nat) : (filled l lp y k).length = l.length := by
  induction k with
  | zero => rfl
  | succ k ih => simp only [filled]; rw [List.length_set, ih]
set_option maxHeartbeats 4000000 in
set_option maxRecDepth 100000 in
theorem fill_calls (A : Option Addr) (c : Nat) (l : List Int) (Ap : Option Addr) (cp : Nat) (lp : List Int) (w : World) (hr : Kd.C (Kd.int .i64) w A l.length l) (hc : l.length ≤ c) (hrp : Kd.C (Kd.int .i64) w Ap lp.length lp) (hcp : lp.length ≤ cp)
    (hl : l.length ≤ 15) (hv : ∀ i, i < l.length → -1 ≤ l.getD i 0 ∧ l.getD i 0 ≤ 31) (hp : ∀ q, q < lp.length → 0 ≤ lp.getD q 0 ∧ lp.getD q 0 < l.length) (hp6 : lp.length ≤ 6) :
    Calls Tryz.prog 124 #[.slice A l.length c, .slice Ap lp.length cp] w fun e w' => ∃ v, e = .returned v ∧ Below w.heap.size w w' ∧
      ((solve 6 lp.length (fillM l.length (val l) (pl lp)) = none ∧ v = .slice none 0 0) ∨ ∃ y, solve 6 lp.length (fillM l.length (val l) (pl lp)) = some y ∧ Kd.R (Kd.int .i64) 3 w' w.heap.size (fun _ => True) v (filled l lp y lp.length)) := by
  have HR := Aside0.mk hr
  have HV := Aside0.mk hv
  have HRP := Aside0.mk hrp
  have HP := Aside0.mk hp
  clear hr hv hrp hp
  go_enter Tryz.func124, Tryz.ntmps124
  go_wp2_with (first | (go_at_call 178; refine (syndromes_calls A c l _ HR.out hc (by omega) HV.out).mono ?_; rintro e w1 ⟨rfl, hb1⟩))
  have HB := Aside0.mk hb1
  clear hb1
  go_loopg [5, 18] 6 (fun g v5 v18 wr => ∃ j : Nat, j ≤ 6 ∧ v18 = .int .i64 j ∧ Aside0 (g = 6 - j) ∧ ∃ rv, Aside0 (Bld w.heap.size w wr v5 j (frow l lp) rv (.slice none 0 0) []))
  case atStart => exact ⟨0, Nat.zero_le _, rfl, ⟨rfl⟩, _, ⟨Bld.start w w1 HB.out _⟩⟩
  case round =>
    clear HB
    obtain ⟨j, hj, rfl, HG, rv, HBL⟩ := hrel
    by_cases hj6 : j < 6
    · have t1 : decide ((j : Int) < 6) = true := decide_eq_true (by omega)
      have hix := index6 (fun j => fi (syn l.length (val l) j)) j hj6
      go_wp2
      clear hix
      go_loopg [8, 24] lp.length (fun g v8 v24 wx => ∃ k : Nat, k ≤ lp.length ∧ v24 = .int .i64 k ∧ Aside0 (g = lp.length - k) ∧ Aside0 (Bld w.heap.size w wx u5 j (frow l lp) rv v8 ((List.range k).map (fun q => fpow (px l.length ((pl lp).getD q 0)) (1 + j)))))
      case atStart => exact ⟨0, Nat.zero_le _, rfl, ⟨rfl⟩, HBL⟩
      case round =>
        clear HBL
        obtain ⟨k, hk, rfl, HG2, HBL⟩ := hrel
        by_cases hkn : k < lp.length
        · have t2 : decide ((k : Int) < (lp.length : Int)) = true := decide_eq_true (by omega)
          obtain ⟨ad, e, hx⟩ := Kd.at_int HRP.out (k : Int) (by omega) (by omega)
          cases e
          replace hx := (HBL.out.below.cell (World.block_lt_of_cell? w _ hx)).trans hx
          simp only [Int.toNat_natCast] at hx
          have p1 := eq_true (show (0 : Int) ≤ (k : Int) by omega)
          have q1 := eq_true (show (k : Int) < (lp.length : Int) by omega)
          have HK : Aside0 (rd lp (k : Int) = (((pl lp).getD k 0 : Nat) : Int) ∧ (pl lp).getD k 0 < l.length) := ⟨by
            have := HP.out k hkn
            have e : rd lp (k : Int) = lp.getD k 0 := by simp [rd]
            rw [e, pl_getD]; omega⟩
          have HRW := Aside0.mk (Kd.C_below HR.out HBL.out.below)
          have HXL : Aside0 (((List.range k).map (fun q => fpow (px l.length ((pl lp).getD q 0)) (1 + j))).length ≤ 6) := ⟨by simp; omega⟩
          obtain ⟨xs, hxs⟩ : ∃ xs, (List.range k).map (fun q => fpow (px l.length ((pl lp).getD q 0)) (1 + j)) = xs := ⟨_, rfl⟩
          rw [hxs] at HBL HXL
          have HXS := Aside0.mk hxs
          clear hxs
          go_wp2_with (first | (go_at_call 177; refine (at_pos_calls A c l _ HRW.out hc (by omega) HK.out.2 (n := 1 + j) (by omega) _ _ HK.out.1 (by omega)).mono ?_; rintro e w1 ⟨rfl, rfl⟩) | (at_builtin; refine print_append (w0 := w) w.heap.size rfl (.tmp 28) (.tmp 34) 225 224 (.int .i64 0) 8 rfl Tryz.underlying225 info_gf rfl (by decide) u8 (fv xs) (.int .i64 (fi (fpow (px l.length ((pl lp).getD k 0)) (1 + j)))) rfl rfl rfl ?aO ?aB ?aS ?aL ?_; (case aO => exact HBL.out.cur'); (case aB => exact HBL.out.below); (case aS => exact HBL.out.size); (case aL => have := HXL.out; rw [fv_length]; omega); intro v1 w1 ho hb hg hat; have HBL2 := Aside0.mk (HBL.out.elem ho hb hg hat); clear ho hb hg hat))
          go_roundg (lp.length - (k + 1))
          case measure => have := HG2.out; omega
          case rel =>
            refine ⟨k + 1, by omega, by first | rfl | (simp; done), ⟨rfl⟩, ⟨?_⟩⟩
            have := HBL2.out
            rw [List.range_succ, List.map_append, HXS.out]
            exact this
        · have t2 : decide ((k : Int) < (lp.length : Int)) = false := decide_eq_false (by omega)
          have HX0 : Aside0 (((List.range k).map (fun q => fpow (px l.length ((pl lp).getD q 0)) (1 + j))) ++ [syn l.length (val l) j] = frow l lp j) := ⟨by obtain rfl : k = lp.length := (by omega); rfl⟩
          have HXL : Aside0 (((List.range k).map (fun q => fpow (px l.length ((pl lp).getD q 0)) (1 + j))).length ≤ 6) := ⟨by simp; omega⟩
          obtain ⟨xs, hxs⟩ : ∃ xs, (List.range k).map (fun q => fpow (px l.length ((pl lp).getD q 0)) (1 + j)) = xs := ⟨_, rfl⟩
          rw [hxs] at HBL HXL HX0
          clear hxs
          go_wp2_with (first | ((with_reducible refine gate_builtin (b := .append) (xs := #[.tmp 38, .tmp 40]) rfl ?_); at_builtin; refine print_append (w0 := w) w.heap.size rfl (.tmp 38) (.tmp 40) 225 224 (.int .i64 0) 8 rfl Tryz.underlying225 info_gf rfl (by decide) u8 (fv xs) (.int .i64 (fi (syn l.length (val l) j))) rfl rfl rfl ?aO ?aB ?aS ?aL ?_; (case aO => exact HBL.out.cur'); (case aB => exact HBL.out.below); (case aS => exact HBL.out.size); (case aL => have := HXL.out; rw [fv_length]; omega); intro v1 w1 ho hb hg hat; have HBL2 := Aside0.mk (HBL.out.elem ho hb hg hat); clear ho hb hg hat; obtain ⟨A1, c1, hv1⟩ := own_slice HBL2.out.cur; subst hv1; simp only [List.length_append, List.length_cons, List.length_nil, Nat.zero_add] at HBL2) | ((with_reducible refine gate_builtin (b := .append) (xs := #[.tmp 37, .tmp 42]) rfl ?_); at_builtin; refine print_append (w0 := w) w.heap.size rfl (.tmp 37) (.tmp 42) 230 225 (.slice none 0 0) 24 rfl Tryz.underlying230 info_row rfl (by decide) u5 ((List.range j).map rv) (.slice A1 (xs.length + 1) c1) rfl rfl ?aC ?aO ?aB ?aS ?aL ?_; (case aC => exact HBL2.out.cell); (case aO => exact HBL2.out.top'); (case aB => exact HBL2.out.below); (case aS => exact HBL2.out.size); (case aL => simp; omega); intro v2 w2 ho hb hg hat; have HBL3 := Aside0.mk (HBL2.out.push HX0.out.symm ho hb hg); clear ho hb hg hat))
          go_roundg (6 - (j + 1))
          case measure => have := HG.out; omega
          case rel =>
            obtain ⟨rv', h'⟩ := HBL3.out
            exact ⟨j + 1, by omega, by first | rfl | (simp; done), ⟨rfl⟩, rv', ⟨h'⟩⟩
    · have t1 : decide ((j : Int) < 6) = false := decide_eq_false (by omega)
      obtain rfl : j = 6 := by omega
      obtain ⟨B0, cr, b, cp2, rfl, hM, hb0, hb⟩ := HBL.out.mat (n := lp.length) (m := fillM l.length (val l) (pl lp)) (by omega) (fun q _ => frow_length l lp q) (fun q k _ hk => frow_get l lp q k hk)
      have HM := Aside0.mk hM
      have HB0 := Aside0.mk hb0
      have HB1 := Aside0.mk hb
      have HBW := Aside0.mk HBL.out.below
      clear hM hb0 hb HBL
      cases hsol : solve 6 lp.length (fillM l.length (val l) (pl lp)) with
      | none =>
        have HS := Aside0.mk hsol
        clear hsol
        go_wp2_with (first | (go_at_call 179; refine (solve_none_calls _ w.heap.size B0 6 cr lp.length b cp2 _ (by omega) (by omega) (by omega) HM.out HB0.out HB1.out HBW.out.size HS.out).mono ?_; rintro e w1 ⟨rfl, hs⟩; have HS1 := Aside0.mk hs; clear hs))
        go_ret
        exact ⟨_, rfl, (HBW.out.since HS1.out), .inl ⟨HS.out, rfl⟩⟩
      | some y =>
        have HS := Aside0.mk hsol
        clear hsol
        go_wp2_with (first | (go_at_call 179; refine (solve_some_calls _ w.heap.size B0 6 cr lp.length b cp2 _ y (by omega) (by omega) (by omega) HM.out HB0.out HB1.out HBW.out.size HS.out).mono ?_; rintro e w1 ⟨G, rfl, hg, hrow, hs⟩; have HS1 := Aside0.mk hs; have HR1 := Aside0.mk hrow; have HG1 := Aside0.mk hg; clear hs hrow hg) | (go_at_call 69; refine (clone_calls A c l _ (Kd.C_below HR.out (HBW.out.since HS1.out)) hc (by omega)).mono ?_; rintro e w2 ⟨v2, rfl, ho, hb⟩; have HO2 := Aside0.mk ho; have HB2 := Aside0.mk hb; clear ho hb))
        obtain ⟨A2, c2, rfl⟩ := own_slice (Kd.own_of_R HO2.out)
        obtain ⟨B2, hB2⟩ : ∃ B2, w1.heap.size = B2 := ⟨_, rfl⟩
        rw [hB2] at HO2
        have HGB : Aside0 (G < B2 ∧ w.heap.size ≤ B2) := ⟨⟨by have := HR1.out.lt; omega, by have := (HBW.out.since HS1.out).size; omega⟩⟩
        have HR2 : Aside0 (w2.rowIs G 224 lp.length (fun i => .int .i64 (fi (y i)))) := ⟨HR1.out.of_block (HB2.out.block G (by rw [hB2]; exact HGB.out.1))⟩
        have HBW2 : Aside0 (Below w.heap.size w w2) := ⟨(HBW.out.since HS1.out).trans (HB2.out.mono (by rw [hB2]; exact HGB.out.2))⟩
        clear hB2 HR1 HS1 HBW HM HB0 HB1 HB2
        go_loopg [56] lp.length (fun g v56 wx => ∃ k : Nat, k ≤ lp.length ∧ v56 = .int .i64 k ∧ Aside0 (g = lp.length - k) ∧ Aside0 (Kd.R (Kd.int .i64) 3 wx B2 (fun _ => True) (.slice A2 l.length c2) (filled l lp y k)) ∧ Aside0 (wx.rowIs G 224 lp.length (fun i => .int .i64 (fi (y i)))) ∧ Aside0 (Below w.heap.size w wx))
        case atStart => exact ⟨0, Nat.zero_le _, rfl, ⟨rfl⟩, HO2, HR2, HBW2⟩
        case round =>
          clear HO2 HR2 HBW2
          obtain ⟨k, hk, rfl, HG2, HO, HRY, HBW⟩ := hrel
          by_cases hkn : k < lp.length
          · have t2 : decide ((k : Int) < (lp.length : Int)) = true := decide_eq_true (by omega)
            obtain ⟨ad, e, hx⟩ := Kd.at_int HRP.out (k : Int) (by omega) (by omega)
            cases e
            replace hx := (HBW.out.cell (World.block_lt_of_cell? w _ hx)).trans hx
            simp only [Int.toNat_natCast] at hx
            have p1 := eq_true (show (0 : Int) ≤ (k : Int) by omega)
            have q1 := eq_true (show (k : Int) < (lp.length : Int) by omega)
            have hpk : rd lp (k : Int) = (((pl lp).getD k 0 : Nat) : Int) ∧ (pl lp).getD k 0 < l.length := by
              have := HP.out k hkn
              have e : rd lp (k : Int) = lp.getD k 0 := by simp [rd]
              rw [e, pl_getD]; omega
            rw [hpk.1] at hx
            obtain ⟨pk, hpk2⟩ : ∃ pk, (pl lp).getD k 0 = pk := ⟨_, rfl⟩
            rw [hpk2] at hx hpk
            have HPK := Aside0.mk hpk2
            clear hpk2
            obtain ⟨ad2, e, hx2⟩ := Kd.at_int HR.out (pk : Int) (by omega) (by omega)
            cases e
            replace hx2 := (HBW.out.cell (World.block_lt_of_cell? w _ hx2)).trans hx2
            simp only [Int.toNat_natCast] at hx2
            have p2 := eq_true (show (0 : Int) ≤ (pk : Int) by omega)
            have q2 := eq_true (show (pk : Int) < (l.length : Int) by omega)
            obtain ⟨g, hg⟩ : ∃ g, A2 = some ⟨g, 0, none⟩ ∧ B2 ≤ g := by
              have ho := Kd.own_of_R HO.out
              obtain ⟨g, cap, e, hb, _⟩ := ho.form (by rw [filled_length]; omega)
              injection e with e1 _ _
              exact ⟨g, e1, hb⟩
            obtain ⟨rfl, hg⟩ := hg
            have HO' : Kd.R (Kd.int .i64) 3 wr B2 (fun _ => True) (.slice (some ⟨g, 0, none⟩) (filled l lp y k).length c2) (filled l lp y k) := by rw [filled_length]; exact HO.out
            obtain ⟨d1, d2⟩ := Kd.R_cell (0 : Int) HO' (pk : Int) (by omega) (by rw [filled_length]; omega)
            simp only [Int.toNat_natCast] at d1 d2
            have e1 := HRY.out.cell hkn
            have HM := Aside0.mk (max_val l pk (HV.out pk hpk.2))
            have q3 := eq_true hkn
            have HPL := Aside0.mk hpk.2
            clear hpk
            go_wp2
            go_still_tail 12, (by kernel_rfl)
            rw [HM.out, xor_f]
            change wpList _ _ _ _ _ wr.drew
            go_wp2
            go_roundg (lp.length - (k + 1))
            case measure => have := HG2.out; omega
            case rel =>
              refine ⟨k + 1, by omega, by first | rfl | (simp; done), ⟨rfl⟩, ⟨?_⟩, ⟨(HRY.out.setOther (by have := HGB.out; simp; omega) _).drew⟩, ⟨below_drew (HBW.out.setCell (by have := HGB.out; simp; omega) _)⟩⟩
              have h1 := (Kd.R_put HO' (pk : Int) (fi (val l pk ^^^ y k))).1
              simp only [Int.toNat_natCast] at h1
              have h2 := Kd.R_below h1 (below_drew (Below.refl _ _))
              simp only [filled]
              rw [HPK.out]
              rw [filled_length] at h2
              exact h2
          · have t2 : decide ((k : Int) < (lp.length : Int)) = false := decide_eq_false (by omega)
            obtain rfl : k = lp.length := by omega
            go_wp2
            go_ret
            exact ⟨_, rfl, HBW.out, .inr ⟨y, HS.out, Kd.R_lower HO.out HGB.out.2⟩⟩
end Go.Proofs.YtcpmgkedmmiioaaGreatDoor.H
end

section
set_option linter.unusedVariables false
namespace Go.Proofs.YtcpmgkedmmiioaaGreatDoor.H
open Go.RowKit Go.Proofs.YtcpmgkedmmiioaaGreatDoorW.PrintWords Go.Proofs.YtcpmgkedmmiioaaGreatDoorW.PrintLast Go.Proofs.YtcpmgkedmmiioaaGreatDoorW.PrintMore Go.Proofs.YtcpmgkedmmiioaaGreatDoor.B Go.Proofs.YtcpmgkedmmiioaaGreatDoor.Gf
namespace FRow
variable {w w1 : World} {base g cap n : Nat} {v : Value} {xs : List F}
def enc (x : F) : Value := .int .i64 (fi x)
theorem toR (h : FRow w base v xs) : (Kd.scalar enc (fun _ => rfl)).R 224 w base (fun _ => True) v xs := Kd.R_of_own (ok := fun _ => True) h (fun _ _ => trivial)
theorem ofR (h : (Kd.scalar enc (fun _ => rfl)).R 224 w base (fun _ => True) v xs) : FRow w base v xs := Kd.own_of_R h
theorem form (h : FRow w base v xs) (hp : 0 < xs.length) : ∃ g cap, v = .slice (some ⟨g, 0, none⟩) xs.length cap ∧ base ≤ g ∧ g < w.heap.size := by
  obtain ⟨g, cap, e, hb, _⟩ := World.ownsRow.form (show w.ownsRow base 224 1 v xs.length (fv xs) from h) hp
  refine ⟨g, cap, e, hb, own_lt (show w.ownsRow base 224 1 v xs.length (fv xs) from h) g (by rw [e]; rfl)⟩
theorem cell (h : FRow w base (.slice (some ⟨g, 0, none⟩) n cap) xs) (hn : n = xs.length) {i : Nat} (hi : i < n) : w.cell? ⟨g, i, none⟩ = some (.int .i64 (fi (xs.getD i 0))) ∧ w.frozen? ⟨g, i, none⟩ = false := by
  subst hn
  have := Kd.R_cell (0 : F) h.toR (i : Int) (by omega) (by omega)
  simpa [rdOf, enc] using this
theorem put (h : FRow w base (.slice (some ⟨g, 0, none⟩) n cap) xs) (hn : n = xs.length) (i : Nat) (x : F) : FRow (w.setCell ⟨g, i, none⟩ (.int .i64 (fi x))) base (.slice (some ⟨g, 0, none⟩) n cap) (xs.set i x) := by
  subst hn
  have := (Kd.R_put h.toR (i : Int) x).1
  simp only [Int.toNat_natCast] at this
  exact ofR this
theorem below (h : FRow w base v xs) (hb : Below w.heap.size w w1) : FRow w1 base v xs := pw_own_below h hb
theorem drew (h : FRow w base v xs) : FRow w.drew base v xs := h.below (below_drew (Below.refl _ _))
theorem alloc (h : FRow w base v xs) (o : Obj) : FRow (w.alloc o) base v xs := h.below (below_alloc (Below.refl _ _) o)
theorem far (h : FRow w base v xs) {p : Addr} (hne : some p.block ≠ v.ownBlock) (u : Value) : FRow (w.setCell p u) base v xs := own_setCell h hne u
theorem grown (h : FRow w base v xs) {row : Option Nat} (hg : w.grownBy w1 row) (hne : v.ownBlock = none ∨ v.ownBlock ≠ row) : FRow w1 base v xs := own_other h hg hne
theorem elem {x : F} (ho : w.ownsRow base 224 1 v (fv xs ++ [Value.int .i64 (fi x)]).length (fv xs ++ [Value.int .i64 (fi x)])) : FRow w base v (xs ++ [x]) := by
  unfold FRow fv; rw [List.map_append]; simpa [fv] using ho
theorem own (h : FRow w base v xs) : w.ownsRow base 224 1 v (fv xs).length (fv xs) := by rw [fv_length]; exact h
end FRow
/-- the coefficients when i erasures are taken out -/
def roots (N : Nat) (lo : List Int) (i : Nat) : List F := ((pl lo).take i).reverse.map (px N)
def plist (N : Nat) (lo : List Int) (i : Nat) : List F := (List.range (i + 1)).map (pcoef (roots N lo i))
theorem roots_length (N : Nat) (lo : List Int) (i : Nat) (h : i ≤ lo.length) : (roots N lo i).length = i := by
  unfold roots; rw [List.length_map, List.length_reverse, List.length_take, pl_length]; omega
theorem roots_succ (N : Nat) (lo : List Int) (i : Nat) (h : i < lo.length) : roots N lo (i + 1) = px N ((pl lo).getD i 0) :: roots N lo i := by
  unfold roots
  have hi : i < (pl lo).length := by rw [pl_length]; exact h
  rw [List.take_succ_eq_append_getElem hi, List.reverse_append, List.map_append, List.getD_eq_getElem?_getD, List.getElem?_eq_getElem hi]
  rfl
/-- while the next one is taken out: what lies above k is new -/
def pmix (N : Nat) (lo : List Int) (i k : Nat) : List F := (List.range (i + 2)).map (fun q => if k < q then pcoef (roots N lo (i + 1)) q else pcoef (roots N lo i) q)
theorem pmix_length (N : Nat) (lo : List Int) (i k : Nat) : (pmix N lo i k).length = i + 2 := by simp [pmix]
theorem plist_length (N : Nat) (lo : List Int) (i : Nat) : (plist N lo i).length = i + 1 := by simp [plist]
theorem pmix_getD (N : Nat) (lo : List Int) (i k q : Nat) (hq : q < i + 2) : (pmix N lo i k).getD q 0 = if k < q then pcoef (roots N lo (i + 1)) q else pcoef (roots N lo i) q := by
  unfold pmix; rw [List.getD_eq_getElem?_getD, List.getElem?_map, List.getElem?_range hq]; rfl
theorem plist_getD (N : Nat) (lo : List Int) (i q : Nat) (hq : q < i + 1) : (plist N lo i).getD q 0 = pcoef (roots N lo i) q := by
  unfold plist; rw [List.getD_eq_getElem?_getD, List.getElem?_map, List.getElem?_range hq]; rfl
theorem list_ext_getD {xs ys : List F} (hl : xs.length = ys.length) (h : ∀ i, i < xs.length → xs.getD i 0 = ys.getD i 0) : xs = ys := by
  apply List.ext_getElem hl
  intro i h1 h2
  have := h i h1
  rw [List.getD_eq_getElem?_getD, List.getD_eq_getElem?_getD, List.getElem?_eq_getElem h1, List.getElem?_eq_getElem h2] at this
  exact this
theorem pmix_start (N : Nat) (lo : List Int) (i : Nat) (h : i < lo.length) : plist N lo i ++ [0] = pmix N lo i (i + 1) := by
  apply list_ext_getD (by simp [plist_length, pmix_length])
  intro q hq
  simp only [List.length_append, plist_length, List.length_singleton] at hq
  rw [pmix_getD _ _ _ _ _ (by omega), if_neg (by omega)]
  by_cases e : q < i + 1
  · rw [← plist_getD N lo i q e, List.getD_eq_getElem?_getD, List.getD_eq_getElem?_getD, List.getElem?_append_left (by rw [plist_length]; exact e)]
  · obtain rfl : q = i + 1 := by omega
    rw [pcoef_out _ _ (by rw [roots_length _ _ _ (by omega)]; omega), List.getD_eq_getElem?_getD, List.getElem?_append_right (by rw [plist_length]; omega), plist_length]
    simp
theorem pmix_step (N : Nat) (lo : List Int) (i k : Nat) (h : i < lo.length) (hk : k < i + 1) :
    (pmix N lo i (k + 1)).set (k + 1) ((pmix N lo i (k + 1)).getD (k + 1) 0 ^^^ mul ((pmix N lo i (k + 1)).getD k 0) (px N ((pl lo).getD i 0))) = pmix N lo i k := by
  apply list_ext_getD (by simp [pmix_length])
  intro q hq
  simp only [List.length_set, pmix_length] at hq
  rw [pmix_getD _ _ _ _ _ (show k + 1 < i + 2 by omega), pmix_getD _ _ _ _ _ (show k < i + 2 by omega), pmix_getD _ _ _ _ _ hq, if_neg (by omega), if_neg (by omega)]
  rw [List.getD_eq_getElem?_getD, List.getElem?_set]
  by_cases e : q = k + 1
  · subst e
    rw [if_pos rfl, if_pos (by rw [pmix_length]; exact hq), if_pos (by omega), roots_succ _ _ _ h]
    simp only [pcoef, Option.getD_some]
    rw [if_neg (by omega), Nat.add_sub_cancel]
  · rw [if_neg (fun e2 => e e2.symm), ← List.getD_eq_getElem?_getD, pmix_getD _ _ _ _ _ hq]
    by_cases e2 : k < q
    · rw [if_pos e2, if_pos (by omega)]
    · rw [if_neg e2, if_neg (by omega)]
theorem pmix_end (N : Nat) (lo : List Int) (i : Nat) : pmix N lo i 0 = plist N lo (i + 1) := by
  apply list_ext_getD (by simp [pmix_length, plist_length])
  intro q hq
  simp only [pmix_length] at hq
  rw [pmix_getD _ _ _ _ _ hq, plist_getD _ _ _ _ (by omega)]
  by_cases e : q = 0
  · subst e; rw [if_neg (by omega), pcoef_zero, pcoef_zero]
  · rw [if_pos (by omega)]
/-- the erasures, the last first -/
def er (lo : List Int) : List Nat := (pl lo).reverse
theorem er_length (lo : List Int) : (er lo).length = lo.length := by unfold er; rw [List.length_reverse, pl_length]
theorem roots_all (N : Nat) (lo : List Int) : roots N lo lo.length = (er lo).map (px N) := by
  unfold roots er; rw [show lo.length = (pl lo).length from (pl_length lo).symm, List.take_length]
/-- the first k summands of rest j -/
def rpart (N : Nat) (v : Nat → F) (lo : List Int) (j k : Nat) : F := sum k (fun q => mul (pcoef ((er lo).map (px N)) q) (syn N v (j + lo.length - q)))
theorem rpart_all (N : Nat) (v : Nat → F) (lo : List Int) (j : Nat) : rpart N v lo j (lo.length + 1) = rest N v (er lo) j := by unfold rpart rest; rw [er_length]
end Go.Proofs.YtcpmgkedmmiioaaGreatDoor.H
end

section
set_option linter.unusedVariables false
namespace Go.Proofs.YtcpmgkedmmiioaaGreatDoor.H
open Go.RowKit Go.Proofs.YtcpmgkedmmiioaaGreatDoorW.PrintWords Go.Proofs.YtcpmgkedmmiioaaGreatDoorW.PrintLast Go.Proofs.YtcpmgkedmmiioaaGreatDoorW.PrintMore Go.Proofs.YtcpmgkedmmiioaaGreatDoor.B Go.Proofs.YtcpmgkedmmiioaaGreatDoor.Gf
theorem at_pos_still (A : Option Addr) (c : Nat) (l : List Int) (w : World) (hr : Kd.C (Kd.int .i64) w A l.length l) (hc : l.length ≤ c) (hl : l.length ≤ 31) {i n : Nat} (hi : i < l.length) (hn : n ≤ 31) (a1 a2 : Int) (h1 : a1 = i) (h2 : a2 = n) :
    Calls Tryz.prog 177 #[.slice A l.length c, .int .i64 a1, .int .i64 a2] w fun e w' => e = .returned (.int .i64 (fi (fpow (px l.length i) n))) ∧ w' = w := (at_pos_calls A c l w hr hc hl hi hn a1 a2 h1 h2).turned
theorem FRow.one (w : World) : FRow (w.alloc (.cells #[.int .i64 1] 224)) w.heap.size (.slice (some ⟨w.heap.size, 0, none⟩) 1 1) [1] := own_lit w w.heap.size 224 .i64 [1] (Nat.le_refl _) (by simp)
/-- the error places, and whether there are n -/
def placed (l : List Int) (n : Nat) (y : Nat → F) : List Nat := (List.range l.length).filter fun i => decide (l.getD i 0 ≠ -1 ∧ locv l.length n y i = 0)
def loc (l lp : List Int) (n : Nat) : List Int × Bool := if n = 0 then ([], true) else match solve (6 - lp.length - n) n (locM l.length (val l) (er lp) n) with
  | none => ([], false)
  | some y => ((placed l n y).map Int.ofNat, (placed l n y).length == n)
/-- row j of the equations for n errors -/
def lrow (l lp : List Int) (n j : Nat) : List F := (List.range n).map (fun q => rest l.length (val l) (er lp) (j + n - 1 - q)) ++ [rest l.length (val l) (er lp) (j + n)]
theorem lrow_length (l lp : List Int) (n j : Nat) : (lrow l lp n j).length = n + 1 := by simp [lrow]
theorem lrow_get (l lp : List Int) (n j k : Nat) (hk : k ≤ n) : (lrow l lp n j).getD k 0 = locM l.length (val l) (er lp) n j k := by
  unfold lrow locM
  rw [List.getD_eq_getElem?_getD]
  by_cases h : k < n
  · rw [if_pos h, List.getElem?_append_left (by simpa using h), List.getElem?_map, List.getElem?_range h]; rfl
  · rw [if_neg h, List.getElem?_append_right (by simp; omega)]
    have : k - ((List.range n).map (fun q => rest l.length (val l) (er lp) (j + n - 1 - q))).length = 0 := by simp; omega
    rw [this]; rfl
theorem nat_beq (a b : Nat) : ((a : Int) == (b : Int)) = (a == b) := by rw [Bool.eq_iff_iff]; simp; omega
/-- the locator's value, k summands -/
def lpart (N k : Nat) (y : Nat → F) (i : Nat) : F := 1 ^^^ sum k (fun q => mul (y q) (inv (fpow (px N i) (q + 1))))
theorem lpart_zero (N : Nat) (y : Nat → F) (i : Nat) : lpart N 0 y i = 1 := by unfold lpart; simp [sum]
theorem lpart_succ (N k : Nat) (y : Nat → F) (i : Nat) : lpart N (k + 1) y i = lpart N k y i ^^^ mul (y k) (inv (fpow (px N i) (k + 1))) := by unfold lpart; rw [sum, add_assoc]
/-- the error places among the first i -/
def placedTo (l : List Int) (n : Nat) (y : Nat → F) (i : Nat) : List Int := ((List.range i).filter fun i => decide (l.getD i 0 ≠ -1 ∧ locv l.length n y i = 0)).map Int.ofNat
theorem placedTo_length (l : List Int) (n : Nat) (y : Nat → F) (i : Nat) : (placedTo l n y i).length ≤ i := by
  unfold placedTo; rw [List.length_map]
  exact Nat.le_trans (List.length_filter_le _ _) (by simp)
theorem placedTo_yes (l : List Int) (n : Nat) (y : Nat → F) (i : Nat) (h1 : l.getD i 0 ≠ -1) (h2 : locv l.length n y i = 0) : placedTo l n y (i + 1) = placedTo l n y i ++ [(i : Int)] := by
  unfold placedTo; rw [List.range_succ, List.filter_append, List.map_append]
  congr 1
  rw [List.filter_cons_of_pos (by simp only [decide_eq_true_eq]; exact ⟨h1, h2⟩)]; rfl
theorem placedTo_no (l : List Int) (n : Nat) (y : Nat → F) (i : Nat) (h : ¬ (l.getD i 0 ≠ -1 ∧ locv l.length n y i = 0)) : placedTo l n y (i + 1) = placedTo l n y i := by
  unfold placedTo; rw [List.range_succ, List.filter_append, List.map_append]
  rw [List.filter_cons_of_neg (by simp only [decide_eq_true_eq]; exact h)]; simp
def NRow (w : World) (base : Nat) (v : Value) (xs : List Int) : Prop := w.ownsRow base 3 1 v xs.length (nums .i64 xs)
set_option maxHeartbeats 4000000 in
set_option maxRecDepth 100000 in
theorem locate_calls (A : Option Addr) (c : Nat) (l : List Int) (Ap : Option Addr) (cp : Nat) (lp : List Int) (n : Nat) (w : World) (hr : Kd.C (Kd.int .i64) w A l.length l) (hc : l.length ≤ c) (hrp : Kd.C (Kd.int .i64) w Ap lp.length lp) (hcp : lp.length ≤ cp)
    (hl : l.length ≤ 15) (hv : ∀ i, i < l.length → -1 ≤ l.getD i 0 ∧ l.getD i 0 ≤ 31) (hp : ∀ q, q < lp.length → 0 ≤ lp.getD q 0 ∧ lp.getD q 0 < l.length) (hp6 : 2 * n + lp.length ≤ 6) :
    Calls Tryz.prog 123 #[.slice A l.length c, .slice Ap lp.length cp, .int .i64 n] w fun e w' => ∃ v, e = .returned (.tuple #[v, .bool (loc l lp n).2]) ∧ Kd.R (Kd.int .i64) 3 w' w.heap.size (fun _ => True) v (loc l lp n).1 ∧ Below w.heap.size w w' := by
  have HR := Aside0.mk hr
  have HV := Aside0.mk hv
  have HRP := Aside0.mk hrp
  have HP := Aside0.mk hp
  have HN := Aside0.mk hp6
  have HO := Aside0.mk (FRow.one w)
  have HB := Aside0.mk (below_alloc (Below.refl w.heap.size w) (.cells #[.int .i64 1] 224))
  clear hr hv hrp hp
  go_enter Tryz.func123, Tryz.ntmps123
  go_wp2
  go_loopg [8, 32] lp.length (fun g v8 v32 wr => ∃ i : Nat, i ≤ lp.length ∧ v32 = .int .i64 i ∧ Aside0 (g = lp.length - i) ∧ Aside0 (FRow wr w.heap.size v8 (plist l.length lp i)) ∧ Aside0 (Below w.heap.size w wr))
  case atStart => exact ⟨0, Nat.zero_le _, rfl, ⟨rfl⟩, HO, HB⟩
  case round =>
    clear HB HO
    obtain ⟨i, hi, rfl, HG, HO, HB⟩ := hrel
    by_cases hiL : i < lp.length
    · have t1 : decide ((i : Int) < (lp.length : Int)) = true := decide_eq_true (by omega)
      obtain ⟨ad, e, hx⟩ := Kd.at_int HRP.out (i : Int) (by omega) (by omega)
      cases e
      replace hx := (HB.out.cell (World.block_lt_of_cell? w _ hx)).trans hx
      simp only [Int.toNat_natCast] at hx
      have p1 := eq_true (show (0 : Int) ≤ (i : Int) by omega)
      have q1 := eq_true (show (i : Int) < (lp.length : Int) by omega)
      have HK : Aside0 (rd lp (i : Int) = (((pl lp).getD i 0 : Nat) : Int) ∧ (pl lp).getD i 0 < l.length) := ⟨by
        have := HP.out i hiL
        have e : rd lp (i : Int) = lp.getD i 0 := by simp [rd]
        rw [e, pl_getD]; omega⟩
      have HIL := Aside0.mk hiL
      go_wp2_with (first | (at_builtin; refine print_append (w0 := w) w.heap.size rfl (.tmp 36) (.tmp 37) 225 224 (.int .i64 0) 8 rfl Tryz.underlying225 info_gf rfl (by decide) u8 (fv (plist l.length lp i)) (.int .i64 0) rfl rfl rfl ?aO ?aB ?aS ?aL ?_; (case aO => exact HO.out.own); (case aB => exact HB.out); (case aS => exact HB.out.size); (case aL => rw [fv_length, plist_length]; omega); intro v1 w1 ho hb hg hat; have HO2 : Aside0 (FRow w1 w.heap.size v1 (pmix l.length lp i (i + 1))) := ⟨by rw [← pmix_start l.length lp i HIL.out]; exact FRow.elem (x := 0) ho⟩; have HB2 := Aside0.mk hb; clear ho hb hg hat; obtain ⟨g8, c8, hv1, hg8, _⟩ := FRow.form HO2.out (by rw [pmix_length]; omega); subst hv1; have HG8 := Aside0.mk hg8; clear hg8; rw [pmix_length] at HO2; rw [pmix_length]))
      clear HO hx HRP
      go_loopg [11] (i + 1) (fun g v11 wx => ∃ k : Nat, k ≤ i + 1 ∧ v11 = .int .i64 k ∧ Aside0 (g = k) ∧ Aside0 (FRow wx w.heap.size (.slice (some ⟨g8, 0, none⟩) (i + 2) c8) (pmix l.length lp i k)) ∧ Aside0 (Below w.heap.size w wx))
      case atStart => exact ⟨i + 1, Nat.le_refl _, by first | rfl | (simp; done) | (simp; omega), ⟨rfl⟩, HO2, HB2⟩
      case round =>
        clear HO2 HB2 HB
        obtain ⟨k, hk, rfl, HG2, HO, HB⟩ := hrel
        cases k with
        | succ k =>
          have t2 : decide (0 < (k : Int) + 1) = true := decide_eq_true (by omega)
          have d1 := (HO.out.cell (by rw [pmix_length]) (show k < i + 2 by omega)).1
          have d2 := HO.out.cell (by rw [pmix_length]) (show k + 1 < i + 2 by omega)
          obtain ⟨d2, d3⟩ := d2
          have r1 := eq_true (show (0 : Int) ≤ (k : Int) by omega)
          have r2 := eq_true (show (0 : Int) ≤ (k : Int) + 1 by omega)
          have r3 := eq_true (show (k : Int) < (i : Int) + 2 by omega)
          have r4 := eq_true (show (k : Int) + 1 < (i : Int) + 2 by omega)
          have r5 := eq_true (show k < i + 2 by omega)
          have r6 := eq_true (show k + 1 < i + 2 by omega)
          have HRW := Aside0.mk (Kd.C_below HR.out (below_drew HB.out))
          go_wp2
          go_still_tail 16, (by kernel_rfl)
          rw [IntWalk.i64_in (k : Int) (by omega)]
          repeat still_step
          still_call (at_pos_still A c l _ HRW.out hc (by omega) HK.out.2 (n := 1) (by omega) (rd lp (i : Int)) 1 HK.out.1 rfl)
          repeat still_step
          still_call (times_still _ _ _)
          repeat still_step
          still_call (plus_still _ _ _)
          repeat still_step
          refine wpStill_nil ?_
          change wpList _ _ _ _ _ wr.drew
          go_wp2
          go_roundg k
          case measure => have := HG2.out; omega
          case rel =>
            refine ⟨k, by omega, by first | rfl | (simp; done) | (simp; omega), ⟨rfl⟩, ⟨?_⟩, ⟨below_drew (HB.out.setCell (by have := HG8.out; simp; omega) _)⟩⟩
            have := (HO.out.put (by rw [pmix_length]) (k + 1) ((pmix l.length lp i (k + 1)).getD (k + 1) 0 ^^^ mul ((pmix l.length lp i (k + 1)).getD k 0) (fpow (px l.length ((pl lp).getD i 0)) 1))).drew
            have h2 : (pmix l.length lp i (k + 1)).set (k + 1) ((pmix l.length lp i (k + 1)).getD (k + 1) 0 ^^^ mul ((pmix l.length lp i (k + 1)).getD k 0) (fpow (px l.length ((pl lp).getD i 0)) 1)) = pmix l.length lp i k := by
              rw [show fpow (px l.length ((pl lp).getD i 0)) 1 = px l.length ((pl lp).getD i 0) from one_mul _]
              exact pmix_step l.length lp i k HIL.out (by omega)
            rw [h2] at this
            exact this
        | zero =>
          have t2 : decide ((0 : Int) < 0) = false := by decide
          rw [pmix_end] at HO
          go_wp2
          go_roundg (lp.length - (i + 1))
          case measure => have := HG.out; omega
          case rel => exact ⟨i + 1, by omega, by first | rfl | (simp; done), ⟨rfl⟩, HO, HB⟩
    · have t1 : decide ((i : Int) < (lp.length : Int)) = false := decide_eq_false (by omega)
      obtain rfl : i = lp.length := by omega
      have HRW := Aside0.mk (Kd.C_below HR.out HB.out)
      obtain ⟨s, hs⟩ : ∃ s, s + lp.length = 6 := ⟨6 - lp.length, by omega⟩
      have hs2 : (6 : Int) - (lp.length : Int) = (s : Int) := by omega
      obtain ⟨g8, c8, hv8, hg8, hg8w⟩ := FRow.form HO.out (by rw [plist_length]; omega)
      subst hv8
      rw [plist_length] at HO
      rw [plist_length]
      have hmk := fun W => run_make_row' (P := Tryz.prog) 225 224 (.int .i64 0) 8 Tryz.underlying225 info_gf rfl .i64 .i64 s (by omega) (by omega) W
      clear HG hi hiL
      go_wp2_with (first | (go_at_call 178; refine (syndromes_calls A c l _ HRW.out hc (by omega) HV.out).mono ?_; rintro e w1 ⟨rfl, hb1⟩; have HB1 := Aside0.mk hb1; clear hb1))
      have HS1 : Aside0 ((w1.alloc (.cells #[.int .i64 (fi (syn l.length (val l) 0)), .int .i64 (fi (syn l.length (val l) 1)), .int .i64 (fi (syn l.length (val l) 2)), .int .i64 (fi (syn l.length (val l) 3)), .int .i64 (fi (syn l.length (val l) 4)), .int .i64 (fi (syn l.length (val l) 5))] 228)).rowIs w1.heap.size 228 6 (fun j => .int .i64 (fi (syn l.length (val l) j)))) :=
        ⟨World.rowIs_alloc w1 _ _ _ (by intro i hi; simp only [List.size_toArray, List.length_cons, List.length_nil] at hi; rcases i with _|_|_|_|_|_|_ <;> first | rfl | omega)⟩
      have HO1 : Aside0 (FRow (w1.alloc (.cells #[.int .i64 (fi (syn l.length (val l) 0)), .int .i64 (fi (syn l.length (val l) 1)), .int .i64 (fi (syn l.length (val l) 2)), .int .i64 (fi (syn l.length (val l) 3)), .int .i64 (fi (syn l.length (val l) 4)), .int .i64 (fi (syn l.length (val l) 5))] 228)) w.heap.size (.slice (some ⟨g8, 0, none⟩) (lp.length + 1) c8) (plist l.length lp lp.length)) := ⟨(HO.out.below HB1.out).alloc _⟩
      have HB2 : Aside0 (Below w.heap.size w (w1.alloc (.cells #[.int .i64 (fi (syn l.length (val l) 0)), .int .i64 (fi (syn l.length (val l) 1)), .int .i64 (fi (syn l.length (val l) 2)), .int .i64 (fi (syn l.length (val l) 3)), .int .i64 (fi (syn l.length (val l) 4)), .int .i64 (fi (syn l.length (val l) 5))] 228))) := ⟨below_alloc (HB.out.trans (HB1.out.mono HB.out.size)) _⟩
      have HSZ : Aside0 (g8 < w1.heap.size ∧ w.heap.size ≤ w1.heap.size) := ⟨⟨by have := HB1.out.size; omega, by have := HB1.out.size; have := HB.out.size; omega⟩⟩
      obtain ⟨S, hS⟩ : ∃ S, w1.heap.size = S := ⟨_, rfl⟩
      obtain ⟨w2, hw2⟩ : ∃ w2, w2 = (w1.alloc (.cells #[.int .i64 (fi (syn l.length (val l) 0)), .int .i64 (fi (syn l.length (val l) 1)), .int .i64 (fi (syn l.length (val l) 2)), .int .i64 (fi (syn l.length (val l) 3)), .int .i64 (fi (syn l.length (val l) 4)), .int .i64 (fi (syn l.length (val l) 5))] 228)) := ⟨_, rfl⟩
      have hS2 : w2.heap.size = S + 1 := by rw [hw2, World.size_alloc, hS]
      rw [hS] at HS1 HSZ ⊢
      rw [← hw2] at HS1 HO1 HB2 ⊢
      have HQ : Aside0 ((w2.alloc (.cells (madeCells #[.int .i64 0] s) 224)).rowIs (S + 1) 224 s (fun q => .int .i64 (fi (if q < 0 then rest l.length (val l) (er lp) q else 0)))) := ⟨by rw [← hS2]; exact (World.rowIs_made w2 (.int .i64 0) s _).congr fun q _ => by rw [if_neg (by omega)]; rfl⟩
      replace HS1 := Aside0.mk (HS1.out.alloc (.cells (madeCells #[.int .i64 0] s) 224))
      replace HO1 := Aside0.mk (HO1.out.alloc (.cells (madeCells #[.int .i64 0] s) 224))
      replace HB2 := Aside0.mk (below_alloc HB2.out (.cells (madeCells #[.int .i64 0] s) 224))
      clear hS hw2 hmk hS2
      obtain ⟨w3, hw3⟩ : ∃ w3, w3 = (w2.alloc (.cells (madeCells #[.int .i64 0] s) 224)) := ⟨_, rfl⟩
      rw [← hw3] at HS1 HO1 HB2 HQ ⊢
      clear hw3 HB1 HO HB HRW
      have HG8 := Aside0.mk (And.intro hg8 (show g8 ≠ S by have := HSZ.out; omega))
      clear hg8 hg8w hs2
      go_loopg [72] s (fun g v72 wr => ∃ j : Nat, j ≤ s ∧ v72 = .int .i64 j ∧ Aside0 (g = s - j) ∧ Aside0 (wr.rowIs (S + 1) 224 s (fun q => .int .i64 (fi (if q < j then rest l.length (val l) (er lp) q else 0)))) ∧ Aside0 (wr.rowIs S 228 6 (fun j => .int .i64 (fi (syn l.length (val l) j)))) ∧ Aside0 (FRow wr w.heap.size (.slice (some ⟨g8, 0, none⟩) (lp.length + 1) c8) (plist l.length lp lp.length)) ∧ Aside0 (Below w.heap.size w wr))
      case atStart => exact ⟨0, Nat.zero_le _, rfl, ⟨rfl⟩, HQ, HS1, HO1, HB2⟩
      case round =>
        clear HQ HS1 HO1 HB2 t1
        obtain ⟨j, hj, rfl, HG, HQ, HS1, HO1, HB2⟩ := hrel
        by_cases hjs : j < s
        · have t1 : decide ((j : Int) < (s : Int)) = true := decide_eq_true (by omega)
          have HJ := Aside0.mk hjs
          have HQ2 : Aside0 (wr.rowIs (S + 1) 224 s (fun q => .int .i64 (fi (if q < j then rest l.length (val l) (er lp) q else if q = j then rpart l.length (val l) lp j 0 else 0)))) := ⟨HQ.out.congr fun q _ => by
            by_cases e : q < j
            · rw [if_pos e, if_pos e]
            · rw [if_neg e, if_neg e]; split <;> rfl⟩
          go_wp2
          clear HQ
          go_loopg [77] (lp.length + 1) (fun g v77 wx => ∃ k : Nat, k ≤ lp.length + 1 ∧ v77 = .int .i64 k ∧ Aside0 (g = lp.length + 1 - k) ∧ Aside0 (wx.rowIs (S + 1) 224 s (fun q => .int .i64 (fi (if q < j then rest l.length (val l) (er lp) q else if q = j then rpart l.length (val l) lp j k else 0)))) ∧ Aside0 (wx.rowIs S 228 6 (fun j => .int .i64 (fi (syn l.length (val l) j)))) ∧ Aside0 (FRow wx w.heap.size (.slice (some ⟨g8, 0, none⟩) (lp.length + 1) c8) (plist l.length lp lp.length)) ∧ Aside0 (Below w.heap.size w wx))
          case atStart => exact ⟨0, Nat.zero_le _, rfl, ⟨rfl⟩, HQ2, HS1, HO1, HB2⟩
          case round =>
            clear HQ2 HS1 HO1 HB2
            obtain ⟨k, hk, rfl, HG2, HQ, HS1, HO1, HB2⟩ := hrel
            by_cases hkL : k < lp.length + 1
            · have t2 : decide ((k : Int) < (lp.length : Int) + 1) = true := decide_eq_true (by omega)
              have d1 := (HO1.out.cell (by rw [plist_length]) hkL).1
              rw [plist_getD _ _ _ _ hkL, roots_all] at d1
              have d2 := HQ.out.cell hjs
              rw [if_neg (by omega), if_pos rfl] at d2
              have d3 := HQ.out.frozen j
              obtain ⟨m, hm⟩ : ∃ m, m + k = j + lp.length := ⟨j + lp.length - k, by omega⟩
              have d4 := HS1.out.cell (show m < 6 by omega)
              have r1 := eq_true (show (0 : Int) ≤ (k : Int) by omega)
              have r2 := eq_true (show (k : Int) < (lp.length : Int) + 1 by omega)
              have r3 := eq_true hkL
              have r4 := eq_true (show (0 : Int) ≤ (j : Int) by omega)
              have r5 := eq_true (show (j : Int) < (s : Int) by omega)
              have r6 := eq_true hjs
              have r7 := eq_true (show (0 : Int) ≤ (m : Int) by omega)
              have r8 := eq_true (show (m : Int) < 6 by omega)
              have r9 := eq_true (show m < 6 by omega)
              have hmt := method_times
              have hmp := method_plus
              go_wp2
              go_still_tail 17, (by kernel_rfl)
              try rw [IntWalk.i64_in ((j : Int) + (lp.length : Int)) (by omega)]
              try rw [IntWalk.i64_in ((j : Int) + (lp.length : Int) - (k : Int)) (by omega)]
              rw [show (j : Int) + (lp.length : Int) - (k : Int) = (m : Int) from by omega]
              repeat still_step
              still_call (times_still _ _ _)
              repeat still_step
              still_call (plus_still _ _ _)
              repeat still_step
              refine wpStill_nil ?_
              change wpList _ _ _ _ _ wr.drew
              go_wp2
              go_roundg (lp.length + 1 - (k + 1))
              case measure => have := HG2.out; omega
              case rel =>
                have hsz := HSZ.out
                refine ⟨k + 1, by omega, by first | rfl | (simp; done), ⟨rfl⟩, ⟨((HQ.out.set j _).drew).congr fun q hq => ?_⟩, ⟨(HS1.out.setOther (by simp) _).drew⟩, ⟨(HO1.out.far (by simp [Value.ownBlock]; omega) _).drew⟩, ⟨below_drew (HB2.out.setCell (by simp; omega) _)⟩⟩
                by_cases e : q = j
                · subst e
                  rw [if_pos rfl, if_neg (by omega), if_pos rfl]
                  unfold rpart
                  rw [sum]
                  rw [show q + lp.length - k = m from by omega]
                · rw [if_neg e]
                  by_cases e2 : q < j
                  · rw [if_pos e2, if_pos e2]
                  · rw [if_neg e2, if_neg e2, if_neg e, if_neg e]
            · have t2 : decide ((k : Int) < (lp.length : Int) + 1) = false := decide_eq_false (by omega)
              have HQ3 : Aside0 (wr.rowIs (S + 1) 224 s (fun q => .int .i64 (fi (if q < j + 1 then rest l.length (val l) (er lp) q else 0)))) := ⟨HQ.out.congr fun q hq => by
                by_cases e : q < j
                · rw [if_pos e, if_pos (by omega)]
                · rw [if_neg e]
                  by_cases e2 : q = j
                  · subst e2
                    obtain rfl : k = lp.length + 1 := (by omega)
                    rw [if_pos rfl, if_pos (by omega), rpart_all]
                  · rw [if_neg e2, if_neg (by omega)]⟩
              clear HQ
              go_wp2
              go_roundg (s - (j + 1))
              case measure => have := HG.out; omega
              case rel => exact ⟨j + 1, by omega, by first | rfl | (simp; done), ⟨rfl⟩, HQ3, HS1, HO1, HB2⟩
        · have t1 : decide ((j : Int) < (s : Int)) = false := decide_eq_false (by omega)
          replace HQ : Aside0 (wr.rowIs (S + 1) 224 s (fun q => .int .i64 (fi (rest l.length (val l) (er lp) q)))) := ⟨HQ.out.congr fun q hq => by rw [if_pos (by omega)]⟩
          clear HS1 HO1 HG
          by_cases hn0 : n = 0
          · subst hn0
            have HL : Aside0 (loc l lp 0 = ([], true)) := ⟨rfl⟩
            have t2 : ((0 : Int) == 0) = true := rfl
            go_wp2
            go_ret2
            exact ⟨.slice none 0 0, by rw [HL.out]; rfl, by rw [HL.out]; exact Kd.R_nil _ _ _ _ _, HB2.out⟩
          · have t2 : ((n : Int) == 0) = false := by simp [hn0]
            obtain ⟨R, hR⟩ : ∃ R, R + n = s := ⟨s - n, by omega⟩
            have hR2 : (s : Int) - (n : Int) = (R : Int) := by omega
            obtain ⟨w4, hw4⟩ : ∃ w4, w4 = wr := ⟨_, rfl⟩
            rw [← hw4] at HQ HB2 ⊢
            clear hw4
            have HBS : Aside0 (S + 1 < w4.heap.size ∧ w.heap.size ≤ w4.heap.size) := ⟨⟨HQ.out.lt, HB2.out.size⟩⟩
            go_wp2
            clear t2
            go_loopg [17, 108] R (fun g v17 v108 wx => ∃ j : Nat, j ≤ R ∧ v108 = .int .i64 j ∧ Aside0 (g = R - j) ∧ ∃ rv, Aside0 (Bld w4.heap.size w4 wx v17 j (lrow l lp n) rv (.slice none 0 0) []))
            case atStart => exact ⟨0, Nat.zero_le _, rfl, ⟨rfl⟩, _, ⟨Bld.start w4 w4 (Below.refl _ _) _⟩⟩
            case round =>
              obtain ⟨j, hj, rfl, HG, rv, HBL⟩ := hrel
              by_cases hjR : j < R
              · have t2 : decide ((j : Int) < (R : Int)) = true := decide_eq_true (by omega)
                go_wp2
                go_loopg [19, 20] n (fun g v19 v20 wx => ∃ k : Nat, k ≤ n ∧ v20 = .int .i64 ((k : Int) + 1) ∧ Aside0 (g = n - k) ∧ Aside0 (Bld w4.heap.size w4 wx u17 j (lrow l lp n) rv v19 ((List.range k).map (fun q => rest l.length (val l) (er lp) (j + n - 1 - q)))))
                case atStart => exact ⟨0, Nat.zero_le _, rfl, ⟨rfl⟩, HBL⟩
                case round =>
                  clear HBL
                  obtain ⟨k, hk, rfl, HG2, HBL⟩ := hrel
                  have HXL : Aside0 (((List.range k).map (fun q => rest l.length (val l) (er lp) (j + n - 1 - q))).length ≤ 6) := ⟨by simp; omega⟩
                  by_cases hkn : k < n
                  · have t3 : decide ((k : Int) + 1 ≤ (n : Int)) = true := decide_eq_true (by omega)
                    obtain ⟨m, hm⟩ : ∃ m, m + (k + 1) = j + n := ⟨j + n - (k + 1), by omega⟩
                    have hm2 : (j : Int) + (n : Int) - ((k : Int) + 1) = (m : Int) := by omega
                    have d1 := (HBL.out.below.cell (World.block_lt_of_cell? _ _ (HQ.out.cell (show m < s by omega)))).trans (HQ.out.cell (show m < s by omega))
                    have r1 := eq_true (show (0 : Int) ≤ (m : Int) by omega)
                    have r2 := eq_true (show (m : Int) < (s : Int) by omega)
                    have r3 := eq_true (show m < s by omega)
                    have HM : Aside0 (m = j + n - 1 - k) := ⟨by omega⟩
                    obtain ⟨xs, hxs⟩ : ∃ xs, (List.range k).map (fun q => rest l.length (val l) (er lp) (j + n - 1 - q)) = xs := ⟨_, rfl⟩
                    rw [hxs] at HBL HXL
                    have HXS := Aside0.mk hxs
                    clear hxs
                    go_wp2_with (first | (at_builtin; refine print_append (w0 := w4) w4.heap.size rfl (.tmp 116) (.tmp 125) 225 224 (.int .i64 0) 8 rfl Tryz.underlying225 info_gf rfl (by decide) u19 (fv xs) (.int .i64 (fi (rest l.length (val l) (er lp) m))) rfl rfl rfl ?aO ?aB ?aS ?aL ?_; (case aO => exact HBL.out.cur'); (case aB => exact HBL.out.below); (case aS => exact HBL.out.size); (case aL => have := HXL.out; rw [fv_length]; omega); intro v1 w1 ho hb hg hat; have HBL2 := Aside0.mk (HBL.out.elem ho hb hg hat); clear ho hb hg hat))
                    go_roundg (n - (k + 1))
                    case measure => have := HG2.out; omega
                    case rel =>
                      refine ⟨k + 1, by omega, by first | rfl | (simp; done), ⟨rfl⟩, ⟨?_⟩⟩
                      have := HBL2.out
                      rw [List.range_succ, List.map_append, HXS.out]
                      rw [HM.out] at this
                      exact this
                  · have t3 : decide ((k : Int) + 1 ≤ (n : Int)) = false := decide_eq_false (by omega)
                    have HX0 : Aside0 (((List.range k).map (fun q => rest l.length (val l) (er lp) (j + n - 1 - q))) ++ [rest l.length (val l) (er lp) (j + n)] = lrow l lp n j) := ⟨by obtain rfl : k = n := (by omega); rfl⟩
                    obtain ⟨xs, hxs⟩ : ∃ xs, (List.range k).map (fun q => rest l.length (val l) (er lp) (j + n - 1 - q)) = xs := ⟨_, rfl⟩
                    rw [hxs] at HBL HXL HX0
                    clear hxs
                    have d1 := (HBL.out.below.cell (World.block_lt_of_cell? _ _ (HQ.out.cell (show j + n < s by omega)))).trans (HQ.out.cell (show j + n < s by omega))
                    have r1 := eq_true (show (0 : Int) ≤ (j : Int) + (n : Int) by omega)
                    have r2 := eq_true (show (j : Int) + (n : Int) < (s : Int) by omega)
                    have r3 := eq_true (show j + n < s by omega)
                    go_wp2_with (first | ((with_reducible refine gate_builtin (b := .append) (xs := #[.tmp 128, .tmp 135]) rfl ?_); at_builtin; refine print_append (w0 := w4) w4.heap.size rfl (.tmp 128) (.tmp 135) 225 224 (.int .i64 0) 8 rfl Tryz.underlying225 info_gf rfl (by decide) u19 (fv xs) (.int .i64 (fi (rest l.length (val l) (er lp) (j + n)))) rfl rfl rfl ?aO ?aB ?aS ?aL ?_; (case aO => exact HBL.out.cur'); (case aB => exact HBL.out.below); (case aS => exact HBL.out.size); (case aL => have := HXL.out; rw [fv_length]; omega); intro v1 w1 ho hb hg hat; have HBL2 := Aside0.mk (HBL.out.elem ho hb hg hat); clear ho hb hg hat; obtain ⟨A1, c1, hv1⟩ := own_slice HBL2.out.cur; subst hv1; simp only [List.length_append, List.length_cons, List.length_nil, Nat.zero_add] at HBL2) | ((with_reducible refine gate_builtin (b := .append) (xs := #[.tmp 127, .tmp 137]) rfl ?_); at_builtin; refine print_append (w0 := w4) w4.heap.size rfl (.tmp 127) (.tmp 137) 230 225 (.slice none 0 0) 24 rfl Tryz.underlying230 info_row rfl (by decide) u17 ((List.range j).map rv) (.slice A1 (xs.length + 1) c1) rfl rfl ?aC ?aO ?aB ?aS ?aL ?_; (case aC => exact HBL2.out.cell); (case aO => exact HBL2.out.top'); (case aB => exact HBL2.out.below); (case aS => exact HBL2.out.size); (case aL => simp; omega); intro v2 w2 ho hb hg hat; have HBL3 := Aside0.mk (HBL2.out.push HX0.out.symm ho hb hg); clear ho hb hg hat))
                    go_roundg (R - (j + 1))
                    case measure => have := HG.out; omega
                    case rel =>
                      obtain ⟨rv', h'⟩ := HBL3.out
                      exact ⟨j + 1, by omega, by first | rfl | (simp; done), ⟨rfl⟩, rv', ⟨h'⟩⟩
              · have t2 : decide ((j : Int) < (R : Int)) = false := decide_eq_false (by omega)
                obtain rfl : j = R := by omega
                obtain ⟨B0, cr, b, cp2, rfl, hM, hb0, hb⟩ := HBL.out.mat (n := n) (m := locM l.length (val l) (er lp) n) (by omega) (fun q _ => lrow_length l lp n q) (fun q k _ hk => lrow_get l lp n q k hk)
                have HM := Aside0.mk hM
                have HB0 := Aside0.mk hb0
                have HB1 := Aside0.mk hb
                have HBW := Aside0.mk HBL.out.below
                have HR6 : Aside0 (6 - lp.length - n = j) := ⟨by omega⟩
                clear hM hb0 hb HBL
                cases hsol : solve j n (locM l.length (val l) (er lp) n) with
                | none =>
                  have HL : Aside0 (loc l lp n = ([], false)) := ⟨by unfold loc; rw [if_neg hn0, HR6.out, hsol]⟩
                  have HS := Aside0.mk hsol
                  clear hsol
                  go_wp2_with (first | (go_at_call 179; refine (solve_none_calls _ w4.heap.size B0 j cr n b cp2 _ (by omega) (by omega) (by omega) HM.out HB0.out HB1.out HBW.out.size HS.out).mono ?_; rintro e w1 ⟨rfl, hs⟩; have HS1 := Aside0.mk hs; clear hs))
                  go_ret2
                  exact ⟨.slice none 0 0, by rw [HL.out]; rfl, by rw [HL.out]; exact Kd.R_nil _ _ _ _ _, HB2.out.trans ((HBW.out.since HS1.out).mono HBS.out.2)⟩
                | some y =>
                  have HL : Aside0 (loc l lp n = (placedTo l n y l.length, (placedTo l n y l.length).length == n)) := ⟨by unfold loc; rw [if_neg hn0, HR6.out, hsol]; unfold placedTo placed; simp⟩
                  have HS := Aside0.mk hsol
                  clear hsol
                  go_wp2_with (first | (go_at_call 179; refine (solve_some_calls _ w4.heap.size B0 j cr n b cp2 _ y (by omega) (by omega) (by omega) HM.out HB0.out HB1.out HBW.out.size HS.out).mono ?_; rintro e w5 ⟨G, rfl, hg, hrow, hs⟩; have HS1 := Aside0.mk hs; have HR1 := Aside0.mk hrow; clear hs hrow hg))
                  have HW5 : Aside0 (Below w.heap.size w w5) := ⟨HB2.out.trans ((HBW.out.since HS1.out).mono HBS.out.2)⟩
                  have HN0 : Aside0 (NRow w5 w5.heap.size (.slice none 0 0) (placedTo l n y 0)) := ⟨own_nil _ _ _ _⟩
                  have HGl : Aside0 (G < w5.heap.size) := ⟨HR1.out.lt⟩
                  have HBR : Aside0 (Below w5.heap.size w5 w5) := ⟨Below.refl _ _⟩
                  clear HB2 HBW HS1 HM HB0 HB1 HS HR6 HQ HBS t2
                  go_loopg [23, 149] l.length (fun g v23 v149 wx => ∃ i : Nat, i ≤ l.length ∧ v149 = .int .i64 i ∧ Aside0 (g = l.length - i) ∧ Aside0 (NRow wx w5.heap.size v23 (placedTo l n y i)) ∧ Aside0 (Below w5.heap.size w5 wx))
                  case atStart => exact ⟨0, Nat.zero_le _, rfl, ⟨rfl⟩, HN0, HBR⟩
                  case round =>
                    clear HN0 HBR
                    obtain ⟨i, hi, rfl, HG, HP5, HB5⟩ := hrel
                    by_cases hiN : i < l.length
                    · have t2 : decide ((i : Int) < (l.length : Int)) = true := decide_eq_true (by omega)
                      obtain ⟨ad, e, hx⟩ := Kd.at_int HR.out (i : Int) (by omega) (by omega)
                      cases e
                      replace hx := (HB5.out.cell (World.block_lt_of_cell? _ _ ((HW5.out.cell (World.block_lt_of_cell? w _ hx)).trans hx))).trans ((HW5.out.cell (World.block_lt_of_cell? w _ hx)).trans hx)
                      simp only [Int.toNat_natCast] at hx
                      have p1 := eq_true (show (0 : Int) ≤ (i : Int) by omega)
                      have q1 := eq_true (show (i : Int) < (l.length : Int) by omega)
                      have HRW := Aside0.mk (Kd.C_below (Kd.C_below HR.out HW5.out) HB5.out)
                      obtain ⟨w6, hw6⟩ : ∃ w6, w6 = wr := ⟨_, rfl⟩
                      rw [← hw6] at HP5 HB5 HRW hx ⊢
                      clear hw6
                      have HIN := Aside0.mk hiN
                      go_wp2
                      go_loopg [26, 156] n (fun g v26 v156 wx => ∃ k : Nat, k ≤ n ∧ v156 = .int .i64 k ∧ Aside0 (g = n - k) ∧ Aside0 (wx = w6) ∧ v26 = .int .i64 (fi (lpart l.length k y i)))
                      case atStart => exact ⟨0, Nat.zero_le _, rfl, ⟨rfl⟩, ⟨rfl⟩, by rw [lpart_zero]; rfl⟩
                      case round =>
                        clear hx
                        obtain ⟨k, hk, rfl, HG2, HWR, rfl⟩ := hrel
                        replace HWR := HWR.out
                        subst HWR
                        by_cases hkn : k < n
                        · have t3 : decide ((k : Int) < (n : Int)) = true := decide_eq_true (by omega)
                          have d1 := (HB5.out.cell HGl.out).trans (HR1.out.cell hkn)
                          have r1 := eq_true (show (0 : Int) ≤ (k : Int) by omega)
                          have r2 := eq_true (show (k : Int) < (n : Int) by omega)
                          have r3 := eq_true hkn
                          go_wp2_with (first | (go_at_call 177; refine (at_neg_calls (some ad) c l _ HRW.out hc (by omega) HIN.out (n := k + 1) (by omega) _ _ rfl (by omega)).mono ?_; rintro e w1 ⟨rfl, rfl⟩) | (go_at_call 176; refine (times_calls _ _ _).mono ?_; rintro e w1 ⟨rfl, rfl⟩) | (go_at_call 175; refine (plus_calls _ _ _).mono ?_; rintro e w1 ⟨rfl, rfl⟩))
                          go_roundg (n - (k + 1))
                          case measure => have := HG2.out; omega
                          case rel => exact ⟨k + 1, by omega, by first | rfl | (simp; done), ⟨rfl⟩, ⟨rfl⟩, by rw [lpart_succ]⟩
                        · have t3 : decide ((k : Int) < (n : Int)) = false := decide_eq_false (by omega)
                          obtain rfl : k = n := by omega
                          have HE : Aside0 (rd l (i : Int) = l.getD i 0) := ⟨by simp [rd]⟩
                          by_cases hm : rd l (i : Int) = -1
                          · have HX : Aside0 (placedTo l k y (i + 1) = placedTo l k y i) := ⟨placedTo_no _ _ _ _ (fun h => h.1 (HE.out.symm.trans hm))⟩
                            have t4 : (rd l (i : Int) != -1) = false := by simp [hm]
                            clear hm
                            go_wp2
                            go_roundg (l.length - (i + 1))
                            case measure => have := HG.out; omega
                            case rel => exact ⟨i + 1, by omega, by first | rfl | (simp; done), ⟨rfl⟩, ⟨by rw [HX.out]; exact HP5.out⟩, HB5⟩
                          · have t4 : (rd l (i : Int) != -1) = true := by simp [hm]
                            by_cases hz : lpart l.length k y i = 0
                            · have HX : Aside0 (placedTo l k y (i + 1) = placedTo l k y i ++ [(i : Int)]) := ⟨placedTo_yes _ _ _ _ (fun h => hm (HE.out.trans h)) hz⟩
                              have t5 : (fi (lpart l.length k y i) == 0) = true := by rw [hz]; rfl
                              have HL2 := Aside0.mk (placedTo_length l k y i)
                              clear hm hz
                              obtain ⟨xs, hxs⟩ : ∃ xs, placedTo l k y i = xs := ⟨_, rfl⟩
                              rw [hxs] at HX HP5 HL2
                              clear hxs
                              go_wp2_with (first | (at_builtin; refine print_append_num (w0 := w5) w5.heap.size rfl (.tmp 178) (.tmp 180) 22 3 .i64 8 rfl Tryz.underlying22 info_int (by decide) u23 xs (i : Int) rfl rfl ?aO ?aB ?aS ?aL ?_; (case aO => exact HP5.out); (case aB => exact HB5.out); (case aS => exact HB5.out.size); (case aL => have := HL2.out; omega); intro v1 w1 ho hb hg hat; have HO2 := Aside0.mk ho; have HB2 := Aside0.mk hb; clear ho hb hg hat))
                              go_roundg (l.length - (i + 1))
                              case measure => have := HG.out; omega
                              case rel => exact ⟨i + 1, by omega, by first | rfl | (simp; done), ⟨rfl⟩, ⟨by rw [HX.out]; exact HO2.out⟩, HB2⟩
                            · have HX : Aside0 (placedTo l k y (i + 1) = placedTo l k y i) := ⟨placedTo_no _ _ _ _ (fun h => hz h.2)⟩
                              have t5 : (fi (lpart l.length k y i) == 0) = false := by
                                rw [beq_eq_false_iff_ne]; intro e; exact hz (fi_inj (e.trans fi_zero.symm))
                              clear hm hz
                              go_wp2
                              go_roundg (l.length - (i + 1))
                              case measure => have := HG.out; omega
                              case rel => exact ⟨i + 1, by omega, by first | rfl | (simp; done), ⟨rfl⟩, ⟨by rw [HX.out]; exact HP5.out⟩, HB5⟩
                    · have t2 : decide ((i : Int) < (l.length : Int)) = false := decide_eq_false (by omega)
                      obtain rfl : i = l.length := by omega
                      obtain ⟨A5, c5, rfl⟩ := own_slice HP5.out
                      go_wp2
                      go_ret2
                      refine ⟨.slice A5 (placedTo l n y l.length).length c5, by rw [HL.out]; show Ending.returned (.tuple #[.slice A5 (placedTo l n y l.length).length c5, .bool (((placedTo l n y l.length).length : Int) == (n : Int))]) = _; rw [nat_beq], ?_, HW5.out.trans (HB5.out.mono HW5.out.size)⟩
                      rw [HL.out]
                      exact Kd.R_lower (Kd.R_of_own (enc := Value.int .i64) (h1 := fun _ => rfl) (ok := fun _ => True) HP5.out (fun _ _ => trivial)) HW5.out.size
end Go.Proofs.YtcpmgkedmmiioaaGreatDoor.H
end
