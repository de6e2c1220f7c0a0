/- stripTurns_card, part 9: what the row's proof needs: words of the print, contracts of functions, the plain law. -/
import Derived.Outline
import Derived.StillTailTactics
import Derived.Deep.Light
import Derived.Deep.OwnRows
import Derived.BigRegion
import Derived.BigQuiet
import Derived.Test.YtcpmgkedmmiioaaGreatDoorKa8
section
set_option linter.unusedVariables false
namespace Go.Proofs.YtcpmgkedmmiioaaGreatDoor.H
open Go.RowKit Go.Proofs.YtcpmgkedmmiioaaGreatDoorW.PrintWords Go.Proofs.YtcpmgkedmmiioaaGreatDoorW.PrintLast Go.Proofs.YtcpmgkedmmiioaaGreatDoorW.PrintMore Go.Proofs.YtcpmgkedmmiioaaGreatDoor.B Go.Proofs.YtcpmgkedmmiioaaGreatDoor.Gf
/-- the symbols of a word, what is erased as 0 -/
def val (l : List Int) (i : Nat) : F := fo (max (l.getD i 0) 0)
/-- the sums of the first i places -/
def part (l : List Int) (i j : Nat) : F := sum i (fun q => mul (val l q) (fpow (px l.length q) (1 + j)))
theorem max_val (l : List Int) (i : Nat) (h : -1 ≤ l.getD i 0 ∧ l.getD i 0 ≤ 31) : (if rd l (i : Int) < 0 then 0 else rd l (i : Int)) = fi (val l i) := by
  have e : rd l (i : Int) = l.getD i 0 := by simp [rd]
  rw [e]; unfold val
  split
  · rw [fi_fo (by omega) (by omega)]; omega
  · rw [fi_fo (by omega) (by omega)]; omega
theorem pow_exp {i n j : Nat} (hi : i < n) (hn : n ≤ 31) (hj : j < 6) : pow (wrap64 (((j : Int) + 1) * ((n : Int) - 1 - (i : Int))) % 31).toNat = fpow (px n i) (1 + j) := by
  have e : ((j : Int) + 1) * ((n : Int) - 1 - (i : Int)) = (((j + 1) * (n - 1 - i) : Nat) : Int) := by
    rw [Int.natCast_mul]; congr 1; omega
  have hb : (j + 1) * (n - 1 - i) ≤ 6 * 31 := Nat.mul_le_mul (by omega) (by omega)
  have hw : wrap64 (((j + 1) * (n - 1 - i) : Nat) : Int) = (((j + 1) * (n - 1 - i) : Nat) : Int) := by unfold wrap64; omega
  rw [e, hw]
  have : (((((j + 1) * (n - 1 - i) : Nat) : Int)) % 31).toNat = ((j + 1) * (n - 1 - i)) % 31 := by omega
  rw [this, pow_mod, px, fpow_pow, Nat.add_comm 1 j, Nat.mul_comm]
theorem row6_set {w : World} {b t : Nat} {f : Nat → Value} (h : w.rowIs b t 6 f) (v0 v1 v2 v3 v4 v5 : Value) :
    (((((((w.setCell ⟨b, 0, none⟩ v0).setCell ⟨b, 1, none⟩ v1).setCell ⟨b, 2, none⟩ v2).setCell ⟨b, 3, none⟩ v3).setCell ⟨b, 4, none⟩ v4).setCell ⟨b, 5, none⟩ v5).cell? ⟨b, 0, none⟩ = some v0) ∧
    (((((((w.setCell ⟨b, 0, none⟩ v0).setCell ⟨b, 1, none⟩ v1).setCell ⟨b, 2, none⟩ v2).setCell ⟨b, 3, none⟩ v3).setCell ⟨b, 4, none⟩ v4).setCell ⟨b, 5, none⟩ v5).cell? ⟨b, 1, none⟩ = some v1) ∧
    (((((((w.setCell ⟨b, 0, none⟩ v0).setCell ⟨b, 1, none⟩ v1).setCell ⟨b, 2, none⟩ v2).setCell ⟨b, 3, none⟩ v3).setCell ⟨b, 4, none⟩ v4).setCell ⟨b, 5, none⟩ v5).cell? ⟨b, 2, none⟩ = some v2) ∧
    (((((((w.setCell ⟨b, 0, none⟩ v0).setCell ⟨b, 1, none⟩ v1).setCell ⟨b, 2, none⟩ v2).setCell ⟨b, 3, none⟩ v3).setCell ⟨b, 4, none⟩ v4).setCell ⟨b, 5, none⟩ v5).cell? ⟨b, 3, none⟩ = some v3) ∧
    (((((((w.setCell ⟨b, 0, none⟩ v0).setCell ⟨b, 1, none⟩ v1).setCell ⟨b, 2, none⟩ v2).setCell ⟨b, 3, none⟩ v3).setCell ⟨b, 4, none⟩ v4).setCell ⟨b, 5, none⟩ v5).cell? ⟨b, 4, none⟩ = some v4) ∧
    (((((((w.setCell ⟨b, 0, none⟩ v0).setCell ⟨b, 1, none⟩ v1).setCell ⟨b, 2, none⟩ v2).setCell ⟨b, 3, none⟩ v3).setCell ⟨b, 4, none⟩ v4).setCell ⟨b, 5, none⟩ v5).cell? ⟨b, 5, none⟩ = some v5) := by
  have H := (((((h.set 0 v0).set 1 v1).set 2 v2).set 3 v3).set 4 v4).set 5 v5
  exact ⟨H.cell (by omega), H.cell (by omega), H.cell (by omega), H.cell (by omega), H.cell (by omega), H.cell (by omega)⟩
set_option maxHeartbeats 4000000 in
set_option maxRecDepth 100000 in
theorem syndromes_calls (A : Option Addr) (c : Nat) (l : List Int) (w : World) (hr : Kd.C (Kd.int .i64) w A l.length l) (hc : l.length ≤ c) (hl : l.length ≤ 31) (hv : ∀ i, i < l.length → -1 ≤ l.getD i 0 ∧ l.getD i 0 ≤ 31) :
    Calls Tryz.prog 178 #[.slice A l.length c] w fun e w' => e = .returned (.agg #[.int .i64 (fi (syn l.length (val l) 0)), .int .i64 (fi (syn l.length (val l) 1)), .int .i64 (fi (syn l.length (val l) 2)), .int .i64 (fi (syn l.length (val l) 3)), .int .i64 (fi (syn l.length (val l) 4)), .int .i64 (fi (syn l.length (val l) 5))]) ∧ Below w.heap.size w w' := by
  have HR := Aside0.mk hr
  have HV := Aside0.mk hv
  clear hr hv
  have r0 := World.rowIs_alloc w #[.int .i64 0, .int .i64 0, .int .i64 0, .int .i64 0, .int .i64 0, .int .i64 0] 228 (fun _ => .int .i64 0) (by intro i hi; simp only [List.size_toArray, List.length_cons, List.length_nil] at hi; rcases i with _|_|_|_|_|_|_ <;> first | rfl | omega)
  have r1 := World.rowIs_alloc (w.alloc (.cells #[.int .i64 0, .int .i64 0, .int .i64 0, .int .i64 0, .int .i64 0, .int .i64 0] 228)) #[.int .i64 0, .int .i64 0, .int .i64 0, .int .i64 0, .int .i64 0, .int .i64 0] 228 (fun _ => .int .i64 0) (by intro i hi; simp only [List.size_toArray, List.length_cons, List.length_nil] at hi; rcases i with _|_|_|_|_|_|_ <;> first | rfl | omega)
  have R0 := Aside0.mk (r0.alloc (.cells #[.int .i64 0, .int .i64 0, .int .i64 0, .int .i64 0, .int .i64 0, .int .i64 0] 228))
  have R1 := Aside0.mk r1
  clear r0 r1
  go_enter Tryz.func178, Tryz.ntmps178
  go_wp2
  go_loopg [9] l.length (fun g v9 wr => ∃ i : Nat, i ≤ l.length ∧ v9 = .int .i64 i ∧ Aside0 (g = l.length - i) ∧ Aside0 (wr.rowIs w.heap.size 228 6 (fun _ => .int .i64 0)) ∧ Aside0 (wr.rowIs (w.heap.size + 1) 228 6 (fun j => .int .i64 (fi (part l i j)))) ∧ Aside0 (Below w.heap.size w wr))
  case atStart =>
    refine ⟨0, Nat.zero_le _, rfl, ⟨rfl⟩, ⟨R0.out⟩, ⟨?_⟩, ⟨below_alloc (below_alloc (Below.refl _ _) _) _⟩⟩
    have := R1.out
    rw [World.size_alloc] at this
    exact this
  case round =>
    clear R0 R1
    obtain ⟨i, hi, rfl, HG, HZ, HS, HB⟩ := hrel
    by_cases hlt : i < l.length
    · have t1 : decide ((i : Int) < (l.length : Int)) = true := decide_eq_true (by omega)
      obtain ⟨ad, e, hx⟩ := Kd.at_int HR.out (i : Int) (by omega) (by omega)
      cases e
      replace hx := (HB.out.cell (World.block_lt_of_cell? w _ hx)).trans hx
      simp only [Int.toNat_natCast] at hx
      have p1 := eq_true (show (0 : Int) ≤ (i : Int) by omega)
      have q1 := eq_true (show (i : Int) < (l.length : Int) by omega)
      have HM := Aside0.mk (max_val l i (HV.out i hlt))
      go_wp2
      go_loopg [14] 6 (fun g v14 wi => ∃ j : Nat, j ≤ 6 ∧ v14 = .int .i64 j ∧ Aside0 (g = 6 - j) ∧ Aside0 (wi.rowIs w.heap.size 228 6 (fun _ => .int .i64 0)) ∧ Aside0 (wi.rowIs (w.heap.size + 1) 228 6 (fun q => .int .i64 (fi (if q < j then part l (i + 1) q else part l i q)))) ∧ Aside0 (Below w.heap.size w wi))
      case atStart => exact ⟨0, Nat.zero_le _, rfl, ⟨rfl⟩, HZ, ⟨HS.out.congr fun q _ => by simp⟩, HB⟩
      case round =>
        clear HZ HS HB hx
        obtain ⟨j, hj, rfl, HG2, HZ, HS, HB⟩ := hrel
        by_cases hj6 : j < 6
        · have t2 : decide ((j : Int) < 6) = true := decide_eq_true (by omega)
          have hc1 : wr.cell? ⟨w.heap.size + 1, j, none⟩ = some (.int .i64 (fi (part l i j))) := by rw [HS.out.cell hj6]; simp
          have hf1 : wr.frozen? ⟨w.heap.size + 1, j, none⟩ = false := HS.out.frozen j
          have p2 := eq_true (show (0 : Int) ≤ (j : Int) by omega)
          have q2 := eq_true (show (j : Int) < 6 by omega)
          have q3 := eq_true hj6
          go_wp2
          go_still_tail 16, (by kernel_rfl)
          still_call (power_still _ _)
          repeat still_step
          rw [HM.out]
          still_call (mul_still _ _ _)
          repeat still_step
          refine wpStill_nil ?_
          change wpList _ _ _ _ _ wr.drew
          go_wp2
          go_roundg (6 - (j + 1))
          case measure => have := HG2.out; omega
          case rel =>
            have hxv : bits BinOp.xor IntKind.i64 (fi (part l i j)) (fi (mul (val l i) (pow (wrap64 (((j : Int) + 1) * ((l.length : Int) - 1 - (i : Int))) % 31).toNat))) = fi (part l (i + 1) j) := by
              rw [xor_f, pow_exp hlt hl hj6]; rfl
            refine ⟨j + 1, by omega, by first | rfl | (simp; done), ⟨rfl⟩, ⟨(HZ.out.setOther (by simp) _).drew⟩, ⟨?_⟩, ⟨below_drew (HB.out.setCell (by simp) _)⟩⟩
            rw [hxv]
            refine ((HS.out.set j _).drew).congr fun q hq => ?_
            by_cases e : q = j
            · subst e; simp
            · simp only [e, if_false]
              by_cases e2 : q < j
              · simp [e2, show q < j + 1 by omega]
              · simp [e2, show ¬ q < j + 1 by omega]
        · have t2 : decide ((j : Int) < 6) = false := decide_eq_false (by omega)
          go_wp2
          go_roundg (l.length - (i + 1))
          case measure => have := HG.out; omega
          case rel => exact ⟨i + 1, by omega, by first | rfl | (simp; done), ⟨rfl⟩, HZ, ⟨HS.out.congr fun q hq => by rw [if_pos (by omega)]⟩, HB⟩
    · have t1 : decide ((i : Int) < (l.length : Int)) = false := decide_eq_false (by omega)
      have s0 := HS.out.cell (show 0 < 6 by omega)
      have s1 := HS.out.cell (show 1 < 6 by omega)
      have s2 := HS.out.cell (show 2 < 6 by omega)
      have s3 := HS.out.cell (show 3 < 6 by omega)
      have s4 := HS.out.cell (show 4 < 6 by omega)
      have s5 := HS.out.cell (show 5 < 6 by omega)
      have z0 := HZ.out.cell (show 0 < 6 by omega)
      have z1 := HZ.out.cell (show 1 < 6 by omega)
      have z2 := HZ.out.cell (show 2 < 6 by omega)
      have z3 := HZ.out.cell (show 3 < 6 by omega)
      have z4 := HZ.out.cell (show 4 < 6 by omega)
      have z5 := HZ.out.cell (show 5 < 6 by omega)
      have f0 := HZ.out.frozen 0
      have f1 := HZ.out.frozen 1
      have f2 := HZ.out.frozen 2
      have f3 := HZ.out.frozen 3
      have f4 := HZ.out.frozen 4
      have f5 := HZ.out.frozen 5
      obtain rfl : i = l.length := by omega
      go_wp2
      obtain ⟨y0, y1, y2, y3, y4, y5⟩ := row6_set HZ.out (.int .i64 (fi (part l l.length 0))) (.int .i64 (fi (part l l.length 1))) (.int .i64 (fi (part l l.length 2))) (.int .i64 (fi (part l l.length 3))) (.int .i64 (fi (part l l.length 4))) (.int .i64 (fi (part l l.length 5)))
      exact bodyPost_ret (v := .agg #[.int .i64 (fi (part l l.length 0)), .int .i64 (fi (part l l.length 1)), .int .i64 (fi (part l l.length 2)), .int .i64 (fi (part l l.length 3)), .int .i64 (fi (part l l.length 4)), .int .i64 (fi (part l l.length 5))]) (by simp [results, Tryz.results178, go_sem, y0, y1, y2, y3, y4, y5]) rfl ⟨rfl, (((((HB.out.setCell (by simp) _).setCell (by simp) _).setCell (by simp) _).setCell (by simp) _).setCell (by simp) _).setCell (by simp) _⟩
end Go.Proofs.YtcpmgkedmmiioaaGreatDoor.H
end

section
set_option linter.unusedVariables false
namespace Go.Proofs.YtcpmgkedmmiioaaGreatDoor.H
open Go.RowKit Go.Proofs.YtcpmgkedmmiioaaGreatDoorW.PrintWords Go.Proofs.YtcpmgkedmmiioaaGreatDoorW.PrintLast Go.Proofs.YtcpmgkedmmiioaaGreatDoorW.PrintMore Go.Proofs.YtcpmgkedmmiioaaGreatDoor.B Go.Proofs.YtcpmgkedmmiioaaGreatDoor.Gf
/-- Block b is a row of cells of type t, the first n of which hold f. -/
def Row (w : World) (b : Nat) (t : TypeId) (n : Nat) (f : Nat → Value) : Prop := ∃ c : Array Value, w.heap[b]? = some (.cells c t (0, 0)) ∧ ∀ i, i < n → c[i]? = some (f i)
namespace Row
variable {w : World} {b : Nat} {t : TypeId} {n : Nat} {f g : Nat → Value}
theorem cell (h : Row w b t n f) {i : Nat} (hi : i < n) : w.cell? ⟨b, i, none⟩ = some (f i) := by
  obtain ⟨c, hb, hc⟩ := h
  simp [World.cell?, hb, hc i hi]
theorem frozen (h : Row w b t n f) (i : Nat) : w.frozen? ⟨b, i, none⟩ = false := by
  obtain ⟨c, hb, _⟩ := h
  simp [World.frozen?, hb]
theorem lt (h : Row w b t n f) : b < w.heap.size := by
  obtain ⟨c, hb, _⟩ := h
  exact (Array.getElem?_eq_some_iff.1 hb).1
theorem congr (h : Row w b t n f) (e : ∀ i, i < n → f i = g i) : Row w b t n g := by
  obtain ⟨c, hb, hc⟩ := h
  exact ⟨c, hb, fun i hi => by rw [hc i hi, e i hi]⟩
theorem of_block {w' : World} (h : Row w b t n f) (e : w'.heap[b]? = w.heap[b]?) : Row w' b t n f := by
  obtain ⟨c, hb, hc⟩ := h
  exact ⟨c, e.trans hb, hc⟩
theorem set (h : Row w b t n f) (i : Nat) (v : Value) : Row (w.setCell ⟨b, i, none⟩ v) b t n (fun j => if j = i then v else f j) := by
  obtain ⟨c, hb, hc⟩ := h
  refine ⟨c.setIfInBounds i v, ?_, fun j hj => ?_⟩
  · simp [World.setCell, Array.getElem?_modify, hb]
  · rw [Array.getElem?_setIfInBounds]
    have hlt : j < c.size := (Array.getElem?_eq_some_iff.1 (hc j hj)).1
    by_cases e : j = i
    · subst e; simp [hlt]
    · rw [if_neg (fun h => e h.symm)]
      simp only [e, if_false]
      exact hc j hj
theorem setOther (h : Row w b t n f) {a : Addr} (ha : b ≠ a.block) (v : Value) : Row (w.setCell a v) b t n f := h.of_block (Deep.blk_setCell_other _ _ _ _ ha)
theorem alloc (h : Row w b t n f) (o : Obj) : Row (w.alloc o) b t n f := h.of_block (Deep.blk_alloc_lt _ _ _ h.lt)
theorem drew (h : Row w b t n f) : Row w.drew b t n f := h
theorem typeNe {b' t' n' : Nat} {f' : Nat → Value} (h : Row w b t n f) (h' : Row w b' t' n' f') (ht : t ≠ t') : b ≠ b' := by
  rintro rfl
  obtain ⟨c, hb, _⟩ := h
  obtain ⟨c', hb', _⟩ := h'
  rw [hb] at hb'
  injection hb' with hb'
  injection hb' with _ h2
  exact ht h2
end Row
/-- A matrix of R rows of n + 1 elements: the rows' blocks b, their capacities cp, what they hold. -/
structure Mat (w : World) (B0 R n : Nat) (b cp : Nat → Nat) (m : Nat → Nat → F) : Prop where
  top : Row w B0 225 R (fun i => .slice (some ⟨b i, 0, none⟩) (n + 1) (cp i))
  row : ∀ i, i < R → Row w (b i) 224 (n + 1) (fun k => .int .i64 (fi (m i k)))
  inj : ∀ i j, i < R → j < R → b i = b j → i = j
namespace Mat
variable {w : World} {B0 R n : Nat} {b cp : Nat → Nat} {m : Nat → Nat → F}
theorem ne (h : Mat w B0 R n b cp m) {i : Nat} (hi : i < R) : B0 ≠ b i := h.top.typeNe (h.row i hi) (by decide)
theorem drew (h : Mat w B0 R n b cp m) : Mat w.drew B0 R n b cp m := ⟨h.top.drew, fun i hi => (h.row i hi).drew, h.inj⟩
theorem congr {m' : Nat → Nat → F} (h : Mat w B0 R n b cp m) (e : ∀ i k, i < R → k ≤ n → m i k = m' i k) : Mat w B0 R n b cp m' :=
  ⟨h.top, fun i hi => (h.row i hi).congr fun k hk => by rw [e i k hi (by omega)], h.inj⟩
theorem alloc (h : Mat w B0 R n b cp m) (o : Obj) : Mat (w.alloc o) B0 R n b cp m := ⟨h.top.alloc o, fun i hi => (h.row i hi).alloc o, h.inj⟩
/-- a store into row i -/
theorem set (h : Mat w B0 R n b cp m) {i k : Nat} (hi : i < R) (x : F) : Mat (w.setCell ⟨b i, k, none⟩ (.int .i64 (fi x))) B0 R n b cp (fun i' k' => if i' = i then (if k' = k then x else m i k') else m i' k') := by
  refine ⟨h.top.setOther (h.ne hi) _, fun i' hi' => ?_, h.inj⟩
  by_cases e : i' = i
  · subst e
    refine ((h.row i' hi').set k _).congr fun k' hk' => ?_
    by_cases e2 : k' = k <;> simp [e2]
  · simp only [e, if_false]
    exact (h.row i' hi').setOther (fun e2 => e (h.inj i' i hi' hi e2)) _
/-- two rows exchanged -/
theorem swap (h : Mat w B0 R n b cp m) {x y : Nat} (hx : x < R) (hy : y < R) :
    Mat ((w.setCell ⟨B0, x, none⟩ (.slice (some ⟨b y, 0, none⟩) (n + 1) (cp y))).setCell ⟨B0, y, none⟩ (.slice (some ⟨b x, 0, none⟩) (n + 1) (cp x))) B0 R n
      (fun i => if i = x then b y else if i = y then b x else b i) (fun i => if i = x then cp y else if i = y then cp x else cp i) (swapR m x y) := by
  have nx := h.ne hx
  have ny := h.ne hy
  refine ⟨((h.top.set x _).set y _).congr fun i hi => ?_, fun i hi => ?_, ?_⟩
  · by_cases e1 : i = y
    · subst e1
      by_cases e2 : i = x
      · subst e2; simp
      · simp [e2]
    · by_cases e2 : i = x
      · simp [e2]
        intro e3; exact absurd (e2.trans e3) e1
      · simp [e1, e2]
  · have key : ∀ q, q < R → Row ((w.setCell ⟨B0, x, none⟩ (.slice (some ⟨b y, 0, none⟩) (n + 1) (cp y))).setCell ⟨B0, y, none⟩ (.slice (some ⟨b x, 0, none⟩) (n + 1) (cp x))) (b q) 224 (n + 1) (fun k => .int .i64 (fi (m q k))) :=
      fun q hq => ((h.row q hq).setOther (fun e => h.ne hq e.symm) _).setOther (fun e => h.ne hq e.symm) _
    unfold swapR
    by_cases e2 : i = x
    · simp only [e2, if_true]; exact key y hy
    · by_cases e1 : i = y
      · simp only [e1]
        by_cases e3 : y = x
        · subst e3; exact absurd e1 e2
        · simp only [e3, if_false, if_true]; exact key x hx
      · simp only [e1, e2, if_false]; exact key i hi
  · intro i j hi hj e
    have hb : ∀ i, (if i = x then b y else if i = y then b x else b i) = b (if i = x then y else if i = y then x else i) := by
      intro i; by_cases h1 : i = x
      · simp only [h1, if_true]
      · rw [if_neg h1, if_neg h1]
        by_cases h2 : i = y
        · rw [if_pos h2, if_pos h2]
        · rw [if_neg h2, if_neg h2]
    simp only [hb] at e
    have := h.inj _ _ (by split <;> (try split) <;> omega) (by split <;> (try split) <;> omega) e
    split at this <;> (try split at this) <;> (try split at this) <;> (try split at this) <;> omega
end Mat
end Go.Proofs.YtcpmgkedmmiioaaGreatDoor.H
end

section
set_option linter.unusedVariables false
namespace Go.Proofs.YtcpmgkedmmiioaaGreatDoor.H
open Go.RowKit Go.Proofs.YtcpmgkedmmiioaaGreatDoorW.PrintWords Go.Proofs.YtcpmgkedmmiioaaGreatDoorW.PrintLast Go.Proofs.YtcpmgkedmmiioaaGreatDoorW.PrintMore Go.Proofs.YtcpmgkedmmiioaaGreatDoor.B Go.Proofs.YtcpmgkedmmiioaaGreatDoor.Gf
theorem method_inverse (k : Nat) (x : Int) (w : World) : (method (k + 1) 224 (.int .i64 x) "awardingbody/rscode.inverse").run Tryz.prog w = .ok (325, .int .i64 x) w := by kernel_rfl
theorem method_times (k : Nat) (x : Int) (w : World) : (method (k + 1) 224 (.int .i64 x) "awardingbody/rscode.times").run Tryz.prog w = .ok (176, .int .i64 x) w := by kernel_rfl
theorem method_plus (k : Nat) (x : Int) (w : World) : (method (k + 1) 224 (.int .i64 x) "awardingbody/rscode.plus").run Tryz.prog w = .ok (175, .int .i64 x) w := by kernel_rfl
theorem info_gf : (Tryz.prog.info? 224).map (fun i => (i.zero, i.size, i.bytes)) = some (some (.int .i64 0), 1, 8) := by kernel_rfl
/-- row c scaled up to column k -/
def scaled (m : Nat → Nat → F) (c k : Nat) : Nat → Nat → F := fun i' k' => if i' = c then (if k' < k then mul (m c k') (inv (m c c)) else m c k') else m i' k'
/-- all rows below i cleared, row c scaled -/
def stage (m : Nat → Nat → F) (c i : Nat) : Nat → Nat → F := fun i' k' => if i' = c ∨ i' < i then clearC m c i' k' else m i' k'
/-- .. and row i up to column k -/
def stage2 (m : Nat → Nat → F) (c i k : Nat) : Nat → Nat → F := fun i' k' => if i' = c ∨ i' < i ∨ i' = i ∧ k' < k then clearC m c i' k' else m i' k'
theorem scaled_zero (m : Nat → Nat → F) (c : Nat) : scaled m c 0 = m := by
  funext i k; unfold scaled
  by_cases h : i = c
  · rw [if_pos h, if_neg (by omega), h]
  · rw [if_neg h]
theorem scaled_stage (m : Nat → Nat → F) (c n i k : Nat) (hk : k ≤ n) : scaled m c (n + 1) i k = stage m c 0 i k := by
  unfold scaled stage clearC
  by_cases h : i = c
  · rw [if_pos h, if_pos (by omega), if_pos (by omega), if_pos h]
  · rw [if_neg h, if_neg (by omega)]
theorem stage2_zero (m : Nat → Nat → F) (c i : Nat) : stage2 m c i 0 = stage m c i := by
  funext i' k'; unfold stage2 stage
  by_cases h : i' = c ∨ i' < i
  · rw [if_pos h, if_pos (by omega)]
  · rw [if_neg h, if_neg (by omega)]
theorem stage2_end (m : Nat → Nat → F) (c i n i' k' : Nat) (hk : k' ≤ n) : stage2 m c i (n + 1) i' k' = stage m c (i + 1) i' k' := by
  unfold stage2 stage
  by_cases h : i' = c ∨ i' < i + 1
  · rw [if_pos h, if_pos (by omega)]
  · rw [if_neg h, if_neg (by omega)]
theorem stage_c (m : Nat → Nat → F) (c : Nat) : stage m c c = stage m c (c + 1) := by
  funext i' k'; unfold stage
  by_cases h : i' = c ∨ i' < c
  · rw [if_pos h, if_pos (by omega)]
  · rw [if_neg h, if_neg (by omega)]
theorem stage_skip (m : Nat → Nat → F) (c i : Nat) (hz : m i c = 0) (hi : i ≠ c) : stage m c i = stage m c (i + 1) := by
  funext i' k'; unfold stage
  by_cases h : i' = c ∨ i' < i
  · rw [if_pos h, if_pos (by omega)]
  · rw [if_neg h]
    by_cases h2 : i' = i
    · subst h2; rw [if_pos (by omega)]; unfold clearC; rw [if_neg hi, hz, zero_mul, add_zero]
    · rw [if_neg (by omega)]
theorem stage_end (m : Nat → Nat → F) (c R i k : Nat) (hi : i < R) : stage m c R i k = clearC m c i k := by
  unfold stage; rw [if_pos (by omega)]
theorem stage_row (m : Nat → Nat → F) (c i k : Nat) (hi : i ≠ c) : stage m c i i k = m i k := by
  unfold stage; rw [if_neg (by omega)]
theorem stage2_row (m : Nat → Nat → F) (c i k : Nat) (hi : i ≠ c) : stage2 m c i k i k = m i k := by
  unfold stage2; rw [if_neg (by omega)]
theorem stage2_c (m : Nat → Nat → F) (c i k k' : Nat) : stage2 m c i k c k' = mul (m c k') (inv (m c c)) := by
  unfold stage2; rw [if_pos (by omega)]; unfold clearC; rw [if_pos rfl]
theorem stage2_step (m : Nat → Nat → F) (c i k i' k' : Nat) (hi : i ≠ c) :
    (if i' = i then (if k' = k then m i k ^^^ mul (m i c) (mul (m c k) (inv (m c c))) else stage2 m c i k i k') else stage2 m c i k i' k') = stage2 m c i (k + 1) i' k' := by
  unfold stage2
  by_cases h : i' = i
  · subst h
    rw [if_pos rfl]
    by_cases h2 : k' = k
    · subst h2; rw [if_pos rfl, if_pos (by omega)]; unfold clearC; rw [if_neg hi]
    · rw [if_neg h2]
      by_cases h3 : k' < k
      · rw [if_pos (by omega), if_pos (by omega)]
      · rw [if_neg (by omega), if_neg (by omega)]
  · rw [if_neg h]
    by_cases h3 : i' = c ∨ i' < i
    · rw [if_pos (by omega), if_pos (by omega)]
    · rw [if_neg (by omega), if_neg (by omega)]
theorem scaled_step (m : Nat → Nat → F) (c k i' k' : Nat) :
    (if i' = c then (if k' = k then mul (m c k) (inv (m c c)) else scaled m c k c k') else scaled m c k i' k') = scaled m c (k + 1) i' k' := by
  unfold scaled
  by_cases h : i' = c
  · subst h
    rw [if_pos rfl, if_pos rfl, if_pos rfl]
    by_cases h2 : k' = k
    · subst h2; rw [if_pos rfl, if_pos (by omega)]
    · rw [if_neg h2]
      by_cases h3 : k' < k
      · rw [if_pos h3, if_pos (by omega)]
      · rw [if_neg h3, if_neg (by omega)]
  · rw [if_neg h, if_neg h, if_neg h]
/-- what solve hands back -/
def Solved (w0 : World) (base n : Nat) (o : Option (Nat → F)) (e : Ending) (w' : World) : Prop :=
  w0.Since base w' ∧ match o with
  | none => e = .returned (.tuple #[.slice none 0 0, .bool false])
  | some y => ∃ g, base ≤ g ∧ w'.rowIs g 224 n (fun i => .int .i64 (fi (y i))) ∧ e = .returned (.tuple #[.slice (some ⟨g, 0, none⟩) n n, .bool true])
set_option maxHeartbeats 4000000 in
set_option maxRecDepth 100000 in
theorem solve_calls (w : World) (base B0 R cr n : Nat) (b cp : Nat → Nat) (m : Nat → Nat → F) (hR : 0 < R) (hR6 : R ≤ 6) (hn : n ≤ 15) (hM : Mat w B0 R n b cp m) (hb0 : base ≤ B0) (hb : ∀ i, i < R → base ≤ b i) (hbase : base ≤ w.heap.size) :
    Calls Tryz.prog 179 #[.slice (some ⟨B0, 0, none⟩) R cr] w (Solved w base n (solve R n m)) := by
  have HM := Aside0.mk hM
  have HB := Aside0.mk hb
  clear hM hb
  have c0 := HM.out.top.cell hR
  have p0 := eq_true hR
  have p1 := eq_true (show (0 : Int) < (R : Int) by omega)
  go_enter Tryz.func179, Tryz.ntmps179
  go_wp2
  go_loopg [22] n (fun g v22 wr => ∃ c : Nat, c ≤ n ∧ v22 = .int .i64 c ∧ ∃ (m1 : Nat → Nat → F) (b1 cp1 : Nat → Nat), Aside0 (g = n - c) ∧ Aside0 (elim R m c = some m1) ∧ Aside0 (Mat wr B0 R n b1 cp1 m1) ∧ Aside0 (∀ i, i < R → base ≤ b1 i) ∧ Aside0 (w.Since base wr))
  case atStart => exact ⟨0, Nat.zero_le _, rfl, m, b, cp, ⟨rfl⟩, ⟨rfl⟩, HM, HB, ⟨World.Since.refl _ _⟩⟩
  case round =>
    clear HM HB c0
    obtain ⟨c, hc, rfl, m1, b1, cp1, HG, HE, HM, HB, HS⟩ := hrel
    have hcR := (elim_some (n := n) c m1 HE.out).1
    by_cases hcn : c < n
    · have t1 : decide ((c : Int) < (n : Int)) = true := decide_eq_true (by omega)
      go_wp2
      go_loopg [7] (R - c) (fun g v7 wx => wx = wr ∧ ∃ row : Nat, c ≤ row ∧ row ≤ R ∧ v7 = .int .i64 row ∧ Aside0 (g = R - row) ∧ Aside0 (∀ i, c ≤ i → i < row → m1 i c = 0))
      case atStart => exact ⟨rfl, c, Nat.le_refl _, hcR, rfl, ⟨rfl⟩, ⟨fun i h1 h2 => by omega⟩⟩
      case round =>
        obtain ⟨rfl, row, hcr, hrR, rfl, HG2, HZ⟩ := hrel
        by_cases hrow : row < R
        · have t2 : decide ((row : Int) < (R : Int)) = true := decide_eq_true (by omega)
          have c1 := HM.out.top.cell hrow
          have c2 := (HM.out.row row hrow).cell (show c < n + 1 by omega)
          have p2 := eq_true (show (0 : Int) ≤ (row : Int) by omega)
          have p3 := eq_true (show (row : Int) < (R : Int) by omega)
          have p4 := eq_true (show (0 : Int) ≤ (c : Int) by omega)
          have p5 := eq_true (show (c : Int) < (n : Int) + 1 by omega)
          have p6 := eq_true (show row < R from hrow)
          have p7 := eq_true (show c < n + 1 by omega)
          by_cases hz : m1 row c = 0
          · rw [hz, fi_zero] at c2
            go_wp2
            go_roundg (R - (row + 1))
            case measure => have := HG2.out; omega
            case rel =>
              refine ⟨rfl, row + 1, by omega, by omega, by first | rfl | (simp; done), ⟨rfl⟩, ⟨fun i h1 h2 => ?_⟩⟩
              by_cases e : i = row
              · subst e; exact hz
              · exact HZ.out i h1 (by omega)
          · have hz2 : (fi (m1 row c) == 0) = false := by
              rw [beq_eq_false_iff_ne]; intro e; exact hz (fi_inj (e.trans fi_zero.symm))
            have t3 : ((row : Int) == (R : Int)) = false := by rw [beq_eq_false_iff_ne]; omega
            have d1 := HM.out.top.cell (show c < R by omega)
            have d2 := HM.out.top.frozen c
            have d3 := HM.out.top.frozen row
            have p8 := eq_true (show (c : Int) < (R : Int) by omega)
            have p9 := eq_true (show c < R by omega)
            go_wp2
            have d4 := (HM.out.top.set c (.slice (some ⟨b1 row, 0, none⟩) (n + 1) (cp1 row))).cell hrow
            obtain ⟨v4, hv4⟩ : ∃ v, (if row = c then Value.slice (some ⟨b1 row, 0, none⟩) (n + 1) (cp1 row) else .slice (some ⟨b1 row, 0, none⟩) (n + 1) (cp1 row)) = v := ⟨_, rfl⟩
            rw [hv4] at d4
            clear hv4
            go_big_region
            have HM2 := (HM.out.swap (show c < R by omega) hrow).drew
            have HS2 := ((HS.out.setCell (a := ⟨B0, c, none⟩) hb0 (.slice (some ⟨b1 row, 0, none⟩) (n + 1) (cp1 row))).setCell (a := ⟨B0, row, none⟩) hb0 (.slice (some ⟨b1 c, 0, none⟩) (n + 1) (cp1 c))).drew
            obtain ⟨w2, hw2⟩ : ∃ w2, w2 = ((wr.setCell ⟨B0, c, none⟩ (.slice (some ⟨b1 row, 0, none⟩) (n + 1) (cp1 row))).setCell ⟨B0, row, none⟩ (.slice (some ⟨b1 c, 0, none⟩) (n + 1) (cp1 c))).drew := ⟨_, rfl⟩
            rw [← hw2] at HM2 HS2 ⊢
            have HB2 : ∀ i, i < R → base ≤ (fun i => if i = c then b1 row else if i = row then b1 c else b1 i) i := by
              intro i hi; have := HB.out; simp only; split <;> (try split) <;> apply this <;> omega
            generalize (fun i => if i = c then b1 row else if i = row then b1 c else b1 i) = b2 at HM2 HB2
            generalize (fun i => if i = c then cp1 row else if i = row then cp1 c else cp1 i) = cp2 at HM2
            have hpiv : (swapR m1 c row) c c ≠ 0 := by simpa [swapR] using hz
            have HE2 := Aside0.mk (elim_next HE.out hcr hrow hz HZ.out)
            generalize swapR m1 c row = m2 at HM2 hpiv HE2
            have hcR2 : c < R := by omega
            clear hw2 d1 d2 d3 d4 c1 c2 HM HS HB HE HZ hz hz2 t3 t2 p2 p3 p6 hcr HG2
            replace HM2 := Aside0.mk HM2
            replace HS2 := Aside0.mk HS2
            replace HB2 := Aside0.mk HB2
            have Hpiv := Aside0.mk hpiv
            clear hpiv
            have e1 := HM2.out.top.cell hcR2
            have e2 := (HM2.out.row c hcR2).cell (show c < n + 1 by omega)
            have hmi := method_inverse
            go_wp2_with (first | (go_at_call 325; refine (inverse_calls _ _).mono ?_; rintro e w' ⟨rfl, rfl⟩))
            clear hmi e1 e2
            go_loopg [75] (n + 1) (fun g v75 wx => ∃ k : Nat, k ≤ n + 1 ∧ v75 = .int .i64 k ∧ Aside0 (g = n + 1 - k) ∧ Aside0 (Mat wx B0 R n b2 cp2 (scaled m2 c k)) ∧ Aside0 (w.Since base wx))
            case atStart => exact ⟨0, Nat.zero_le _, rfl, ⟨rfl⟩, ⟨by rw [scaled_zero]; exact HM2.out⟩, HS2⟩
            case round =>
              clear HM2 HS2
              obtain ⟨k, hk, rfl, HG3, HM2, HS2⟩ := hrel
              by_cases hkn : k < n + 1
              · have t4 : decide ((k : Int) < (n : Int) + 1) = true := decide_eq_true (by omega)
                have e1 := HM2.out.top.cell hcR2
                have e2 := (HM2.out.row c hcR2).cell hkn
                simp only [scaled, if_true, Nat.lt_irrefl, if_false] at e2
                have e3 := (HM2.out.row c hcR2).frozen k
                have r1 := eq_true (show (0 : Int) ≤ (k : Int) by omega)
                have r2 := eq_true (show (k : Int) < (n : Int) + 1 by omega)
                have r3 := eq_true hkn
                have hmt := method_times
                go_wp2
                go_still_tail 15, (by kernel_rfl)
                still_call (times_still _ _ _)
                repeat still_step
                refine wpStill_nil ?_
                change wpList _ _ _ _ _ wr.drew
                go_wp2
                go_roundg (n + 1 - (k + 1))
                case measure => have := HG3.out; omega
                case rel =>
                  refine ⟨k + 1, by omega, by first | rfl | (simp; done), ⟨rfl⟩, ⟨((HM2.out.set hcR2 (k := k) _).drew).congr fun i' k' hi' hk' => ?_⟩, ⟨(HS2.out.setCell (HB2.out c hcR2) _).drew⟩⟩
                  exact scaled_step m2 c k i' k'
              · have t4 : decide ((k : Int) < (n : Int) + 1) = false := decide_eq_false (by omega)
                have HM3 : Aside0 (Mat wr B0 R n b2 cp2 (stage m2 c 0)) := ⟨HM2.out.congr fun i k' _ hk' => by
                  obtain rfl : k = n + 1 := by omega
                  exact scaled_stage m2 c n i k' hk'⟩
                clear HM2
                go_wp2
                go_loopg [97] R (fun g v97 wx => ∃ i : Nat, i ≤ R ∧ v97 = .int .i64 i ∧ Aside0 (g = R - i) ∧ Aside0 (Mat wx B0 R n b2 cp2 (stage m2 c i)) ∧ Aside0 (w.Since base wx))
                case atStart => exact ⟨0, Nat.zero_le _, rfl, ⟨rfl⟩, HM3, HS2⟩
                case round =>
                  clear HM3 HS2 t4 hkn hk HG3
                  obtain ⟨i, hi, rfl, HG3, HM2, HS2⟩ := hrel
                  by_cases hiR : i < R
                  · have t4 : decide ((i : Int) < (R : Int)) = true := decide_eq_true (by omega)
                    have e1 := HM2.out.top.cell hiR
                    have e2 := (HM2.out.row i hiR).cell (show c < n + 1 by omega)
                    have r1 := eq_true (show (0 : Int) ≤ (i : Int) by omega)
                    have r2 := eq_true (show (i : Int) < (R : Int) by omega)
                    have r3 := eq_true hiR
                    by_cases hic : i = c
                    · have t5 : ((i : Int) != (c : Int)) = false := by simp [hic]
                      have HIC := Aside0.mk hic
                      clear hic
                      go_wp2
                      go_roundg (R - (i + 1))
                      case measure => have := HG3.out; omega
                      case rel => exact ⟨i + 1, by omega, by first | rfl | (simp; done), ⟨rfl⟩, ⟨by have := HM2.out; rw [HIC.out, stage_c] at this; rw [HIC.out]; exact this⟩, HS2⟩
                    · have t5 : ((i : Int) != (c : Int)) = true := by rw [bne_iff_ne]; omega
                      rw [stage_row _ _ _ _ hic] at e2
                      by_cases hz : m2 i c = 0
                      · rw [hz, fi_zero] at e2
                        go_wp2
                        go_roundg (R - (i + 1))
                        case measure => have := HG3.out; omega
                        case rel => exact ⟨i + 1, by omega, by first | rfl | (simp; done), ⟨rfl⟩, ⟨by have := HM2.out; rw [stage_skip _ _ _ hz hic] at this; exact this⟩, HS2⟩
                      · have t6 : (fi (m2 i c) != 0) = true := by
                          rw [bne_iff_ne]; intro e; exact hz (fi_inj (e.trans fi_zero.symm))
                        have HIC := Aside0.mk hic
                        clear hic hz
                        go_wp2
                        clear e1 e2 t6
                        go_loopg [120] (n + 1) (fun g v120 wx => ∃ k : Nat, k ≤ n + 1 ∧ v120 = .int .i64 k ∧ Aside0 (g = n + 1 - k) ∧ Aside0 (Mat wx B0 R n b2 cp2 (stage2 m2 c i k)) ∧ Aside0 (w.Since base wx))
                        case atStart => exact ⟨0, Nat.zero_le _, rfl, ⟨rfl⟩, ⟨by rw [stage2_zero]; exact HM2.out⟩, HS2⟩
                        case round =>
                          clear HM2 HS2
                          obtain ⟨k, hk, rfl, HG4, HM2, HS2⟩ := hrel
                          by_cases hkn : k < n + 1
                          · have t7 : decide ((k : Int) < (n : Int) + 1) = true := decide_eq_true (by omega)
                            have e1 := HM2.out.top.cell hiR
                            have e2 := (HM2.out.row i hiR).cell hkn
                            have e3 := (HM2.out.row i hiR).frozen k
                            have e4 := HM2.out.top.cell hcR2
                            have e5 := (HM2.out.row c hcR2).cell hkn
                            rw [stage2_row _ _ _ _ HIC.out] at e2
                            rw [stage2_c] at e5
                            have r4 := eq_true (show (0 : Int) ≤ (k : Int) by omega)
                            have r5 := eq_true (show (k : Int) < (n : Int) + 1 by omega)
                            have r6 := eq_true hkn
                            have hmt := method_times
                            have hmp := method_plus
                            go_wp2
                            go_still_tail 24, (by kernel_rfl)
                            still_call (times_still _ _ _)
                            repeat still_step
                            still_call (plus_still _ _ _)
                            repeat still_step
                            refine wpStill_nil ?_
                            change wpList _ _ _ _ _ wr.drew
                            go_wp2
                            go_roundg (n + 1 - (k + 1))
                            case measure => have := HG4.out; omega
                            case rel =>
                              exact ⟨k + 1, by omega, by first | rfl | (simp; done), ⟨rfl⟩, ⟨((HM2.out.set hiR (k := k) _).drew).congr fun i' k' hi' hk' => stage2_step m2 c i k i' k' HIC.out⟩, ⟨(HS2.out.setCell (HB2.out i hiR) _).drew⟩⟩
                          · have t7 : decide ((k : Int) < (n : Int) + 1) = false := decide_eq_false (by omega)
                            have HM4 : Aside0 (Mat wr B0 R n b2 cp2 (stage m2 c (i + 1))) := ⟨HM2.out.congr fun i' k' _ hk' => by
                              obtain rfl : k = n + 1 := by omega
                              exact stage2_end m2 c i n i' k' hk'⟩
                            clear HM2
                            go_wp2
                            go_roundg (R - (i + 1))
                            case measure => have := HG3.out; omega
                            case rel => exact ⟨i + 1, by omega, by first | rfl | (simp; done), ⟨rfl⟩, HM4, HS2⟩
                  · have t4 : decide ((i : Int) < (R : Int)) = false := decide_eq_false (by omega)
                    obtain rfl : i = R := by omega
                    go_wp2
                    go_roundg (n - (c + 1))
                    case measure => have := HG.out; omega
                    case rel => exact ⟨c + 1, by omega, by first | rfl | (simp; done), _, _, _, ⟨rfl⟩, HE2, ⟨HM2.out.congr fun i' k' hi' _ => stage_end m2 c i i' k' hi'⟩, HB2, HS2⟩
        · have t2 : decide ((row : Int) < (R : Int)) = false := decide_eq_false (by omega)
          obtain rfl : row = R := by omega
          have t3 : ((row : Int) == (row : Int)) = true := by simp
          go_wp2
          go_ret2
          exact ⟨HS.out, by rw [solve_none HE.out hcn hcR HZ.out]; rfl⟩
    · have t1 : decide ((c : Int) < (n : Int)) = false := decide_eq_false (by omega)
      obtain rfl : c = n := by omega
      have hmk := fun W => run_make_row' (P := Tryz.prog) 225 224 (.int .i64 0) 8 Tryz.underlying225 info_gf rfl .i64 .i64 c (by omega) (by omega) W
      obtain ⟨G, hG⟩ : ∃ G, wr.heap.size = G := ⟨_, rfl⟩
      have HG0 : Aside0 (base ≤ G) := ⟨by have := HS.out.size; omega⟩
      have HR0 : Aside0 ((wr.alloc (.cells (madeCells #[.int .i64 0] c) 224)).rowIs G 224 c (fun q => .int .i64 (fi (if q < 0 then m1 q c else 0)))) := ⟨by rw [← hG]; exact (World.rowIs_made wr (.int .i64 0) c _).congr fun q _ => by rw [if_neg (by omega)]; rfl⟩
      have HM1 : Aside0 (Mat (wr.alloc (.cells (madeCells #[.int .i64 0] c) 224)) B0 R c b1 cp1 m1) := ⟨HM.out.alloc _⟩
      have HS1 : Aside0 (w.Since base (wr.alloc (.cells (madeCells #[.int .i64 0] c) 224))) := ⟨HS.out.alloc (by have := HS.out.size; omega) _⟩
      have HN : Aside0 (∀ i, i < R → b1 i ≠ G) := ⟨fun i hi => by have := (HM.out.row i hi).lt; omega⟩
      have HN2 : Aside0 (B0 ≠ G) := ⟨by have := HM.out.top.lt; omega⟩
      go_wp2
      clear hmk hG HM HS
      go_loopg [155] R (fun g v155 wx => ∃ i : Nat, i ≤ R ∧ v155 = .int .i64 i ∧ Aside0 (g = R - i) ∧ Aside0 (Mat wx B0 R c b1 cp1 m1) ∧ Aside0 (w.Since base wx) ∧ Aside0 (wx.rowIs G 224 c (fun q => .int .i64 (fi (if q < i then m1 q c else 0)))) ∧ Aside0 (∀ q, c ≤ q → q < i → m1 q c = 0))
      case atStart => exact ⟨0, Nat.zero_le _, rfl, ⟨rfl⟩, HM1, HS1, HR0, ⟨fun q h1 h2 => by omega⟩⟩
      case round =>
        clear HM1 HS1 HR0
        obtain ⟨i, hi, rfl, HG3, HM, HS, HR1, HZ⟩ := hrel
        by_cases hiR : i < R
        · have t4 : decide ((i : Int) < (R : Int)) = true := decide_eq_true (by omega)
          have e1 := HM.out.top.cell hiR
          have e2 := (HM.out.row i hiR).cell (show c < c + 1 by omega)
          have r1 := eq_true (show (0 : Int) ≤ (i : Int) by omega)
          have r2 := eq_true (show (i : Int) < (R : Int) by omega)
          have r3 := eq_true hiR
          have r4 := eq_true (show (0 : Int) ≤ (c : Int) by omega)
          have r5 := eq_true (show (c : Int) < (c : Int) + 1 by omega)
          have r6 := eq_true (show c < c + 1 by omega)
          by_cases hic : i < c
          · have t5 : decide ((i : Int) < (c : Int)) = true := decide_eq_true (by omega)
            have e3 := HR1.out.cell hic
            have e4 := HR1.out.frozen i
            have r7 := eq_true (show (i : Int) < (c : Int) by omega)
            have r8 := eq_true hic
            go_wp2
            go_roundg (R - (i + 1))
            case measure => have := HG3.out; omega
            case rel =>
              refine ⟨i + 1, by omega, by first | rfl | (simp; done), ⟨rfl⟩, ⟨⟨HM.out.top.setOther HN2.out _, fun q hq => (HM.out.row q hq).setOther (HN.out q hq) _, HM.out.inj⟩⟩, ⟨HS.out.setCell HG0.out _⟩, ⟨(HR1.out.set i _).congr fun q hq => ?_⟩, ⟨fun q h1 h2 => by omega⟩⟩
              by_cases e : q = i
              · subst e; simp
              · simp only [e, if_false]
                by_cases e2 : q < i
                · simp [e2, show q < i + 1 by omega]
                · simp [e2, show ¬ q < i + 1 by omega]
          · have t5 : decide ((i : Int) < (c : Int)) = false := decide_eq_false (by omega)
            by_cases hz : m1 i c = 0
            · rw [hz, fi_zero] at e2
              go_wp2
              go_roundg (R - (i + 1))
              case measure => have := HG3.out; omega
              case rel =>
                refine ⟨i + 1, by omega, by first | rfl | (simp; done), ⟨rfl⟩, HM, HS, ⟨HR1.out.congr fun q hq => ?_⟩, ⟨fun q h1 h2 => ?_⟩⟩
                · simp [show q < i by omega, show q < i + 1 by omega]
                · by_cases e : q = i
                  · subst e; exact hz
                  · exact HZ.out q h1 (by omega)
            · have t6 : (fi (m1 i c) != 0) = true := by
                rw [bne_iff_ne]; intro e; exact hz (fi_inj (e.trans fi_zero.symm))
              go_wp2
              go_ret2
              exact ⟨HS.out, by rw [solve_rest HE.out (by omega) hiR hz]; rfl⟩
        · have t4 : decide ((i : Int) < (R : Int)) = false := decide_eq_false (by omega)
          obtain rfl : i = R := by omega
          have HF := solve_some HE.out hcR HZ.out
          have HF2 := Aside0.mk HF
          clear HF
          go_wp2
          go_ret2
          exact ⟨HS.out, by rw [HF2.out]; exact ⟨G, HG0.out, HR1.out.congr fun q hq => by simp [show q < i by omega], rfl⟩⟩
theorem solve_none_calls (w : World) (base B0 R cr n : Nat) (b cp : Nat → Nat) (m : Nat → Nat → F) (hR : 0 < R) (hR6 : R ≤ 6) (hn : n ≤ 15) (hM : Mat w B0 R n b cp m) (hb0 : base ≤ B0) (hb : ∀ i, i < R → base ≤ b i) (hbase : base ≤ w.heap.size) (hs : solve R n m = none) :
    Calls Tryz.prog 179 #[.slice (some ⟨B0, 0, none⟩) R cr] w fun e w' => e = .returned (.tuple #[.slice none 0 0, .bool false]) ∧ w.Since base w' :=
  (solve_calls w base B0 R cr n b cp m hR hR6 hn hM hb0 hb hbase).mono fun e w' h => by rw [hs] at h; exact ⟨h.2, h.1⟩
theorem solve_some_calls (w : World) (base B0 R cr n : Nat) (b cp : Nat → Nat) (m : Nat → Nat → F) (y : Nat → F) (hR : 0 < R) (hR6 : R ≤ 6) (hn : n ≤ 15) (hM : Mat w B0 R n b cp m) (hb0 : base ≤ B0) (hb : ∀ i, i < R → base ≤ b i) (hbase : base ≤ w.heap.size) (hs : solve R n m = some y) :
    Calls Tryz.prog 179 #[.slice (some ⟨B0, 0, none⟩) R cr] w fun e w' => ∃ g, e = .returned (.tuple #[.slice (some ⟨g, 0, none⟩) n n, .bool true]) ∧ base ≤ g ∧ w'.rowIs g 224 n (fun i => .int .i64 (fi (y i))) ∧ w.Since base w' :=
  (solve_calls w base B0 R cr n b cp m hR hR6 hn hM hb0 hb hbase).mono fun e w' h => by rw [hs] at h; obtain ⟨h1, g, h2, h3, h4⟩ := h; exact ⟨g, h4, h2, h3, h1⟩
end Go.Proofs.YtcpmgkedmmiioaaGreatDoor.H
end

section
set_option linter.unusedVariables false
namespace Go.Proofs.YtcpmgkedmmiioaaGreatDoor.H
open Go.RowKit Go.Proofs.YtcpmgkedmmiioaaGreatDoorW.PrintWords Go.Proofs.YtcpmgkedmmiioaaGreatDoorW.PrintLast Go.Proofs.YtcpmgkedmmiioaaGreatDoorW.PrintMore Go.Proofs.YtcpmgkedmmiioaaGreatDoor.B Go.Proofs.YtcpmgkedmmiioaaGreatDoor.Gf
theorem fpow_inv {x : F} (h : x ≠ 0) {y : F} (n : Nat) (hy : mul (fpow x n) y = 1) : y = inv (fpow x n) := by
  have e := mul_inv (fpow_ne h n)
  have : mul y (mul (fpow x n) (inv (fpow x n))) = inv (fpow x n) := by rw [← mul_assoc, mul_comm y, hy, one_mul]
  rw [e, mul_one] at this; exact this
theorem at_pos (l : List Int) (hl : l.length ≤ 31) {i n : Nat} (hi : i < l.length) (hn : n ≤ 31) (a1 a2 : Int) (h1 : a1 = i) (h2 : a2 = n) : rscode_at.f 32 l a1 a2 = some (fi (fpow (px l.length i) n)) := by
  unfold rscode_at.f
  rw [power_f]
  simp only [Option.bind_some]
  subst h1 h2
  have e1 : wrap64 (wrap64 ((l.length : Int) - 1) - (i : Int)) = ((l.length - 1 - i : Nat) : Int) := by unfold wrap64; omega
  rw [e1]
  have hb : n * (l.length - 1 - i) ≤ 31 * 31 := Nat.mul_le_mul (by omega) (by omega)
  have e2 : (n : Int) * ((l.length - 1 - i : Nat) : Int) = ((n * (l.length - 1 - i) : Nat) : Int) := by rw [Int.natCast_mul]
  rw [e2]
  have hw : wrap64 ((n * (l.length - 1 - i) : Nat) : Int) = ((n * (l.length - 1 - i) : Nat) : Int) := by unfold wrap64; omega
  have e3 : (wrap64 ((n * (l.length - 1 - i) : Nat) : Int) % 31).toNat = (n * (l.length - 1 - i)) % 31 := by rw [hw]; omega
  rw [e3, pow_mod, px, fpow_pow, Nat.mul_comm]
theorem at_neg (l : List Int) (hl : l.length ≤ 31) {i n : Nat} (hi : i < l.length) (hn : n ≤ 31) (a1 a2 : Int) (h1 : a1 = i) (h2 : a2 = -(n : Int)) : rscode_at.f 32 l a1 a2 = some (fi (inv (fpow (px l.length i) n))) := by
  unfold rscode_at.f
  rw [power_f]
  simp only [Option.bind_some]
  subst h1 h2
  have e1 : wrap64 (wrap64 ((l.length : Int) - 1) - (i : Int)) = ((l.length - 1 - i : Nat) : Int) := by unfold wrap64; omega
  rw [e1]
  have hb : n * (l.length - 1 - i) ≤ 31 * 31 := Nat.mul_le_mul (by omega) (by omega)
  have e2 : -(n : Int) * ((l.length - 1 - i : Nat) : Int) = -((n * (l.length - 1 - i) : Nat) : Int) := by rw [Int.natCast_mul, Int.neg_mul]
  rw [e2]
  congr 2
  apply fpow_inv (px_ne _ _)
  rw [px, fpow_pow, ← pow_add, ← pow_zero]
  rw [← pow_mod, ← pow_mod 0]
  congr 1
  have e3 : (l.length - 1 - i) * n = n * (l.length - 1 - i) := Nat.mul_comm _ _
  rw [e3]
  generalize n * (l.length - 1 - i) = q at hb ⊢
  have hw : wrap64 (-(q : Int)) = -(q : Int) := by unfold wrap64; omega
  rw [hw]; omega
theorem at_pos_calls (A : Option Addr) (c : Nat) (l : List Int) (w : World) (hr : Kd.C (Kd.int .i64) w A l.length l) (hc : l.length ≤ c) (hl : l.length ≤ 31) {i n : Nat} (hi : i < l.length) (hn : n ≤ 31) (a1 a2 : Int) (h1 : a1 = i) (h2 : a2 = n) :
    Calls Tryz.prog 177 #[.slice A l.length c, .int .i64 a1, .int .i64 a2] w fun e w' => e = .returned (.int .i64 (fi (fpow (px l.length i) n))) ∧ w = w' :=
  rscode_at.calls 32 A c l a1 a2 _ w hr hc (at_pos l hl hi hn a1 a2 h1 h2)
theorem at_neg_calls (A : Option Addr) (c : Nat) (l : List Int) (w : World) (hr : Kd.C (Kd.int .i64) w A l.length l) (hc : l.length ≤ c) (hl : l.length ≤ 31) {i n : Nat} (hi : i < l.length) (hn : n ≤ 31) (a1 a2 : Int) (h1 : a1 = i) (h2 : a2 = -(n : Int)) :
    Calls Tryz.prog 177 #[.slice A l.length c, .int .i64 a1, .int .i64 a2] w fun e w' => e = .returned (.int .i64 (fi (inv (fpow (px l.length i) n)))) ∧ w = w' :=
  rscode_at.calls 32 A c l a1 a2 _ w hr hc (at_neg l hl hi hn a1 a2 h1 h2)
theorem info_row : (Tryz.prog.info? 225).map (fun i => (i.zero, i.size, i.bytes)) = some (some (.slice none 0 0), 1, 24) := by kernel_rfl
/-- elements as values -/
def fv (xs : List F) : List Value := xs.map fun x => .int .i64 (fi x)
theorem fv_length (xs : List F) : (fv xs).length = xs.length := by unfold fv; rw [List.length_map]
/-- a row of elements of the call's own -/
def FRow (w : World) (base : Nat) (v : Value) (xs : List F) : Prop := w.ownsRow base 224 1 v xs.length (fv xs)
/-- j rows of a matrix are built (rv), and the next one is under way (vr: xs) -/
structure Bld (base : Nat) (w0 W : World) (vm : Value) (j : Nat) (rows : Nat → List F) (rv : Nat → Value) (vr : Value) (xs : List F) : Prop where
  top : W.ownsRow base 225 1 vm j ((List.range j).map rv)
  row : ∀ q, q < j → FRow W base (rv q) (rows q)
  inj : ∀ q q', q < j → q' < j → q ≠ q' → (rv q).ownBlock = none ∨ (rv q).ownBlock ≠ (rv q').ownBlock
  cur : FRow W base vr xs
  apart : ∀ q, q < j → (rv q).ownBlock = none ∨ (rv q).ownBlock ≠ vr.ownBlock
  below : Below base w0 W
  size : base ≤ W.heap.size
namespace Bld
variable {base : Nat} {w0 W W1 : World} {vm vr : Value} {j : Nat} {rows : Nat → List F} {rv : Nat → Value} {xs : List F}
theorem start (w0 W : World) (h : Below w0.heap.size w0 W) (rows : Nat → List F) : Bld w0.heap.size w0 W (.slice none 0 0) 0 rows (fun _ => .slice none 0 0) (.slice none 0 0) [] :=
  ⟨own_nil _ _ _ _, fun q hq => by omega, fun q q' hq => by omega, own_nil _ _ _ _, fun q hq => by omega, h, h.size⟩
theorem cur' (h : Bld base w0 W vm j rows rv vr xs) : W.ownsRow base 224 1 vr (fv xs).length (fv xs) := by rw [fv_length]; exact h.cur
theorem top' (h : Bld base w0 W vm j rows rv vr xs) : W.ownsRow base 225 1 vm ((List.range j).map rv).length ((List.range j).map rv) := by rw [List.length_map, List.length_range]; exact h.top
theorem cell (h : Bld base w0 W vm j rows rv vr xs) : vr.oneCell' = true := by obtain ⟨A, c, e⟩ := own_slice h.cur; rw [e]; rfl
/-- behind append(row, x) -/
theorem elem (h : Bld base w0 W vm j rows rv vr xs) {x : F} {v1 : Value} (ho : W1.ownsRow base 224 1 v1 (fv xs ++ [Value.int .i64 (fi x)]).length (fv xs ++ [Value.int .i64 (fi x)])) (hb : Below base w0 W1) (hg : W.grownBy W1 vr.ownBlock)
    (hat : v1.ownBlock = vr.ownBlock ∨ ∃ b, v1.ownBlock = some b ∧ W.heap.size ≤ b) : Bld base w0 W1 vm j rows rv v1 (xs ++ [x]) := by
  refine ⟨own_other h.top hg (own_type_ne h.top h.cur (by decide)), fun q hq => own_other (h.row q hq) hg (h.apart q hq), h.inj, ?_, fun q hq => ?_, hb, Nat.le_trans h.size hg.size⟩
  · unfold FRow fv; rw [List.map_append]; simpa [fv] using ho
  · rcases hat with e | ⟨b, e, hbb⟩
    · rw [e]; exact h.apart q hq
    · by_cases e2 : (rv q).ownBlock = none
      · exact .inl e2
      · right; rw [e]; intro e3
        have := own_lt (h.row q hq) b e3
        omega
/-- behind append(m, row) -/
theorem push (h : Bld base w0 W vm j rows rv vr xs) (hr : rows j = xs) {v1 : Value} (ho : W1.ownsRow base 225 1 v1 ((List.range j).map rv ++ [vr]).length ((List.range j).map rv ++ [vr])) (hb : Below base w0 W1) (hg : W.grownBy W1 vm.ownBlock) :
    ∃ rv', Bld base w0 W1 v1 (j + 1) rows rv' (.slice none 0 0) [] := by
  refine ⟨fun q => if q = j then vr else rv q, ?_, fun q hq => ?_, fun q q' hq hq' hne => ?_, own_nil _ _ _ _, fun q hq => ?_, hb, Nat.le_trans h.size hg.size⟩
  · have e : (List.range (j + 1)).map (fun q => if q = j then vr else rv q) = (List.range j).map rv ++ [vr] := by
      rw [List.range_succ, List.map_append]
      congr 1
      · apply List.map_congr_left; intro a ha; rw [if_neg (by have := List.mem_range.1 ha; omega)]
      · simp
    rw [e]; simpa using ho
  · have key : ∀ v xs', FRow W base v xs' → FRow W1 base v xs' := fun v xs' hv => own_other hv hg (own_type_ne hv h.top (by decide))
    by_cases e : q = j
    · subst e; rw [if_pos rfl, hr]; exact key _ _ h.cur
    · rw [if_neg e]; exact key _ _ (h.row q (by omega))
  · by_cases e : q = j
    · subst e
      rw [if_pos rfl, if_neg (by omega)]
      rcases h.apart q' (by omega) with e | e
      · by_cases e2 : vr.ownBlock = none
        · exact .inl e2
        · right; rw [e]; exact e2
      · exact .inr (fun e2 => e e2.symm)
    · rw [if_neg e]
      by_cases e2 : q' = j
      · subst e2; rw [if_pos rfl]; exact h.apart q (by omega)
      · rw [if_neg e2]; exact h.inj q q' (by omega) (by omega) hne
  · by_cases e : (if q = j then vr else rv q).ownBlock = none
    · exact .inl e
    · exact .inr (by simpa [Value.ownBlock] using e)
/-- what is built is a matrix -/
theorem mat (h : Bld base w0 W vm j rows rv vr xs) {n : Nat} {m : Nat → Nat → F} (hj : 0 < j) (hl : ∀ q, q < j → (rows q).length = n + 1) (hm : ∀ q k, q < j → k ≤ n → (rows q).getD k 0 = m q k) :
    ∃ B0 cr b cp, vm = .slice (some ⟨B0, 0, none⟩) j cr ∧ Mat W B0 j n b cp m ∧ base ≤ B0 ∧ ∀ i, i < j → base ≤ b i := by
  have hrow : ∀ q, q < j → ∃ g cap cur, rv q = .slice (some ⟨g, 0, none⟩) (n + 1) cap ∧ base ≤ g ∧ W.heap[g]? = some (.cells cur 224 (0, 0)) ∧ ∀ k, k ≤ n → cur[k]? = some (.int .i64 (fi (m q k))) := by
    intro q hq
    have := h.row q hq
    unfold FRow World.ownsRow at this
    obtain ⟨h1, h2⟩ := this
    rcases h2 with ⟨_, h0⟩ | ⟨g, cap, cur, e, hb, hh, _, _, _, ht⟩
    · have := hl q hq; omega
    · refine ⟨g, cap, cur, by rw [e, hl q hq], hb, hh, fun k hk => ?_⟩
      have hk2 : k < (rows q).length := by rw [hl q hq]; omega
      have e2 : (fv (rows q))[k]? = some (.int .i64 (fi (m q k))) := by
        unfold fv; rw [List.getElem?_map, List.getElem?_eq_getElem hk2, Option.map_some]
        have := hm q k hq hk
        rw [List.getD_eq_getElem?_getD, List.getElem?_eq_getElem hk2, Option.getD_some] at this
        rw [this]
      rw [← ht, List.getElem?_take] at e2
      rw [if_pos (by omega)] at e2
      simpa using e2
  obtain ⟨ht1, ht2⟩ := h.top
  rcases ht2 with ⟨_, h0⟩ | ⟨B0, cr, cur, e, hb, hh, _, _, _, ht⟩
  · omega
  · refine ⟨B0, cr, fun q => if hq : q < j then (hrow q hq).choose else 0, fun q => if hq : q < j then (hrow q hq).choose_spec.choose else 0, e, ⟨⟨cur, hh, fun i hi => ?_⟩, fun i hi => ?_, fun i i' hi hi' e => ?_⟩, hb, fun i hi => ?_⟩
    · have e2 : ((List.range j).map rv)[i]? = some (rv i) := by
        rw [List.getElem?_map, List.getElem?_range hi, Option.map_some]
      rw [← ht, List.getElem?_take, if_pos (by omega)] at e2
      have e3 := (hrow i hi).choose_spec.choose_spec.choose_spec.1
      simp only [hi, dif_pos]
      rw [← e3]; simpa using e2
    · obtain ⟨_, _, hh2, hk⟩ := (hrow i hi).choose_spec.choose_spec.choose_spec
      simp only [hi, dif_pos]
      exact ⟨_, hh2, fun k hk2 => hk k (by omega)⟩
    · simp only [hi, hi', dif_pos] at e
      refine Decidable.byContradiction fun hne => ?_
      have e1 := (hrow i hi).choose_spec.choose_spec.choose_spec.1
      have e2 := (hrow i' hi').choose_spec.choose_spec.choose_spec.1
      rcases h.inj i i' hi hi' hne with e3 | e3
      · rw [e1] at e3; simp [Value.ownBlock] at e3
      · rw [e1, e2] at e3; exact e3 (by simp only [Value.ownBlock]; rw [e])
    · simp only [hi, dif_pos]; exact (hrow i hi).choose_spec.choose_spec.choose_spec.2.1
end Bld
end Go.Proofs.YtcpmgkedmmiioaaGreatDoor.H
end
