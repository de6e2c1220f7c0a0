/- stripTurns_card, part 20: what the row's proof needs: words of the print, contracts of functions, the plain law. -/
import Derived.Test.YtcpmgkedmmiioaaGreatDoorKa9
section
set_option linter.unusedVariables false
namespace Go.Proofs.YtcpmgkedmmiioaaGreatDoor.R
open Go.RowKit Go.Proofs.YtcpmgkedmmiioaaGreatDoorW.PrintWords Go.Proofs.YtcpmgkedmmiioaaGreatDoorW.PrintLast Go.Proofs.YtcpmgkedmmiioaaGreatDoorW.PrintMore Go.Proofs.YtcpmgkedmmiioaaGreatDoor.Gf
open H (Row fi fi_zero fi_inj fi_bound fv fv_length)
/-- A matrix of R rows of n + 1 elements: the rows' blocks b, their capacities cp, what they hold. -/
structure Mat (w : World) (B0 R n : Nat) (b cp : Nat → Nat) (m : Nat → Nat → F) : Prop where
  top : Row w B0 22 R (fun i => .slice (some ⟨b i, 0, none⟩) (n + 1) (cp i))
  row : ∀ i, i < R → Row w (b i) 3 (n + 1) (fun k => .int .i64 (fi (m i k)))
  inj : ∀ i j, i < R → j < R → b i = b j → i = j
namespace Mat
variable {w : World} {B0 R n : Nat} {b cp : Nat → Nat} {m : Nat → Nat → F}
theorem ne (h : Mat w B0 R n b cp m) {i : Nat} (hi : i < R) : B0 ≠ b i := h.top.typeNe (h.row i hi) (by decide)
theorem drew (h : Mat w B0 R n b cp m) : Mat w.drew B0 R n b cp m := ⟨h.top.drew, fun i hi => (h.row i hi).drew, h.inj⟩
theorem congr {m' : Nat → Nat → F} (h : Mat w B0 R n b cp m) (e : ∀ i k, i < R → k ≤ n → m i k = m' i k) : Mat w B0 R n b cp m' :=
  ⟨h.top, fun i hi => (h.row i hi).congr fun k hk => by rw [e i k hi (by omega)], h.inj⟩
theorem alloc (h : Mat w B0 R n b cp m) (o : Obj) : Mat (w.alloc o) B0 R n b cp m := ⟨h.top.alloc o, fun i hi => (h.row i hi).alloc o, h.inj⟩
/-- a store into row i -/
theorem set (h : Mat w B0 R n b cp m) {i k : Nat} (hi : i < R) (x : F) : Mat (w.setCell ⟨b i, k, none⟩ (.int .i64 (fi x))) B0 R n b cp (fun i' k' => if i' = i then (if k' = k then x else m i k') else m i' k') := by
  refine ⟨h.top.setOther (h.ne hi) _, fun i' hi' => ?_, h.inj⟩
  by_cases e : i' = i
  · subst e
    refine ((h.row i' hi').set k _).congr fun k' hk' => ?_
    by_cases e2 : k' = k <;> simp [e2]
  · simp only [e, if_false]
    exact (h.row i' hi').setOther (fun e2 => e (h.inj i' i hi' hi e2)) _
/-- two rows exchanged -/
theorem swap (h : Mat w B0 R n b cp m) {x y : Nat} (hx : x < R) (hy : y < R) :
    Mat ((w.setCell ⟨B0, x, none⟩ (.slice (some ⟨b y, 0, none⟩) (n + 1) (cp y))).setCell ⟨B0, y, none⟩ (.slice (some ⟨b x, 0, none⟩) (n + 1) (cp x))) B0 R n
      (fun i => if i = x then b y else if i = y then b x else b i) (fun i => if i = x then cp y else if i = y then cp x else cp i) (swapR m x y) := by
  have nx := h.ne hx
  have ny := h.ne hy
  refine ⟨((h.top.set x _).set y _).congr fun i hi => ?_, fun i hi => ?_, ?_⟩
  · by_cases e1 : i = y
    · subst e1
      by_cases e2 : i = x
      · subst e2; simp
      · simp [e2]
    · by_cases e2 : i = x
      · simp [e2]
        intro e3; exact absurd (e2.trans e3) e1
      · simp [e1, e2]
  · have key : ∀ q, q < R → Row ((w.setCell ⟨B0, x, none⟩ (.slice (some ⟨b y, 0, none⟩) (n + 1) (cp y))).setCell ⟨B0, y, none⟩ (.slice (some ⟨b x, 0, none⟩) (n + 1) (cp x))) (b q) 3 (n + 1) (fun k => .int .i64 (fi (m q k))) :=
      fun q hq => ((h.row q hq).setOther (fun e => h.ne hq e.symm) _).setOther (fun e => h.ne hq e.symm) _
    unfold swapR
    by_cases e2 : i = x
    · simp only [e2, if_true]; exact key y hy
    · by_cases e1 : i = y
      · simp only [e1]
        by_cases e3 : y = x
        · subst e3; exact absurd e1 e2
        · simp only [e3, if_false, if_true]; exact key x hx
      · simp only [e1, e2, if_false]; exact key i hi
  · intro i j hi hj e
    have hb : ∀ i, (if i = x then b y else if i = y then b x else b i) = b (if i = x then y else if i = y then x else i) := by
      intro i; by_cases h1 : i = x
      · simp only [h1, if_true]
      · rw [if_neg h1, if_neg h1]
        by_cases h2 : i = y
        · rw [if_pos h2, if_pos h2]
        · rw [if_neg h2, if_neg h2]
    simp only [hb] at e
    have := h.inj _ _ (by split <;> (try split) <;> omega) (by split <;> (try split) <;> omega) e
    split at this <;> (try split at this) <;> (try split at this) <;> (try split at this) <;> omega
end Mat
theorem info_row : (Tryz.prog.info? 22).map (fun i => (i.zero, i.size, i.bytes)) = some (some (.slice none 0 0), 1, 24) := by kernel_rfl
/-- a row of elements of the call's own -/
def FRow (w : World) (base : Nat) (v : Value) (xs : List F) : Prop := w.ownsRow base 3 1 v xs.length (fv xs)
/-- j rows of a matrix are built (rv), and the next one is under way (vr: xs) -/
structure Bld (base : Nat) (w0 W : World) (vm : Value) (j : Nat) (rows : Nat → List F) (rv : Nat → Value) (vr : Value) (xs : List F) : Prop where
  top : W.ownsRow base 22 1 vm j ((List.range j).map rv)
  row : ∀ q, q < j → FRow W base (rv q) (rows q)
  inj : ∀ q q', q < j → q' < j → q ≠ q' → (rv q).ownBlock = none ∨ (rv q).ownBlock ≠ (rv q').ownBlock
  cur : FRow W base vr xs
  apart : ∀ q, q < j → (rv q).ownBlock = none ∨ (rv q).ownBlock ≠ vr.ownBlock
  below : Below base w0 W
  size : base ≤ W.heap.size
namespace Bld
variable {base : Nat} {w0 W W1 : World} {vm vr : Value} {j : Nat} {rows : Nat → List F} {rv : Nat → Value} {xs : List F}
theorem start (w0 W : World) (h : Below w0.heap.size w0 W) (rows : Nat → List F) : Bld w0.heap.size w0 W (.slice none 0 0) 0 rows (fun _ => .slice none 0 0) (.slice none 0 0) [] :=
  ⟨own_nil _ _ _ _, fun q hq => by omega, fun q q' hq => by omega, own_nil _ _ _ _, fun q hq => by omega, h, h.size⟩
theorem cur' (h : Bld base w0 W vm j rows rv vr xs) : W.ownsRow base 3 1 vr (fv xs).length (fv xs) := by rw [fv_length]; exact h.cur
theorem top' (h : Bld base w0 W vm j rows rv vr xs) : W.ownsRow base 22 1 vm ((List.range j).map rv).length ((List.range j).map rv) := by rw [List.length_map, List.length_range]; exact h.top
theorem cell (h : Bld base w0 W vm j rows rv vr xs) : vr.oneCell' = true := by obtain ⟨A, c, e⟩ := own_slice h.cur; rw [e]; rfl
/-- behind append(row, x) -/
theorem elem (h : Bld base w0 W vm j rows rv vr xs) {x : F} {v1 : Value} (ho : W1.ownsRow base 3 1 v1 (fv xs ++ [Value.int .i64 (fi x)]).length (fv xs ++ [Value.int .i64 (fi x)])) (hb : Below base w0 W1) (hg : W.grownBy W1 vr.ownBlock)
    (hat : v1.ownBlock = vr.ownBlock ∨ ∃ b, v1.ownBlock = some b ∧ W.heap.size ≤ b) : Bld base w0 W1 vm j rows rv v1 (xs ++ [x]) := by
  refine ⟨own_other h.top hg (own_type_ne h.top h.cur (by decide)), fun q hq => own_other (h.row q hq) hg (h.apart q hq), h.inj, ?_, fun q hq => ?_, hb, Nat.le_trans h.size hg.size⟩
  · unfold FRow fv; rw [List.map_append]; simpa [fv] using ho
  · rcases hat with e | ⟨b, e, hbb⟩
    · rw [e]; exact h.apart q hq
    · by_cases e2 : (rv q).ownBlock = none
      · exact .inl e2
      · right; rw [e]; intro e3
        have := own_lt (h.row q hq) b e3
        omega
/-- behind append(m, row) -/
theorem push (h : Bld base w0 W vm j rows rv vr xs) (hr : rows j = xs) {v1 : Value} (ho : W1.ownsRow base 22 1 v1 ((List.range j).map rv ++ [vr]).length ((List.range j).map rv ++ [vr])) (hb : Below base w0 W1) (hg : W.grownBy W1 vm.ownBlock) :
    ∃ rv', Bld base w0 W1 v1 (j + 1) rows rv' (.slice none 0 0) [] := by
  refine ⟨fun q => if q = j then vr else rv q, ?_, fun q hq => ?_, fun q q' hq hq' hne => ?_, own_nil _ _ _ _, fun q hq => ?_, hb, Nat.le_trans h.size hg.size⟩
  · have e : (List.range (j + 1)).map (fun q => if q = j then vr else rv q) = (List.range j).map rv ++ [vr] := by
      rw [List.range_succ, List.map_append]
      congr 1
      · apply List.map_congr_left; intro a ha; rw [if_neg (by have := List.mem_range.1 ha; omega)]
      · simp
    rw [e]; simpa using ho
  · have key : ∀ v xs', FRow W base v xs' → FRow W1 base v xs' := fun v xs' hv => own_other hv hg (own_type_ne hv h.top (by decide))
    by_cases e : q = j
    · subst e; rw [if_pos rfl, hr]; exact key _ _ h.cur
    · rw [if_neg e]; exact key _ _ (h.row q (by omega))
  · by_cases e : q = j
    · subst e
      rw [if_pos rfl, if_neg (by omega)]
      rcases h.apart q' (by omega) with e | e
      · by_cases e2 : vr.ownBlock = none
        · exact .inl e2
        · right; rw [e]; exact e2
      · exact .inr (fun e2 => e e2.symm)
    · rw [if_neg e]
      by_cases e2 : q' = j
      · subst e2; rw [if_pos rfl]; exact h.apart q (by omega)
      · rw [if_neg e2]; exact h.inj q q' (by omega) (by omega) hne
  · by_cases e : (if q = j then vr else rv q).ownBlock = none
    · exact .inl e
    · exact .inr (by simpa [Value.ownBlock] using e)
/-- what is built is a matrix -/
theorem mat (h : Bld base w0 W vm j rows rv vr xs) {n : Nat} {m : Nat → Nat → F} (hj : 0 < j) (hl : ∀ q, q < j → (rows q).length = n + 1) (hm : ∀ q k, q < j → k ≤ n → (rows q).getD k 0 = m q k) :
    ∃ B0 cr b cp, vm = .slice (some ⟨B0, 0, none⟩) j cr ∧ Mat W B0 j n b cp m ∧ base ≤ B0 ∧ ∀ i, i < j → base ≤ b i := by
  have hrow : ∀ q, q < j → ∃ g cap cur, rv q = .slice (some ⟨g, 0, none⟩) (n + 1) cap ∧ base ≤ g ∧ W.heap[g]? = some (.cells cur 3 (0, 0)) ∧ ∀ k, k ≤ n → cur[k]? = some (.int .i64 (fi (m q k))) := by
    intro q hq
    have := h.row q hq
    unfold FRow World.ownsRow at this
    obtain ⟨h1, h2⟩ := this
    rcases h2 with ⟨_, h0⟩ | ⟨g, cap, cur, e, hb, hh, _, _, _, ht⟩
    · have := hl q hq; omega
    · refine ⟨g, cap, cur, by rw [e, hl q hq], hb, hh, fun k hk => ?_⟩
      have hk2 : k < (rows q).length := by rw [hl q hq]; omega
      have e2 : (fv (rows q))[k]? = some (.int .i64 (fi (m q k))) := by
        unfold fv; rw [List.getElem?_map, List.getElem?_eq_getElem hk2, Option.map_some]
        have := hm q k hq hk
        rw [List.getD_eq_getElem?_getD, List.getElem?_eq_getElem hk2, Option.getD_some] at this
        rw [this]
      rw [← ht, List.getElem?_take] at e2
      rw [if_pos (by omega)] at e2
      simpa using e2
  obtain ⟨ht1, ht2⟩ := h.top
  rcases ht2 with ⟨_, h0⟩ | ⟨B0, cr, cur, e, hb, hh, _, _, _, ht⟩
  · omega
  · refine ⟨B0, cr, fun q => if hq : q < j then (hrow q hq).choose else 0, fun q => if hq : q < j then (hrow q hq).choose_spec.choose else 0, e, ⟨⟨cur, hh, fun i hi => ?_⟩, fun i hi => ?_, fun i i' hi hi' e => ?_⟩, hb, fun i hi => ?_⟩
    · have e2 : ((List.range j).map rv)[i]? = some (rv i) := by
        rw [List.getElem?_map, List.getElem?_range hi, Option.map_some]
      rw [← ht, List.getElem?_take, if_pos (by omega)] at e2
      have e3 := (hrow i hi).choose_spec.choose_spec.choose_spec.1
      simp only [hi, dif_pos]
      rw [← e3]; simpa using e2
    · obtain ⟨_, _, hh2, hk⟩ := (hrow i hi).choose_spec.choose_spec.choose_spec
      simp only [hi, dif_pos]
      exact ⟨_, hh2, fun k hk2 => hk k (by omega)⟩
    · simp only [hi, hi', dif_pos] at e
      refine Decidable.byContradiction fun hne => ?_
      have e1 := (hrow i hi).choose_spec.choose_spec.choose_spec.1
      have e2 := (hrow i' hi').choose_spec.choose_spec.choose_spec.1
      rcases h.inj i i' hi hi' hne with e3 | e3
      · rw [e1] at e3; simp [Value.ownBlock] at e3
      · rw [e1, e2] at e3; exact e3 (by simp only [Value.ownBlock]; rw [e])
    · simp only [hi, dif_pos]; exact (hrow i hi).choose_spec.choose_spec.choose_spec.2.1
end Bld
end Go.Proofs.YtcpmgkedmmiioaaGreatDoor.R
end
