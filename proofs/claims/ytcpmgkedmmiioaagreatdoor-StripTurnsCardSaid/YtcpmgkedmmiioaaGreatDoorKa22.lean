/- stripTurns_card, part 22: what the row's proof needs: words of the print, contracts of functions, the plain law. -/
import Derived.Test.YtcpmgkedmmiioaaGreatDoorKa11
section
set_option linter.unusedVariables false
namespace Go.Proofs.YtcpmgkedmmiioaaGreatDoor.H
open Go.RowKit Go.Proofs.YtcpmgkedmmiioaaGreatDoor.Gf
theorem getD_eq {l : List Int} {i : Nat} (h : i < l.length) : l.getD i 0 = l[i] := by rw [List.getD_eq_getElem?_getD, List.getElem?_eq_getElem h]; rfl
theorem getDn_eq {l : List Nat} {i : Nat} (h : i < l.length) : l.getD i 0 = l[i] := by rw [List.getD_eq_getElem?_getD, List.getElem?_eq_getElem h]; rfl
theorem lists_ext {xs ys : List Int} (hl : xs.length = ys.length) (h : ∀ i, i < xs.length → xs.getD i 0 = ys.getD i 0) : xs = ys := by
  apply List.ext_getElem hl
  intro i h1 h2
  have := h i h1
  rw [getD_eq h1, getD_eq h2] at this
  exact this
theorem set_getD (xs : List Int) (i q : Nat) (v : Int) (h : q < xs.length) : (xs.set i v).getD q 0 = if q = i then v else xs.getD q 0 := by
  rw [List.getD_eq_getElem?_getD, List.getElem?_set]
  by_cases e : i = q
  · subst e; rw [if_pos rfl, if_pos h, if_pos rfl]; rfl
  · rw [if_neg e, if_neg (fun h => e h.symm), List.getD_eq_getElem?_getD]
/-- a square system that only 0 solves has a solution -/
theorem solve_square {n : Nat} {m : Nat → Nat → F} (hk : ∀ x, Zero n n m x → x n = 0 → ∀ k, k < n → x k = 0) : ∃ y, solve n n m = some y := by
  obtain ⟨m1, hm⟩ := elim_full hk n (Nat.le_refl n)
  exact ⟨_, solve_some hm (Nat.le_refl n) (fun i h1 h2 => by omega)⟩
/-- what the changes leave -/
theorem filled_getD (l lp : List Int) (y : Nat → F) (hd : (pl lp).Nodup) (hN : ∀ a, a ∈ pl lp → a < l.length) : ∀ k, k ≤ lp.length → ∀ i, i < l.length →
    (filled l lp y k).getD i 0 = if i ∈ (pl lp).take k then fi (val l i ^^^ y ((pl lp).idxOf i)) else l.getD i 0 := by
  intro k
  induction k with
  | zero => intro _ i _; simp [filled]
  | succ k ih =>
    intro hk i hi
    have hkl : k < (pl lp).length := by rw [pl_length]; omega
    simp only [filled]
    rw [set_getD _ _ _ _ (by rw [filled_length]; exact hi), ih (by omega) i hi, List.take_succ_eq_append_getElem hkl, getDn_eq hkl]
    by_cases e : i = (pl lp)[k]
    · subst e
      rw [if_pos rfl, if_pos (List.mem_append.2 (.inr (List.mem_singleton.2 rfl))), List.Nodup.idxOf_getElem hd]
    · rw [if_neg e]
      have : (i ∈ (pl lp).take k ++ [(pl lp)[k]]) ↔ i ∈ (pl lp).take k := by
        rw [List.mem_append, List.mem_singleton]; exact ⟨fun h => h.resolve_right e, .inl⟩
      by_cases h : i ∈ (pl lp).take k
      · rw [if_pos h, if_pos (this.2 h)]
      · rw [if_neg h, if_neg (fun h2 => h (this.1 h2))]
theorem val_fi {l : List Int} {i : Nat} {x : F} (h : l.getD i 0 = fi x) : val l i = x := by
  unfold val; rw [h, show max (fi x) 0 = fi x from by have := (fi_bound x).1; omega, fo_fi]
theorem fi_val {l : List Int} {i : Nat} (h0 : 0 ≤ l.getD i 0) (h1 : l.getD i 0 ≤ 31) : fi (val l i) = l.getD i 0 := by
  unfold val; rw [show max (l.getD i 0) 0 = l.getD i 0 from by omega, fi_fo h0 h1]
theorem filled_all (l lp : List Int) (y : Nat → F) (hd : (pl lp).Nodup) (hN : ∀ a, a ∈ pl lp → a < l.length) (i : Nat) (hi : i < l.length) :
    (filled l lp y lp.length).getD i 0 = if i ∈ pl lp then fi (changed (val l) (pl lp) y i) else l.getD i 0 := by
  rw [filled_getD l lp y hd hN lp.length (Nat.le_refl _) i hi, show (pl lp).take lp.length = pl lp by rw [← pl_length, List.take_length]]
  unfold changed
  by_cases h : i ∈ pl lp
  · rw [if_pos h, if_pos h, if_pos h]
  · rw [if_neg h, if_neg h]
theorem filled_val (l lp : List Int) (y : Nat → F) (hd : (pl lp).Nodup) (hN : ∀ a, a ∈ pl lp → a < l.length) (i : Nat) (hi : i < l.length) :
    val (filled l lp y lp.length) i = changed (val l) (pl lp) y i := by
  have h := filled_all l lp y hd hN i hi
  by_cases hm : i ∈ pl lp
  · rw [if_pos hm] at h; exact val_fi h
  · rw [if_neg hm] at h
    unfold val at *
    rw [h]; unfold changed; rw [if_neg hm]
theorem code_congr {N : Nat} {c d : Nat → F} (h : ∀ i, i < N → c i = d i) (hc : Gf.Code N c) : Gf.Code N d := by
  intro j hj
  rw [← hc j hj]; unfold syn
  exact sum_congr fun i hi => by rw [h i hi]
/-- a word of the code -/
structure IsCode (c : List Int) : Prop where
  lo : 7 ≤ c.length
  hi : c.length ≤ 15
  range : ∀ i, i < c.length → 0 ≤ c.getD i 0 ∧ c.getD i 0 ≤ 31
  code : Gf.Code c.length (val c)
theorem IsCode.ext {c d : List Int} (hc : IsCode c) (hd : IsCode d) (hl : c.length = d.length) (h : ∀ i, i < c.length → val c i = val d i) : c = d :=
  lists_ext hl fun i hi => by
    have := h i hi
    rw [← fi_val (hc.range i hi).1 (hc.range i hi).2, this, fi_val (hd.range i (by omega)).1 (hd.range i (by omega)).2]
theorem pl_eps (n : Nat) : pl (eps n 6) = [n, n + 1, n + 2, n + 3, n + 4, n + 5] := by
  unfold pl eps
  simp [List.range, List.range.loop]
  omega
theorem bad_true {s : Int} (h : -1 ≤ s) (h2 : s ≤ 31) : bad (-1) s = false := by
  unfold bad; rw [Bool.or_eq_false_iff, decide_eq_false_iff_not, decide_eq_false_iff_not]; omega
theorem wordf_of {l : List Int} (h7 : 7 ≤ l.length) (h15 : l.length ≤ 15) (h : ∀ i, i < l.length → -1 ≤ l.getD i 0 ∧ l.getD i 0 ≤ 31) : wordf l (-1) = true := by
  unfold wordf
  rw [decide_eq_true h7, decide_eq_true h15]
  simp only [Bool.true_and, Bool.not_eq_true']
  rw [List.any_eq_false]
  intro x hx
  obtain ⟨i, hi, e⟩ := List.getElem_of_mem hx
  have := h i hi
  rw [getD_eq hi, e] at this
  rw [bad_true this.1 this.2]; simp
/-- ENCODE: the codeword that begins with the data -/
theorem encf_code {d : List Int} (h1 : 1 ≤ d.length) (h9 : d.length ≤ 9) (hr : ∀ i, i < d.length → 0 ≤ d.getD i 0 ∧ d.getD i 0 ≤ 31) :
    (encf d).2 = 0 ∧ IsCode (encf d).1 ∧ (encf d).1.length = d.length + 6 ∧ ∀ i, i < d.length → (encf d).1.getD i 0 = d.getD i 0 := by
  obtain ⟨t, ht⟩ : ∃ t, d ++ m6 = t := ⟨_, rfl⟩
  have htl : t.length = d.length + 6 := by rw [← ht]; simp [m6]
  have htd : ∀ i, i < d.length → t.getD i 0 = d.getD i 0 := by
    intro i hi
    rw [← ht, List.getD_eq_getElem?_getD, List.getElem?_append_left hi, List.getD_eq_getElem?_getD]
  have htm : ∀ i, d.length ≤ i → i < t.length → t.getD i 0 = -1 := by
    intro i h h2
    rw [← ht, List.getD_eq_getElem?_getD, List.getElem?_append_right h]
    obtain ⟨k, rfl⟩ : ∃ k, i = d.length + k := ⟨i - d.length, by omega⟩
    rw [Nat.add_sub_cancel_left]
    rcases (show k = 0 ∨ k = 1 ∨ k = 2 ∨ k = 3 ∨ k = 4 ∨ k = 5 by omega) with rfl | rfl | rfl | rfl | rfl | rfl <;> rfl
  have hw : wordf t (-1) = true := wordf_of (by omega) (by omega) fun i hi => by
    by_cases h : i < d.length
    · rw [htd i h]; have := hr i h; omega
    · rw [htm i (by omega) hi]; omega
  have hc : d.contains (-1) = false := by
    rw [Bool.eq_false_iff]; intro h
    rw [List.contains_iff_mem] at h
    obtain ⟨i, hi, e⟩ := List.getElem_of_mem h
    have := hr i hi
    rw [getD_eq hi, e] at this; omega
  obtain ⟨P, hP⟩ : ∃ P, pl (eps d.length 6) = P := ⟨_, rfl⟩
  have hP6 : P.length = 6 := by rw [← hP, pl_length, eps_length]
  have hPd : P.Nodup := by rw [← hP, pl_eps]; simp
  have hPm : ∀ a, a ∈ P ↔ d.length ≤ a ∧ a < t.length := by
    intro a; rw [← hP, pl_eps]; simp; omega
  have hPN : ∀ a, a ∈ P → a < t.length := fun a ha => ((hPm a).1 ha).2
  obtain ⟨y, hy⟩ := solve_square (n := P.length) (m := fillM t.length (val t) P) (by
    intro x hz hx
    refine vander_places (N := t.length) (by omega) hPd hPN (by omega) x fun j hj => ?_
    have := hz j (by omega)
    rw [lin_fill, hx, mul_zero, add_zero] at this; exact this)
  rw [hP6] at hy
  have hy' : solve 6 P.length (fillM t.length (val t) P) = some y := by rw [hP6]; exact hy
  have hfill : fillf t (eps d.length 6) = filled t (eps d.length 6) y (eps d.length 6).length := by
    unfold fillf; rw [eps_length, hP, hy]
  have hcode := fill_sound hPd hPN hy'
  have he : encf d = (filled t (eps d.length 6) y (eps d.length 6).length, 0) := by
    unfold encf; rw [ht, if_pos ⟨hw, hc⟩, hfill]
  rw [he]
  have hlen : (filled t (eps d.length 6) y (eps d.length 6).length).length = t.length := filled_length _ _ _ _
  have hget : ∀ i, i < t.length → (filled t (eps d.length 6) y (eps d.length 6).length).getD i 0 = if i ∈ P then fi (changed (val t) P y i) else t.getD i 0 := by
    intro i hi
    have := filled_all t (eps d.length 6) y (by rw [hP]; exact hPd) (by rw [hP]; exact hPN) i hi
    rw [hP] at this; exact this
  refine ⟨rfl, ⟨by rw [hlen]; omega, by rw [hlen]; omega, fun i hi => ?_, ?_⟩, by rw [hlen, htl], fun i hi => ?_⟩
  · rw [hlen] at hi
    simp only
    rw [hget i hi]
    by_cases hm : i ∈ P
    · rw [if_pos hm]; exact fi_bound _
    · rw [if_neg hm]
      have : i < d.length := by
        refine Decidable.byContradiction fun h => hm ((hPm i).2 ⟨by omega, hi⟩)
      rw [htd i this]; exact hr i this
  · simp only
    rw [hlen]
    refine code_congr (fun i hi => ?_) hcode
    have := filled_val t (eps d.length 6) y (by rw [hP]; exact hPd) (by rw [hP]; exact hPN) i hi
    rw [hP] at this; exact this.symm
  · simp only
    rw [hget i (by omega), if_neg (fun hm => by have := ((hPm i).1 hm).1; omega), htd i hi]
def erased (w : List Int) : List Nat := (List.range w.length).filter fun i => decide (w.getD i 0 = -1)
def wrong (w c : List Int) : List Nat := (List.range w.length).filter fun i => decide (w.getD i 0 ≠ -1 ∧ w.getD i 0 ≠ c.getD i 0)
theorem mem_erased {w : List Int} {i : Nat} : i ∈ erased w ↔ i < w.length ∧ w.getD i 0 = -1 := by unfold erased; simp
theorem mem_wrong {w c : List Int} {i : Nat} : i ∈ wrong w c ↔ i < w.length ∧ w.getD i 0 ≠ -1 ∧ w.getD i 0 ≠ c.getD i 0 := by unfold wrong; simp
theorem erased_nodup (w : List Int) : (erased w).Nodup := List.nodup_range.filter _
theorem wrong_nodup (w c : List Int) : (wrong w c).Nodup := List.nodup_range.filter _
theorem pl_ofNat (l : List Nat) : pl (l.map Int.ofNat) = l := by
  unfold pl; rw [List.map_map]
  have : (Int.toNat ∘ Int.ofNat) = id := by funext x; rfl
  rw [this, List.map_id]
theorem ert_erased (w : List Int) : ert w w.length = (erased w).map Int.ofNat := rfl
theorem pl_ert (w : List Int) : pl (ert w w.length) = erased w := by rw [ert_erased, pl_ofNat]
/-- a word w with a codeword c near it -/
structure Near (w c : List Int) : Prop where
  code : IsCode c
  len : w.length = c.length
  range : ∀ i, i < w.length → -1 ≤ w.getD i 0 ∧ w.getD i 0 ≤ 31
  near : 2 * (wrong w c).length + (erased w).length ≤ 6
namespace Near
variable {w c : List Int}
theorem agree (h : Near w c) {i : Nat} (hi : i < w.length) (h1 : i ∉ erased w) (h2 : i ∉ wrong w c) : val w i = val c i := by
  have e : w.getD i 0 = c.getD i 0 := Decidable.byContradiction fun hne => h2 (mem_wrong.2 ⟨hi, fun e => h1 (mem_erased.2 ⟨hi, e⟩), hne⟩)
  unfold val; rw [e]
theorem differ (h : Near w c) {i : Nat} (hi : i ∈ wrong w c) : val w i ≠ val c i := by
  obtain ⟨hl, h1, h2⟩ := mem_wrong.1 hi
  intro e
  have hw := h.range i hl
  have hc := h.code.range i (by rw [← h.len]; exact hl)
  apply h2
  rw [← fi_val (by omega) hw.2, e, fi_val hc.1 hc.2]
/-- what fill gives at the erased places and others es is nothing, or the codeword, if es is no longer than the wrong places -/
theorem fill_only (h : Near w c) {es : List Nat} (hes : es.length ≤ (wrong w c).length) (hd : (erased w ++ es).Nodup) (hN : ∀ a, a ∈ es → a < w.length)
    {d : List Int} (hf : fillf w ((erased w).map Int.ofNat ++ es.map Int.ofNat) = d) (hne : d ≠ []) : d = c ∧ ∀ a, a ∈ wrong w c → a ∈ es := by
  have hpl : pl ((erased w).map Int.ofNat ++ es.map Int.ofNat) = erased w ++ es := by rw [← List.map_append, pl_ofNat]
  have hPN : ∀ a, a ∈ erased w ++ es → a < w.length := by
    intro a ha
    rcases List.mem_append.1 ha with ha | ha
    · exact (mem_erased.1 ha).1
    · exact hN a ha
  unfold fillf at hf
  split at hf
  · exact absurd hf.symm hne
  · next y hy =>
    subst hf
    rw [hpl] at hy
    have hlen : ((erased w).map Int.ofNat ++ es.map Int.ofNat).length = (erased w ++ es).length := by simp
    rw [hlen] at hy
    have hcode := fill_sound hd hPN hy
    have hval : ∀ i, i < w.length → val (filled w ((erased w).map Int.ofNat ++ es.map Int.ofNat) y ((erased w).map Int.ofNat ++ es.map Int.ofNat).length) i = changed (val w) (erased w ++ es) y i := by
      intro i hi
      have := filled_val w ((erased w).map Int.ofNat ++ es.map Int.ofNat) y (by rw [hpl]; exact hd) (by rw [hpl]; exact hPN) i hi
      rw [hpl] at this; exact this
    have hfl : (filled w ((erased w).map Int.ofNat ++ es.map Int.ofNat) y ((erased w).map Int.ofNat ++ es.map Int.ofNat).length).length = w.length := filled_length _ _ _ _
    have hwc := h.len
    have hc15 := h.code.hi
    have hnear := h.near
    have same : ∀ i, i < w.length → changed (val w) (erased w ++ es) y i = val c i := by
      refine code_apart (N := w.length) (by omega) hcode (by rw [h.len]; exact h.code.code) (D := (erased w ++ es) ++ wrong w c) (by simp only [List.length_append]; omega) fun i hi hD => ?_
      rw [List.mem_append, not_or] at hD
      unfold changed
      rw [if_neg hD.1]
      exact h.agree hi (fun hm => hD.1 (List.mem_append.2 (.inl hm))) hD.2
    have hdc : IsCode (filled w ((erased w).map Int.ofNat ++ es.map Int.ofNat) y ((erased w).map Int.ofNat ++ es.map Int.ofNat).length) → True := fun _ => trivial
    refine ⟨lists_ext (by rw [hfl, hwc]) fun i hi => ?_, fun a ha => ?_⟩
    · rw [hfl] at hi
      have hc := h.code.range i (by omega)
      have hall := filled_all w ((erased w).map Int.ofNat ++ es.map Int.ofNat) y (by rw [hpl]; exact hd) (by rw [hpl]; exact hPN) i hi
      rw [hpl] at hall
      rw [hall]
      by_cases hm : i ∈ erased w ++ es
      · rw [if_pos hm, same i hi, fi_val hc.1 hc.2]
      · rw [if_neg hm]
        have hs := same i hi
        unfold changed at hs
        rw [if_neg hm] at hs
        have hw := h.range i hi
        have : w.getD i 0 ≠ -1 := fun e => hm (List.mem_append.2 (.inl (mem_erased.2 ⟨hi, e⟩)))
        rw [← fi_val (by omega) hw.2, hs, fi_val hc.1 hc.2]
    · refine Decidable.byContradiction fun hne2 => ?_
      have hal := (mem_wrong.1 ha).1
      have hs := same a hal
      unfold changed at hs
      rw [if_neg] at hs
      · exact h.differ ha hs
      · intro hm
        rcases List.mem_append.1 hm with hm | hm
        · exact (mem_wrong.1 ha).2.1 (mem_erased.1 hm).2
        · exact hne2 hm
theorem wrong_N (h : Near w c) : ∀ a, a ∈ wrong w c → a < w.length := fun a ha => (mem_wrong.1 ha).1
theorem both_nodup (h : Near w c) : (erased w ++ wrong w c).Nodup := by
  rw [List.nodup_append]
  refine ⟨erased_nodup w, wrong_nodup w c, fun a ha b hb e => ?_⟩
  subst e
  exact (mem_wrong.1 hb).2.1 (mem_erased.1 ha).2
/-- at the number of the wrong places the codeword is found -/
theorem fill_true (h : Near w c) : fillf w ((erased w).map Int.ofNat ++ (wrong w c).map Int.ofNat) = c := by
  have hpl : pl ((erased w).map Int.ofNat ++ (wrong w c).map Int.ofNat) = erased w ++ wrong w c := by rw [← List.map_append, pl_ofNat]
  have hPN : ∀ a, a ∈ erased w ++ wrong w c → a < w.length := by
    intro a ha
    rcases List.mem_append.1 ha with ha | ha
    · exact (mem_erased.1 ha).1
    · exact h.wrong_N a ha
  have hc15 := h.code.hi
  have hwc := h.len
  have hnear := h.near
  obtain ⟨y, hy, _⟩ := fill_complete (N := w.length) (v := val w) (c := val c) (P := erased w ++ wrong w c) (by omega) h.both_nodup hPN (by simp only [List.length_append]; omega) (by rw [h.len]; exact h.code.code) (fun i hi hm => h.agree hi (fun h1 => hm (List.mem_append.2 (.inl h1))) (fun h2 => hm (List.mem_append.2 (.inr h2))))
  refine (h.fill_only (Nat.le_refl _) h.both_nodup h.wrong_N rfl ?_).1
  unfold fillf
  rw [hpl]
  have hlen : ((erased w).map Int.ofNat ++ (wrong w c).map Int.ofNat).length = (erased w ++ wrong w c).length := by simp
  rw [hlen, hy]
  simp only
  intro e
  have := congrArg List.length e
  rw [filled_length] at this
  simp only [List.length_nil] at this
  have := h.code.lo
  omega
theorem mem_er {w : List Int} {a : Nat} : a ∈ er (ert w w.length) ↔ a ∈ erased w := by unfold er; rw [List.mem_reverse, pl_ert]
theorem loc_true (h : Near w c) : loc w (ert w w.length) (wrong w c).length = ((wrong w c).map Int.ofNat, true) := by
  unfold loc
  have hc15 := h.code.hi
  have hwc := h.len
  by_cases h0 : (wrong w c).length = 0
  · rw [if_pos h0, List.eq_nil_of_length_eq_zero h0]; rfl
  · rw [if_neg h0]
    have hel : (er (ert w w.length)).length = (ert w w.length).length := er_length _
    have hel2 : (ert w w.length).length = (erased w).length := by rw [ert_erased, List.length_map]
    have hnear := h.near
    obtain ⟨y, hy, hk⟩ := loc_solve (N := w.length) (v := val w) (c := val c) (O := er (ert w w.length)) (E := wrong w c) (by omega) (by rw [h.len]; exact h.code.code) (wrong_nodup w c) h.wrong_N
      (fun a ha => (mem_erased.1 (mem_er.1 ha)).1) (fun i hi h1 h2 => h.agree hi (fun hm => h1 (mem_er.2 hm)) h2) (fun i hi => h.differ hi) (fun a ha hm => (mem_wrong.1 ha).2.1 (mem_erased.1 (mem_er.1 hm)).2) (by omega)
    rw [hel] at hy
    rw [hy]
    have hp : placed w (wrong w c).length y = wrong w c := by
      unfold placed wrong
      apply List.filter_congr
      intro i hi
      have hiN := List.mem_range.1 hi
      have hz := locv_zero (N := w.length) (y := y) (l := (wrong w c).map (px w.length)) (by rw [List.length_map]) (fun k hk' => hk k hk') i
      rw [decide_eq_decide]
      constructor
      · rintro ⟨h1, h2⟩
        obtain ⟨a, ha, he⟩ := List.mem_map.1 (hz.1 h2)
        have : a = i := px_inj (by omega) (h.wrong_N a ha) hiN he
        subst this
        exact (mem_wrong.1 ha).2
      · rintro ⟨h1, h2⟩
        refine ⟨h1, hz.2 (List.mem_map.2 ⟨i, mem_wrong.2 ⟨hiN, h1, h2⟩, rfl⟩)⟩
    simp only [hp]
    simp
/-- fewer errors than there are: no word is found -/
theorem less (h : Near w c) {n : Nat} (hn : n < (wrong w c).length) : ¬ ((loc w (ert w w.length) n).2 = true ∧ fillf w (ert w w.length ++ (loc w (ert w w.length) n).1) ≠ []) := by
  rintro ⟨h1, h2⟩
  have hcnt := loc_count w (ert w w.length) n h1
  -- the places as natural numbers
  obtain ⟨es, hes, hed, heN, hee⟩ : ∃ es : List Nat, (loc w (ert w w.length) n).1 = es.map Int.ofNat ∧ es.Nodup ∧ (∀ a, a ∈ es → a < w.length) ∧ ∀ a, a ∈ es → w.getD a 0 ≠ -1 := by
    unfold loc
    split
    · exact ⟨[], rfl, List.nodup_nil, fun a ha => by (cases ha), fun a ha => by (cases ha)⟩
    · split
      · exact ⟨[], rfl, List.nodup_nil, fun a ha => by (cases ha), fun a ha => by (cases ha)⟩
      · refine ⟨_, rfl, List.nodup_range.filter _, fun a ha => ?_, fun a ha => ?_⟩
        · exact List.mem_range.1 (List.mem_filter.1 ha).1
        · have := (List.mem_filter.1 ha).2
          simp only [decide_eq_true_eq] at this
          exact this.1
  rw [hes, List.length_map] at hcnt
  rw [hes, ert_erased] at h2
  have hd : (erased w ++ es).Nodup := by
    rw [List.nodup_append]
    refine ⟨erased_nodup w, hed, fun a ha b hb e => ?_⟩
    subst e
    exact hee a hb (mem_erased.1 ha).2
  have := (h.fill_only (by omega) hd heN rfl h2).2
  have := length_le_of_subset (wrong_nodup w c) this
  omega
theorem decl_true (h : Near w c) : ∀ k n, n + k = 5 → n ≤ (wrong w c).length → decl w (ert w w.length) k n = (c.take (w.length - 6), ((wrong w c).length : Int), 0) := by
  have hnear := h.near
  have hel2 : (ert w w.length).length = (erased w).length := by rw [ert_erased, List.length_map]
  intro k
  induction k with
  | zero => intro n h1 h2; omega
  | succ k ih =>
    intro n h1 h2
    unfold decl
    rw [if_pos (by omega)]
    by_cases hn : n = (wrong w c).length
    · subst hn
      have hl := h.loc_true
      have hf := h.fill_true
      rw [hl, ert_erased]
      simp only [true_and]
      rw [hf, if_pos]
      intro e
      have := h.code.lo
      rw [e] at this; simp at this
    · rw [if_neg (h.less (by omega))]
      exact ih (n + 1) (by omega) (by omega)
/-- DECODE -/
theorem decode (h : Near w c) : decf w = (c.take (w.length - 6), ((wrong w c).length : Int), 0) := by
  unfold decf
  have h1 := h.code.lo
  have h2 := h.code.hi
  have h3 := h.len
  rw [if_pos (wordf_of (by omega) (by omega) h.range)]
  exact h.decl_true 5 0 rfl (Nat.zero_le _)
end Near
end Go.Proofs.YtcpmgkedmmiioaaGreatDoor.H
end
