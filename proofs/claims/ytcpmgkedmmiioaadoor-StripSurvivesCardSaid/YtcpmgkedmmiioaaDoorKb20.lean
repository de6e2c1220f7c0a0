/- stripSurvives_card, part 20: what the row's proof needs: words of the print, contracts of functions, the plain law. -/
import Derived.OpenShut
import Derived.Test.YtcpmgkedmmiioaaDoorKb3
import Derived.Test.YtcpmgkedmmiioaaDoorKb19
import Derived.Test.YtcpmgkedmmiioaaDoorKb17
import Derived.Test.YtcpmgkedmmiioaaDoorKb18
import Derived.Test.YtcpmgkedmmiioaaDoorKb16
section
set_option linter.unusedVariables false
namespace Go.Proofs.YtcpmgkedmmiioaaDoor.T
open Go.RowKit Go.Proofs.YtcpmgkedmmiioaaDoor.P Go.Proofs.YtcpmgkedmmiioaaDoorW.PrintWords Go.Proofs.YtcpmgkedmmiioaaDoorW.PrintLast
/-- a tape: numbers of int's range, read up to p -/
structure Tape (l : List Int) (p : Int) : Prop where
  len : l.length ≤ 600
  lo : 0 ≤ p
  hi : p ≤ l.length
  num : ∀ x, x ∈ l → -9223372036854775808 ≤ x ∧ x ≤ 9223372036854775807
theorem wf_num {x : Int} (h : (Lit.int .i64 x).wf = true) : -9223372036854775808 ≤ x ∧ x ≤ 9223372036854775807 := bounds_i64 h
theorem rd_getElem (l : List Int) (i : Int) (h0 : 0 ≤ i) (h : i < l.length) : ∃ h', rd l i = l[i.toNat]'h' := by
  have h' : i.toNat < l.length := by omega
  exact ⟨h', by simp [rd, h']⟩
theorem rd_mem {l : List Int} {i : Int} (h0 : 0 ≤ i) (h : i < l.length) : rd l i ∈ l := by
  obtain ⟨h', e⟩ := rd_getElem l i h0 h
  rw [e]; exact List.getElem_mem h'
theorem cut {x n : Int} (hx : -9223372036854775808 ≤ x ∧ x ≤ 9223372036854775807) (h1 : 1 ≤ n) (hn : n ≤ 9223372036854775807) : awardingbodymake_Cut.f x n = some (x % n) := by
  unfold awardingbodymake_Cut.f
  rw [if_neg (by omega), if_neg (by omega)]
  have hm0 := Int.emod_nonneg x (show n ≠ 0 by omega)
  have hm1 := Int.emod_lt_of_pos x (show 0 < n by omega)
  by_cases h : x < 0
  · have e : Int.tmod x n = -((-x) % n) := by
      obtain ⟨y, rfl⟩ : ∃ y, x = -y := ⟨-x, by omega⟩
      rw [Int.neg_tmod, Int.neg_neg, Int.tmod_eq_emod_of_nonneg (by omega)]
    have hk0 := Int.emod_nonneg (-x) (show n ≠ 0 by omega)
    have hk1 := Int.emod_lt_of_pos (-x) (show 0 < n by omega)
    rw [e]
    by_cases hz : (-x) % n = 0
    · rw [if_neg (by omega)]
      have : x % n = 0 := by
        have := Int.dvd_of_emod_eq_zero hz
        exact Int.emod_eq_zero_of_dvd ((Int.dvd_neg).1 this)
      rw [this, hz]; rfl
    · rw [if_pos (by omega)]
      have hw : wrap64 (-((-x) % n) + n) = -((-x) % n) + n := by unfold wrap64; omega
      rw [hw]
      congr 1
      have h3 : (-((-x) % n) + n) % n = -((-x) % n) + n := Int.emod_eq_of_lt (by omega) (by omega)
      rw [← h3]
      have h4 : (-x) = n * ((-x) / n) + (-x) % n := (Int.mul_ediv_add_emod (-x) n).symm
      have h5 : -((-x) % n) + n = x + n * ((-x) / n + 1) := by rw [Int.mul_add, Int.mul_one]; omega
      rw [h5, Int.add_mul_emod_self_left]
  · have e : Int.tmod x n = x % n := Int.tmod_eq_emod_of_nonneg (by omega)
    rw [e, if_neg (by omega)]
theorem raw {l : List Int} {p : Int} (h : Tape l p) : ∃ x q, awardingbodymake_Tape_Raw.f l p = some (x, q) ∧ Tape l q ∧ -9223372036854775808 ≤ x ∧ x ≤ 9223372036854775807 := by
  have h1 := h.lo
  have h2 := h.hi
  have h3 := h.len
  unfold awardingbodymake_Tape_Raw.f
  by_cases hp : p ≥ (l.length : Int)
  · rw [if_pos hp]; exact ⟨0, p, rfl, h, by omega, by omega⟩
  · rw [if_neg hp]
    have e1 : wrap64 (p + 1) = p + 1 := by unfold wrap64; omega
    have e2 : wrap64 (p + 1 - 1) = p := by unfold wrap64; omega
    rw [e1, e2, if_pos h1, if_pos (by omega)]
    have := h.num _ (rd_mem h1 (by omega : p < l.length))
    exact ⟨_, _, rfl, ⟨h3, by omega, by omega, h.num⟩, this.1, this.2⟩
theorem next {l : List Int} {p n : Int} (h : Tape l p) (h1 : 1 ≤ n) (hn : n ≤ 9223372036854775807) : ∃ x q, awardingbodymake_Tape_Next.f l p n = some (x, q) ∧ Tape l q ∧ 0 ≤ x ∧ x < n := by
  obtain ⟨x, q, e, hq, hx⟩ := raw h
  unfold awardingbodymake_Tape_Next.f
  rw [e]
  simp only [Option.bind_some]
  rw [cut hx h1 hn]
  exact ⟨_, _, rfl, hq, Int.emod_nonneg x (by omega), Int.emod_lt_of_pos x (by omega)⟩
theorem new {l : List Int} (h : ∀ x ∈ l, (Lit.int .i64 x).wf = true) : ∃ m, awardingbodymake_New.f l = some (m, 0) ∧ Tape m 0 := by
  unfold awardingbodymake_New.f
  by_cases hl : (l.length : Int) > 600
  · rw [if_pos hl, if_pos (by omega)]
    exact ⟨_, rfl, by rw [List.length_take]; omega, by omega, by omega, fun x hx => wf_num (h x (List.mem_of_mem_take hx))⟩
  · rw [if_neg hl]
    exact ⟨_, rfl, by omega, by omega, by omega, fun x hx => wf_num (h x hx)⟩
theorem range {l : List Int} {p : Int} (h : Tape l p) (a b : Int) (ha : 0 ≤ a) (hb : a ≤ b) (hb2 : b ≤ 1000000) : ∃ x q, awardingbodymake_Tape_Range.f l p a b = some (x, q) ∧ Tape l q ∧ a ≤ x ∧ x ≤ b := by
  unfold awardingbodymake_Tape_Range.f
  have e : wrap64 (wrap64 (b - a) + 1) = b - a + 1 := by unfold wrap64; omega
  rw [e]
  obtain ⟨x, q, e, hq, h0, h1⟩ := next h (show 1 ≤ b - a + 1 by omega) (by omega)
  rw [e]
  simp only [Option.bind_some]
  have e2 : wrap64 (a + x) = a + x := by unfold wrap64; omega
  rw [e2]
  exact ⟨_, _, rfl, hq, by omega, by omega⟩
theorem pick {l : List Int} {p : Int} (h : Tape l p) (c : List Int) (h1 : 1 ≤ c.length) (h2 : c.length ≤ 1000) : ∃ x q, awardingbodymake_Tape_Pick.f l p c = some (x, q) ∧ Tape l q ∧ x ∈ c := by
  unfold awardingbodymake_Tape_Pick.f
  obtain ⟨x, q, e, hq, h0, h1⟩ := next h (show 1 ≤ (c.length : Int) by omega) (by omega)
  rw [e]
  simp only [Option.bind_some]
  rw [if_pos h0, if_pos h1]
  exact ⟨_, _, rfl, hq, rd_mem h0 h1⟩
theorem spoil0 (l : List Int) (p a : Int) : awardingbodymake_Tape_Spoil.f l p a 0 = some (a, p) := by unfold awardingbodymake_Tape_Spoil.f; rw [if_neg (by omega)]
/-- a valid label is drawn -/
theorem label {l : List Int} {p : Int} (h : Tape l p) : ∃ a b c d q, awardingbodymake_Tape_Label.f l p 0 = some (a, b, c, d, q) ∧ Tape l q ∧ H.labelf a b c d = true := by
  unfold awardingbodymake_Tape_Label.f
  obtain ⟨a, q1, e1, t1, a0, a1⟩ := range h 0 31 (by omega) (by omega) (by omega)
  obtain ⟨b, q2, e2, t2, hb⟩ := pick t1 [0, 1, 31, 32, 1023, 1024, 5000, 9998, 9999] (by simp) (by simp)
  obtain ⟨c, q3, e3, t3, c0, c1⟩ := range t2 0 31 (by omega) (by omega) (by omega)
  obtain ⟨d, q4, e4, t4, d0, d1⟩ := range t3 0 31 (by omega) (by omega) (by omega)
  simp only [e1, Option.bind_some, spoil0, e2, e3, e4]
  refine ⟨a, b, c, d, q4, rfl, t4, ?_⟩
  have hb2 : 0 ≤ b ∧ b ≤ 9999 := by
    simp only [List.mem_cons, List.mem_nil_iff, or_false] at hb
    rcases hb with rfl | rfl | rfl | rfl | rfl | rfl | rfl | rfl | rfl <;> omega
  have hn : ∀ x : Int, 0 ≤ x → x ≤ 31 → H.bad31 x = false := by
    intro x h0 h1; unfold H.bad31; rw [Bool.or_eq_false_iff, decide_eq_false_iff_not, decide_eq_false_iff_not]; omega
  unfold H.labelf
  rw [hn a a0 a1, hn c c0 c1, hn d d0 d1, decide_eq_true hb2.1, decide_eq_true hb2.2]; rfl
/-- an order of 0 .. n-1 -/
structure Ord (n : Nat) (o : List Int) : Prop where
  len : o.length = n
  nodup : o.Nodup
  range : ∀ x, x ∈ o → 0 ≤ x ∧ x < n
theorem order_l (n : Nat) (hn : n ≤ 1000) (l : List Int) : ∀ j i (p : Int) (o : List Int), i + j = n → Tape l p → Ord i o → ∃ o' q, awardingbodymake_Tape_Order.l0 (j + 1) (n : Int) o (i : Int) l p = some (o', q) ∧ Tape l q ∧ Ord n o' := by
  intro j
  induction j with
  | zero =>
    intro i p o hij ht ho
    obtain rfl : i = n := by omega
    unfold awardingbodymake_Tape_Order.l0
    rw [if_neg (by omega)]
    exact ⟨o, p, rfl, ht, ho⟩
  | succ j ih =>
    intro i p o hij ht ho
    unfold awardingbodymake_Tape_Order.l0
    rw [if_pos (by omega)]
    have e1 : wrap64 ((i : Int) + 1) = ((i + 1 : Nat) : Int) := by unfold wrap64; omega
    rw [e1]
    obtain ⟨t, q, e, hq, t0, t1⟩ := next ht (show 1 ≤ ((i + 1 : Nat) : Int) by omega) (by omega)
    rw [e]
    simp only [Option.bind_some]
    have hol := ho.len
    rw [if_pos t0, if_pos (by omega)]
    have hlt : ([] : List Int).length + (o.take t.toNat).length < 17592186044416 := by rw [List.length_take]; simp; omega
    rw [if_pos hlt, if_pos (by simp; omega), if_pos (by simp; omega)]
    refine ih (i + 1) q _ (by omega) hq ⟨?_, ?_, ?_⟩
    · simp; omega
    · have hd : (o.take t.toNat ++ o.drop t.toNat).Nodup := by rw [List.take_append_drop]; exact ho.nodup
      have hni : ∀ x, x ∈ o → x ≠ (i : Int) := fun x hx e => by have := (ho.range x hx).2; omega
      rw [List.nil_append, List.nodup_append] at *
      obtain ⟨h1, h2, h3⟩ := hd
      refine ⟨?_, h2, ?_⟩
      · rw [List.nodup_append]
        refine ⟨h1, by simp, fun a ha b hb => ?_⟩
        rw [List.mem_singleton] at hb
        subst hb
        exact hni a (List.mem_of_mem_take ha)
      · intro a ha b hb
        rcases List.mem_append.1 ha with ha | ha
        · exact h3 a ha b hb
        · rw [List.mem_singleton] at ha
          subst ha
          exact fun e => hni b (List.mem_of_mem_drop hb) e.symm
    · intro x hx
      simp only [List.nil_append, List.append_assoc, List.mem_append, List.mem_singleton] at hx
      rcases hx with hx | hx | hx
      · have := ho.range x (List.mem_of_mem_take hx); omega
      · subst hx; omega
      · have := ho.range x (List.mem_of_mem_drop hx); omega
theorem order (n : Nat) (hn : n ≤ 1000) {l : List Int} {p : Int} (h : Tape l p) : ∃ o q, awardingbodymake_Tape_Order.f (n + 1) l p (n : Int) = some (o, q) ∧ Tape l q ∧ Ord n o := by
  unfold awardingbodymake_Tape_Order.f
  exact order_l n hn l n 0 p [] (by omega) h ⟨rfl, List.nodup_nil, fun x hx => by (cases hx)⟩
end Go.Proofs.YtcpmgkedmmiioaaDoor.T
end

section
set_option linter.unusedVariables false
namespace Go.Proofs.YtcpmgkedmmiioaaDoor.T
open Go.RowKit Go.Proofs.YtcpmgkedmmiioaaDoor.P Go.Proofs.YtcpmgkedmmiioaaDoorW.PrintWords Go.Proofs.YtcpmgkedmmiioaaDoorW.PrintLast
open H (txt Up isStrip beginsf wordl stripl Near IsCode labelf symf bad31 encf)
theorem bad31_false {x : Int} (h : bad31 x = false) : 0 ≤ x ∧ x ≤ 31 := by
  unfold H.bad31 at h
  rw [Bool.or_eq_false_iff, decide_eq_false_iff_not, decide_eq_false_iff_not] at h
  omega
theorem label_range {a b c d : Int} (h : labelf a b c d = true) : (0 ≤ a ∧ a ≤ 31) ∧ (0 ≤ b ∧ b ≤ 9999) ∧ (0 ≤ c ∧ c ≤ 31) ∧ (0 ≤ d ∧ d ≤ 31) := by
  unfold H.labelf at h
  simp only [Bool.and_eq_true, Bool.not_eq_true', decide_eq_true_eq] at h
  obtain ⟨⟨⟨⟨h1, h2⟩, h3⟩, h4⟩, h5⟩ := h
  exact ⟨bad31_false h1, ⟨h4, h5⟩, bad31_false h2, bad31_false h3⟩
theorem six_range {x : Nat → Int} (h : ∀ i, i < 6 → 0 ≤ x i ∧ x i ≤ 31) : ∀ i, i < ([x 0, x 1, x 2, x 3, x 4, x 5] : List Int).length → 0 ≤ ([x 0, x 1, x 2, x 3, x 4, x 5] : List Int).getD i 0 ∧ ([x 0, x 1, x 2, x 3, x 4, x 5] : List Int).getD i 0 ≤ 31 := by
  intro i hi
  simp only [List.length_cons, List.length_nil] at hi
  rcases (show i = 0 ∨ i = 1 ∨ i = 2 ∨ i = 3 ∨ i = 4 ∨ i = 5 by omega) with rfl | rfl | rfl | rfl | rfl | rfl
  · exact h 0 (by omega)
  · exact h 1 (by omega)
  · exact h 2 (by omega)
  · exact h 3 (by omega)
  · exact h 4 (by omega)
  · exact h 5 (by omega)
/-- the word of six symbols -/
theorem word_six {d : List Int} (hl : d.length = 6) (hr : ∀ i, i < d.length → 0 ≤ d.getD i 0 ∧ d.getD i 0 ≤ 31) : (encf d).2 = 0 ∧ IsCode (encf d).1 ∧ (encf d).1.length = 12 ∧ (encf d).1.take 6 = d := by
  obtain ⟨h1, h2, h3, h4⟩ := H.encf_code (d := d) (by omega) (by omega) hr
  refine ⟨h1, h2, by rw [h3, hl], H.lists_ext (by rw [List.length_take, h3, hl]; rfl) fun i hi => ?_⟩
  rw [List.length_take] at hi
  rw [List.getD_eq_getElem?_getD, List.getElem?_take, if_pos (by omega), ← List.getD_eq_getElem?_getD, h4 i (by omega)]
theorem symf_range {a b c d : Int} (h : labelf a b c d = true) : ∀ i, i < (symf a b c d).length → 0 ≤ (symf a b c d).getD i 0 ∧ (symf a b c d).getD i 0 ≤ 31 := by
  obtain ⟨h1, h2, h3, h4⟩ := label_range h
  have := six_range (x := fun i => if i = 0 then a else if i = 1 then b / 1024 else if i = 2 then b / 32 % 32 else if i = 3 then b % 32 else if i = 4 then c else d) (fun i hi => by
    rcases (show i = 0 ∨ i = 1 ∨ i = 2 ∨ i = 3 ∨ i = 4 ∨ i = 5 by omega) with rfl | rfl | rfl | rfl | rfl | rfl <;> simp <;> omega)
  exact this
theorem symf_cand {a b c d : Int} (h : labelf a b c d = true) : cand (symf a b c d) = b := by
  obtain ⟨_, h2, _⟩ := label_range h
  show b / 1024 * 1024 + b / 32 % 32 * 32 + b % 32 = b
  omega
/-- DRAW: the strip of a codeword that begins with the label's symbols -/
theorem draw {a b c d : Int} (h : labelf a b c d = true) : ∃ ws, strip_Draw.f a b c d = some (txt (stripl ws), 0) ∧ IsCode ws ∧ ws.length = 12 ∧ ws.take 6 = symf a b c d := by
  obtain ⟨_, h2, h3, h4⟩ := word_six (d := symf a b c d) rfl (symf_range h)
  refine ⟨_, ?_, h2, h3, h4⟩
  unfold strip_Draw.f H.drawr
  rw [if_pos h]; rfl
theorem code_up {ws : List Int} (h : IsCode ws) (hl : ws.length = 12) : Up (stripl ws) := H.stripl_up ws hl h.range
theorem near_self {ws : List Int} (h : IsCode ws) : Near ws ws ∧ (H.wrong ws ws).length = 0 := by
  have hw : H.wrong ws ws = [] := by
    unfold H.wrong; rw [List.filter_eq_nil_iff]; intro i _; simp
  have he : H.erased ws = [] := by
    unfold H.erased; rw [List.filter_eq_nil_iff]
    intro i hi
    have := h.range i (List.mem_range.1 hi)
    simp only [decide_eq_true_eq]; omega
  refine ⟨⟨h, rfl, fun i hi => by have := h.range i hi; omega, by rw [hw, he]; simp⟩, by rw [hw]; rfl⟩
theorem readr_symf {a b c d : Int} (h : labelf a b c d = true) (n : Int) : readr (symf a b c d) n = (a, b, c, d, n, 0) := by
  unfold readr
  rw [symf_cand h]
  show (if labelf a b c d = true then (a, b, c, d, n, 0) else (0, 0, 0, 0, 0, 2)) = _
  rw [if_pos h]
/-- READ of an undamaged strip, from both sides -/
theorem read_clean {ws : List Int} (h : IsCode ws) (hl : ws.length = 12) : strip_Read.f (txt (stripl ws)) = some (readr (ws.take 6) 0) ∧ strip_Read.f (txt (stripl ws).reverse) = some (readr (ws.take 6) 0) := by
  have hu := code_up h hl
  have hw : wordl (txt (stripl ws)) = ws := H.wordl_stripl ws hl h.range
  obtain ⟨hn, h0⟩ := near_self h
  have key : ∀ t, strip_Upright.f t = some (txt (stripl ws), 0) → strip_Read.f t = some (readr (ws.take 6) 0) := by
    intro t ht
    have := read_up ht hu hl (by rw [hw]; exact hn)
    rw [hw, h0] at this
    exact this
  exact ⟨key _ (upright hu), key _ (upright_flip hu)⟩
theorem take8 {ws : List Int} (hl : ws.length = 12) (h0 : ws.getD 0 0 = 0) : (stripl ws).take 8 = [49, 49, 49, 49, 49, 49, 49, 48] := by
  have e : (stripl ws).take 8 = (stripl ws).take 7 ++ (((stripl ws).drop (7 + 0 * 5)).take 5).take 1 := by
    rw [List.take_take, show min 1 5 = 1 from rfl, show 7 + 0 * 5 = 7 from rfl, ← List.take_add]
  rw [e, H.stripl_take, H.stripl_chunk ws hl 0 (by omega), h0]
  decide
theorem awake_true : awardingbodylaw19_awake.f = some true := by
  have hA : labelf 3 9999 2 1 = true := by decide
  have hB : labelf 0 0 0 0 = true := by decide
  obtain ⟨ws, hd, hc, hl, ht⟩ := draw hA
  obtain ⟨wz, hd2, hc2, hl2, ht2⟩ := draw hB
  have hr := (read_clean hc hl).2
  rw [ht, readr_symf hA] at hr
  have h74 := (code_up hc hl).len
  have h742 := (code_up hc2 hl2).len
  unfold awardingbodylaw19_awake.f
  rw [hd]
  simp only [Option.bind_some]
  rw [flip_f _ (by omega)]
  simp only [Option.bind_some]
  rw [hr]
  simp only [Option.bind_some]
  rw [hd2]
  simp only [Option.bind_some]
  rw [H.txt_size, H.txt_size, h74, h742]
  have hz : wz.getD 0 0 = 0 := by
    have : (wz.take 6).getD 0 0 = (symf 0 0 0 0).getD 0 0 := by rw [ht2]
    rw [List.getD_eq_getElem?_getD, List.getElem?_take, if_pos (by omega), ← List.getD_eq_getElem?_getD] at this
    rw [this]; rfl
  have h8 : ((txt (stripl wz)).extract 0 8).toList = [49, 49, 49, 49, 49, 49, 49, 48] := by
    rw [ByteArray.toList_eq, ByteArray.data_extract, Array.toList_extract, List.extract_eq_take_drop, H.txt_list]
    exact take8 hl2 hz
  rw [h8]
  decide
end Go.Proofs.YtcpmgkedmmiioaaDoor.T
end

section
set_option linter.unusedVariables false
namespace Go.Proofs.YtcpmgkedmmiioaaDoor.T
open Go.RowKit Go.Proofs.YtcpmgkedmmiioaaDoor.P Go.Proofs.YtcpmgkedmmiioaaDoorW.PrintWords Go.Proofs.YtcpmgkedmmiioaaDoorW.PrintLast
open H (txt Up isStrip beginsf wordl stripl Near IsCode labelf symf bad31 encf mods isMod accu symb chunk)
/-- the module that Change lays -/
def nb (l : List UInt8) (i : Nat) (how : Int) : UInt8 := if how = 1 then 63 else if l.getD i 0 = 48 then 49 else 48
theorem nb_mod (l : List UInt8) (i : Nat) (how : Int) : isMod (nb l i how) = true := by
  unfold nb; split
  · decide
  · split <;> decide
theorem put_list (l : List UInt8) (i : Nat) (b : UInt8) (hi : i < l.length) : H.putb (txt l) i b = txt (l.set i b) := by
  unfold H.putb
  apply ByteArray.ext
  rw [← Array.toList_inj]
  simp only [ByteArray.data_append, Array.toList_append, ByteArray.data_extract, Array.toList_extract, List.extract_eq_take_drop, H.txt_list, H.txt_size]
  rw [List.set_eq_take_append_cons_drop, if_pos hi]
  simp only [Nat.sub_zero, List.drop_zero, List.append_assoc, List.singleton_append]
  congr 2
  exact (List.take_of_length_le (by rw [List.length_drop]; exact Nat.le_refl _))
theorem change_f {l : List UInt8} (hl : l.length ≤ 1000) {i : Nat} (hi : i < l.length) (how : Int) : awardingbodymake_Change.f (txt l) (i : Int) how = some (txt (l.set i (nb l i how))) := by
  unfold awardingbodymake_Change.f
  rw [H.txt_size, if_pos (by omega)]
  unfold H.changef
  rw [H.txt_size, if_pos (by omega), Int.toNat_natCast, put_list _ _ _ hi]
  congr 2
def chunkL (l : List UInt8) (p : Nat) : List UInt8 := (l.drop (7 + p * 5)).take 5
theorem chunkL_length {l : List UInt8} (h : l.length = 74) {p : Nat} (hp : p < 12) : (chunkL l p).length = 5 := by
  unfold chunkL; rw [List.length_take, List.length_drop]; omega
theorem chunkL_get {l : List UInt8} (h : l.length = 74) {p k : Nat} (hp : p < 12) (hk : k < 5) : (chunkL l p).getD k 0 = l.getD (7 + p * 5 + k) 0 := by
  unfold chunkL
  rw [List.getD_eq_getElem?_getD, List.getElem?_take, if_pos hk, List.getElem?_drop, ← List.getD_eq_getElem?_getD]
theorem count_set (a b : UInt8) : ∀ (l : List UInt8) (i : Nat), l.count a ≤ (l.set i b).count a + 1 := by
  intro l
  induction l with
  | nil => intro i; simp
  | cons x l ih =>
    intro i
    cases i with
    | zero =>
      simp only [List.set_cons_zero, List.count_cons]
      split <;> omega
    | succ i =>
      simp only [List.set_cons_succ, List.count_cons]
      have := ih i
      omega
/-- the two marks have lost j modules each, at most -/
structure Mk (l : List UInt8) (j : Nat) : Prop where
  len : l.length = 74
  mod : ∀ b, b ∈ l → isMod b = true
  one : 7 ≤ (l.take 7).count 49 + j
  zero : 7 ≤ (l.drop 67).count 48 + j
theorem mem_set_mod {l : List UInt8} {i : Nat} {b : UInt8} (h : ∀ b, b ∈ l → isMod b = true) (hb : isMod b = true) : ∀ c, c ∈ l.set i b → isMod c = true := by
  intro c hc
  rcases List.mem_or_eq_of_mem_set hc with hc | rfl
  · exact h c hc
  · exact hb
theorem Mk.inner {l : List UInt8} {j i : Nat} {b : UInt8} (h : Mk l j) (hb : isMod b = true) (h1 : 7 ≤ i) (h2 : i < 67) : Mk (l.set i b) j := by
  refine ⟨by rw [List.length_set]; exact h.len, mem_set_mod h.mod hb, ?_, ?_⟩
  · rw [List.take_set, List.set_eq_of_length_le (by rw [List.length_take]; omega)]; exact h.one
  · rw [List.drop_set, if_pos h2]; exact h.zero
theorem Mk.front {l : List UInt8} {j i k : Nat} {b c : UInt8} (h : Mk l j) (hb : isMod b = true) (hc : isMod c = true) (h1 : i < 7) (h2 : 67 ≤ k) : Mk ((l.set i b).set k c) (j + 1) := by
  refine ⟨by rw [List.length_set, List.length_set]; exact h.len, mem_set_mod (mem_set_mod h.mod hb) hc, ?_, ?_⟩
  · rw [List.take_set, List.set_eq_of_length_le (by rw [List.length_take]; omega), List.take_set]
    have := count_set 49 b (l.take 7) i
    have := h.one
    omega
  · rw [List.drop_set, if_neg (by omega), List.drop_set, if_pos (by omega)]
    have := count_set 48 c (l.drop 67) (k - 67)
    have := h.zero
    omega
theorem chunk_other {l : List UInt8} {p i : Nat} {b : UInt8} (h : i < 7 + p * 5 ∨ 12 + p * 5 ≤ i) : chunkL (l.set i b) p = chunkL l p := by
  unfold chunkL
  rw [List.drop_set]
  split
  · rfl
  · rw [List.take_set, List.set_eq_of_length_le (by rw [List.length_take]; omega)]
theorem chunk_here {l : List UInt8} {p k : Nat} {b : UInt8} (hk : k < 5) : chunkL (l.set (7 + p * 5 + k) b) p = (chunkL l p).set k b := by
  unfold chunkL
  rw [List.drop_set, if_neg (by omega), List.take_set]
  congr 1; omega
/-- a symbol's modules that write another symbol -/
structure Wr (c : List UInt8) (x : Int) : Prop where
  len : c.length = 5
  bin : ∀ b, b ∈ c → b = 48 ∨ b = 49
  ne : c ≠ mods x
theorem Wr.symb {c : List UInt8} {x : Int} (h : Wr c x) : c.contains 63 = false ∧ accu c 5 ≠ x ∧ accu c 5 ≠ -1 := by
  obtain ⟨b0, b1, b2, b3, b4, e⟩ : ∃ b0 b1 b2 b3 b4, c = [b0, b1, b2, b3, b4] := by
    match hq : c, h.len with
    | [b0, b1, b2, b3, b4], _ => exact ⟨_, _, _, _, _, rfl⟩
  have hb := h.bin
  have hn := h.ne
  subst e
  have key : ([b0, b1, b2, b3, b4].contains 63 = false) ∧ [b0, b1, b2, b3, b4] = mods (accu [b0, b1, b2, b3, b4] 5) ∧ accu [b0, b1, b2, b3, b4] 5 ≠ -1 := by
    rcases hb b0 (by simp) with rfl | rfl <;> rcases hb b1 (by simp) with rfl | rfl <;> rcases hb b2 (by simp) with rfl | rfl <;> rcases hb b3 (by simp) with rfl | rfl <;> rcases hb b4 (by simp) with rfl | rfl <;> decide
  exact ⟨key.1, fun e => hn (by rw [key.2.1, e]), key.2.2⟩
/-- i symbols of the order o are spoiled, the first e so that they are others, the rest so that they are none -/
structure Dm (ws : List Int) (o : List Int) (e i : Nat) (l : List UInt8) : Prop where
  mks : Mk l 3
  same : ∀ p : Nat, p < 12 → (∀ q, q < i → o.getD q 0 ≠ p) → chunkL l p = mods (ws.getD p 0)
  err : ∀ q, q < i → q < e → Wr (chunkL l (o.getD q 0).toNat) (ws.getD (o.getD q 0).toNat 0)
  ers : ∀ q, q < i → e ≤ q → 63 ∈ chunkL l (o.getD q 0).toNat
/-- the same while the next one, at p, is spoiled: k of its modules are behind -/
structure In (ws : List Int) (o : List Int) (e i p first k : Nat) (l : List UInt8) : Prop where
  mks : Mk l 3
  same : ∀ p' : Nat, p' < 12 → p' ≠ p → (∀ q, q < i → o.getD q 0 ≠ p') → chunkL l p' = mods (ws.getD p' 0)
  err : ∀ q, q < i → q < e → Wr (chunkL l (o.getD q 0).toNat) (ws.getD (o.getD q 0).toNat 0)
  ers : ∀ q, q < i → e ≤ q → 63 ∈ chunkL l (o.getD q 0).toNat
  bin : i < e → (∀ b, b ∈ chunkL l p → b = 48 ∨ b = 49) ∧ (∀ t, k ≤ t → t < 5 → (chunkL l p).getD t 0 = (mods (ws.getD p 0)).getD t 0) ∧ (first < k → (chunkL l p).getD first 0 ≠ (mods (ws.getD p 0)).getD first 0)
  gone : e ≤ i → first < k → (chunkL l p).getD first 0 = 63
variable {ws o : List Int} {e i : Nat} {l : List UInt8}
theorem ord_get {n : Nat} (ho : Ord n o) {q : Nat} (hq : q < n) : 0 ≤ o.getD q 0 ∧ o.getD q 0 < n := by
  have hl := ho.len
  have hq' : q < o.length := by omega
  have e1 : o.getD q 0 = o[q] := H.getD_eq hq'
  rw [e1]
  exact ho.range _ (List.getElem_mem hq')
theorem ord_ne {n : Nat} (ho : Ord n o) {q r : Nat} (hq : q < n) (hr : r < n) (hne : q ≠ r) : o.getD q 0 ≠ o.getD r 0 := by
  have hl := ho.len
  rw [H.getD_eq (show q < o.length by omega), H.getD_eq (show r < o.length by omega)]
  intro h
  have h1 := List.Nodup.idxOf_getElem ho.nodup q (by omega)
  have h2 := List.Nodup.idxOf_getElem ho.nodup r (by omega)
  rw [h] at h1
  omega
theorem Dm.enter (h : Dm ws o e i l) (ho : Ord 12 o) (hi : i < 12) {p : Nat} (hp : (o.getD i 0) = p) (hr : 0 ≤ ws.getD p 0 ∧ ws.getD p 0 ≤ 31) (first : Nat) : In ws o e i p first 0 l := by
  have hp12 : p < 12 := by have := (ord_get ho hi).2; omega
  have hc : chunkL l p = mods (ws.getD p 0) := h.same p hp12 fun q hq e2 => ord_ne ho (by omega) hi (by omega : q ≠ i) (by rw [e2, hp])
  refine ⟨h.mks, fun p' h1 _ h2 => h.same p' h1 h2, h.err, h.ers, fun _ => ⟨fun b hb => ?_, fun t _ _ => by rw [hc], fun hf => by omega⟩, fun _ hf => by omega⟩
  rw [hc] at hb
  have := List.all_eq_true.1 (H.mods_num hr.1 hr.2).2.1 b hb
  simpa using this
theorem In.skip {p first k : Nat} (h : In ws o e i p first k l) (hne : k ≠ first) : In ws o e i p first (k + 1) l :=
  ⟨h.mks, h.same, h.err, h.ers, fun hi => ⟨(h.bin hi).1, fun t h1 h2 => (h.bin hi).2.1 t (by omega) h2, fun hf => (h.bin hi).2.2 (by omega)⟩, fun hi hf => h.gone hi (by omega)⟩
theorem getD_set_byte (c : List UInt8) (k t : Nat) (b : UInt8) (h : t < c.length) : (c.set k b).getD t 0 = if t = k then b else c.getD t 0 := by
  rw [List.getD_eq_getElem?_getD, List.getElem?_set]
  by_cases e : k = t
  · subst e; rw [if_pos rfl, if_pos h, if_pos rfl]; rfl
  · rw [if_neg e, if_neg (fun h => e h.symm), List.getD_eq_getElem?_getD]
/-- one module of the symbol is changed -/
theorem In.hit {p first k : Nat} (h : In ws o e i p first k l) (ho : Ord 12 o) (hi : i < 12) (hp : (o.getD i 0) = p) (hk : k < 5) (hf : first < 5) (how : Int) (hh : how = if i < e then 0 else 1) :
    In ws o e i p first (k + 1) (l.set (7 + p * 5 + k) (nb l (7 + p * 5 + k) how)) := by
  have hp12 : p < 12 := by have := (ord_get ho hi).2; omega
  have hlen := chunkL_length h.mks.len hp12
  have hoth : ∀ p' : Nat, p' ≠ p → chunkL (l.set (7 + p * 5 + k) (nb l (7 + p * 5 + k) how)) p' = chunkL l p' := fun p' hne => chunk_other (by omega)
  have hq : ∀ q, q < i → (o.getD q 0).toNat ≠ p := by
    intro q hqi e2
    have h1 := ord_get ho (show q < 12 by omega)
    exact ord_ne ho (show q < 12 by omega) hi (by omega) (by rw [hp]; omega)
  have hhere := chunk_here (l := l) (p := p) (b := nb l (7 + p * 5 + k) how) hk
  refine ⟨h.mks.inner (nb_mod _ _ _) (by omega) (by omega), fun p' h1 h2 h3 => by rw [hoth p' h2]; exact h.same p' h1 h2 h3, fun q h1 h2 => by rw [hoth _ (hq q h1)]; exact h.err q h1 h2, fun q h1 h2 => by rw [hoth _ (hq q h1)]; exact h.ers q h1 h2, fun hie => ?_, fun hie hfk => ?_⟩
  · rw [hhere]
    have h0 : how = 0 := by rw [hh, if_pos hie]
    obtain ⟨b1, b2, b3⟩ := h.bin hie
    have hnb : nb l (7 + p * 5 + k) how = 48 ∨ nb l (7 + p * 5 + k) how = 49 := by
      unfold nb; rw [h0, if_neg (by omega)]; split
      · exact .inr rfl
      · exact .inl rfl
    refine ⟨fun b hb => ?_, fun t h1 h2 => ?_, fun hf2 => ?_⟩
    · rcases List.mem_or_eq_of_mem_set hb with hb | rfl
      · exact b1 b hb
      · exact hnb
    · rw [getD_set_byte _ _ _ _ (by omega), if_neg (by omega)]; exact b2 t (by omega) h2
    · rw [getD_set_byte _ _ _ _ (by omega)]
      by_cases e2 : first = k
      · rw [if_pos e2, e2, ← b2 k (Nat.le_refl _) hk, chunkL_get h.mks.len hp12 hk]
        unfold nb; rw [h0, if_neg (by omega)]
        by_cases e3 : l.getD (7 + p * 5 + k) 0 = 48
        · rw [if_pos e3, e3]; decide
        · rw [if_neg e3]; exact fun e4 => e3 e4.symm
      · rw [if_neg e2]; exact b3 (by omega)
  · rw [hhere, getD_set_byte _ _ _ _ (by omega)]
    have h1 : how = 1 := by rw [hh, if_neg (by omega)]
    by_cases e2 : first = k
    · rw [if_pos e2]; unfold nb; rw [if_pos h1]
    · rw [if_neg e2]; exact h.gone hie (by omega)
theorem In.leave {p first : Nat} (h : In ws o e i p first 5 l) (ho : Ord 12 o) (hi : i < 12) (hp : (o.getD i 0) = p) (hf : first < 5) : Dm ws o e (i + 1) l := by
  have hp12 : p < 12 := by have := (ord_get ho hi).2; omega
  have hlen := chunkL_length h.mks.len hp12
  have hpn : (o.getD i 0).toNat = p := by omega
  refine ⟨h.mks, fun p' h1 h2 => ?_, fun q h1 h2 => ?_, fun q h1 h2 => ?_⟩
  · refine h.same p' h1 ?_ fun q hq => h2 q (by omega)
    rintro rfl
    exact h2 i (by omega) hp
  · by_cases e2 : q = i
    · subst e2
      rw [hpn]
      obtain ⟨b1, _, b3⟩ := h.bin h2
      exact ⟨hlen, b1, fun e3 => b3 hf (by rw [e3])⟩
    · exact h.err q (by omega) h2
  · by_cases e2 : q = i
    · subst e2
      rw [hpn]
      have := h.gone h2 hf
      rw [List.getD_eq_getElem?_getD, List.getElem?_eq_getElem (by omega)] at this
      rw [← show (chunkL l p)[first] = 63 from this]
      exact List.getElem_mem _
    · exact h.ers q (by omega) h2
/-- what is left is near the codeword, and e symbols are wrong -/
theorem Dm.near (hc : IsCode ws) (hl : ws.length = 12) (ho : Ord 12 o) {f : Nat} (hef : 2 * e + f ≤ 6) (h : Dm ws o e (e + f) l) :
    Up l ∧ Near (wordl (txt l)) ws ∧ (H.wrong (wordl (txt l)) ws).length = e := by
  have hmk := h.mks
  have hup : Up l := ⟨hmk.len, hmk.mod, by have := hmk.one; omega, by have := hmk.zero; omega⟩
  have hch : ∀ p : Nat, chunk (txt l) p = chunkL l p := fun p => H.chunk_txt l p
  -- the symbols
  have sSame : ∀ p : Nat, p < 12 → (∀ q, q < e + f → o.getD q 0 ≠ p) → (wordl (txt l)).getD p 0 = ws.getD p 0 := by
    intro p hp hq
    have hr := hc.range p (by omega)
    rw [H.wordl_getD _ _ hp, H.symb_of (by rw [hch, h.same p hp hq]) hr.1 hr.2]
  have sErr : ∀ q, q < e → (wordl (txt l)).getD (o.getD q 0).toNat 0 ≠ ws.getD (o.getD q 0).toNat 0 ∧ (wordl (txt l)).getD (o.getD q 0).toNat 0 ≠ -1 := by
    intro q hq
    have hg := ord_get ho (show q < 12 by omega)
    have hw := (h.err q (by omega) hq).symb
    rw [H.wordl_getD _ _ (by omega)]
    have e2 : symb (txt l) (o.getD q 0).toNat = accu (chunkL l (o.getD q 0).toNat) 5 := by
      unfold H.symb; rw [hch, hw.1]; rfl
    rw [e2]; exact ⟨hw.2.1, hw.2.2⟩
  have sErs : ∀ q, e ≤ q → q < e + f → (wordl (txt l)).getD (o.getD q 0).toNat 0 = -1 := by
    intro q hq1 hq2
    have hg := ord_get ho (show q < 12 by omega)
    rw [H.wordl_getD _ _ (by omega)]
    unfold H.symb; rw [hch, if_pos (List.contains_iff_mem.2 (h.ers q hq2 hq1))]
  have hwl := H.wordl_length (txt l)
  have hol := ho.len
  have mem_take : ∀ (n : Nat) (x : Int), x ∈ o.take n ↔ ∃ q, q < n ∧ q < 12 ∧ o.getD q 0 = x := by
    intro n x
    constructor
    · intro hx
      obtain ⟨q, hq, e2⟩ := List.getElem_of_mem hx
      rw [List.length_take] at hq
      refine ⟨q, by omega, by omega, ?_⟩
      rw [H.getD_eq (show q < o.length by omega), ← e2, List.getElem_take]
    · rintro ⟨q, h1, h2, e2⟩
      rw [H.getD_eq (show q < o.length by omega)] at e2
      rw [← e2]
      have : (o.take n)[q]'(by rw [List.length_take]; omega) = o[q] := List.getElem_take
      rw [← this]; exact List.getElem_mem _
  have natd : ∀ m : List Int, m.Nodup → (∀ x, x ∈ m → 0 ≤ x) → (m.map Int.toNat).Nodup := by
    intro m
    induction m with
    | nil => intro _ _; exact List.nodup_nil
    | cons a m ih =>
      intro hd hn
      have hd' := List.nodup_cons.1 hd
      rw [List.map_cons, List.nodup_cons]
      refine ⟨fun hm => ?_, ih hd'.2 fun x hx => hn x (List.mem_cons_of_mem _ hx)⟩
      obtain ⟨x, hx, e2⟩ := List.mem_map.1 hm
      have h1 := hn a (by simp)
      have h2 := hn x (List.mem_cons_of_mem _ hx)
      have : x = a := by omega
      exact hd'.1 (this ▸ hx)
  have hw1 : (H.wrong (wordl (txt l)) ws).length ≤ e := by
    have := Gf.length_le_of_subset (l := H.wrong (wordl (txt l)) ws) (m := (o.take e).map Int.toNat) (H.wrong_nodup _ _) (fun p hp => by
      obtain ⟨h1, h2, h3⟩ := H.mem_wrong.1 hp
      rw [hwl] at h1
      refine Decidable.byContradiction fun hne => ?_
      by_cases hq : ∃ q, q < e + f ∧ o.getD q 0 = (p : Int)
      · obtain ⟨q, hq1, hq2⟩ := hq
        by_cases hqe : q < e
        · exact hne (List.mem_map.2 ⟨(p : Int), (mem_take e _).2 ⟨q, hqe, by omega, hq2⟩, by omega⟩)
        · have := sErs q (by omega) hq1
          rw [hq2, Int.toNat_natCast] at this
          exact h2 this
      · exact h3 (sSame p h1 fun q hq1 hq2 => hq ⟨q, hq1, hq2⟩))
    rw [List.length_map, List.length_take] at this
    omega
  have hw2 : e ≤ (H.wrong (wordl (txt l)) ws).length := by
    have := Gf.length_le_of_subset (l := (o.take e).map Int.toNat) (m := H.wrong (wordl (txt l)) ws) (natd _ (ho.nodup.sublist (List.take_sublist _ _)) fun x hx => (ho.range x (List.mem_of_mem_take hx)).1) (fun p hp => by
      obtain ⟨x, hx, e2⟩ := List.mem_map.1 hp
      obtain ⟨q, h1, h2, e3⟩ := (mem_take e x).1 hx
      have hg := ord_get ho h2
      have := sErr q h1
      rw [e3, e2] at this
      exact H.mem_wrong.2 ⟨by rw [hwl]; omega, this.2, this.1⟩)
    rw [List.length_map, List.length_take] at this
    omega
  have he1 : (H.erased (wordl (txt l))).length ≤ f := by
    have := Gf.length_le_of_subset (l := H.erased (wordl (txt l))) (m := ((o.take (e + f)).drop e).map Int.toNat) (H.erased_nodup _) (fun p hp => by
      obtain ⟨h1, h2⟩ := H.mem_erased.1 hp
      rw [hwl] at h1
      refine Decidable.byContradiction fun hne => ?_
      by_cases hq : ∃ q, q < e + f ∧ o.getD q 0 = (p : Int)
      · obtain ⟨q, hq1, hq2⟩ := hq
        by_cases hqe : q < e
        · have := (sErr q hqe).2
          rw [hq2, Int.toNat_natCast] at this
          exact this h2
        · refine hne (List.mem_map.2 ⟨(p : Int), ?_, by omega⟩)
          have hlt : q - e < ((o.take (e + f)).drop e).length := by rw [List.length_drop, List.length_take]; omega
          have : ((o.take (e + f)).drop e)[q - e] = (p : Int) := by
            rw [List.getElem_drop, List.getElem_take]
            have e4 : e + (q - e) = q := by omega
            simp only [e4]
            rw [← hq2, H.getD_eq (show q < o.length by omega)]
          rw [← this]; exact List.getElem_mem _
      · have := sSame p h1 fun q hq1 hq2 => hq ⟨q, hq1, hq2⟩
        rw [h2] at this
        have := hc.range p (by omega)
        omega)
    rw [List.length_map, List.length_drop, List.length_take] at this
    omega
  refine ⟨hup, ⟨hc, by rw [hwl, hl], fun p hp => ?_, by omega⟩, by omega⟩
  rw [hwl] at hp
  rw [H.wordl_getD _ _ hp]
  exact H.symb_range hup p hp
end Go.Proofs.YtcpmgkedmmiioaaDoor.T
end

section
set_option linter.unusedVariables false
namespace Go.Proofs.YtcpmgkedmmiioaaDoor.Pure
open Go.RowKit Go.Proofs.YtcpmgkedmmiioaaDoor.P Go.Proofs.YtcpmgkedmmiioaaDoorW.PrintWords Go.Proofs.YtcpmgkedmmiioaaDoorW.PrintLast Go.Proofs.YtcpmgkedmmiioaaDoor.T
open H (txt Up isStrip beginsf wordl stripl Near IsCode labelf symf bad31 encf mods isMod accu symb chunk)
/-- what stays while the strip is damaged -/
structure Cx (ws : List Int) (a b c d : Int) : Prop where
  code : IsCode ws
  len : ws.length = 12
  lab : labelf a b c d = true
  six : ws.take 6 = symf a b c d
variable {ws : List Int} {a b c d : Int}
theorem zero_cast : ((0 : Nat) : Int) = 0 := rfl
theorem at_eq (pp : Nat) (h : pp < 12) : wrap64 (7 + wrap64 (5 * (pp : Int))) = ((7 + pp * 5 : Nat) : Int) := by unfold wrap64; omega
theorem inc_eq (i : Nat) (h : i < 1000) : wrap64 ((i : Int) + 1) = ((i + 1 : Nat) : Int) := by unfold wrap64; omega
theorem add_eq (a b : Nat) (h : a < 1000) (h2 : b < 1000) : wrap64 ((a : Int) + (b : Int)) = ((a + b : Nat) : Int) := by unfold wrap64; omega
theorem mark_eq (n : Nat) (h : n < 7) : wrap64 (67 + (n : Int)) = ((67 + n : Nat) : Int) := by unfold wrap64; omega
theorem last {o : List Int} {t : List Int} {p : Int} (hx : Cx ws a b c d) (ho : Ord 12 o) {e f : Nat} (hef : 2 * e + f ≤ 6) (down : Bool) {l : List UInt8} (h : Dm ws o e (e + f) l) :
    awardingbodylaw19_StripSurvives.l1 1 (e : Int) (f : Int) down (txt l) o ((e + f : Nat) : Int) t p a b c d = some true := by
  obtain ⟨hup, hnear, hw⟩ := h.near hx.code hx.len ho hef
  have key : ∀ s, strip_Upright.f s = some (txt l, 0) → strip_Read.f s = some (a, b, c, d, (e : Int), 0) := by
    intro s hs
    have := read_up hs hup hx.len hnear
    rw [hw, hx.six, readr_symf hx.lab] at this
    exact this
  rw [awardingbodylaw19_StripSurvives.l1]
  have hwr := add_eq e f (by omega) (by omega)
  rw [hwr, if_neg (by omega)]
  cases down with
  | true =>
    rw [if_pos rfl, flip_f l (by have := hup.len; omega)]
    simp only [Option.bind_some]
    rw [key _ (upright_flip hup)]
    simp [awake_true]
  | false =>
    rw [if_neg (by simp), key _ (upright hup)]
    simp [awake_true]
theorem inner {o t : List Int} (hx : Cx ws a b c d) (ho : Ord 12 o) {e f i pp first : Nat} (hi : i < e + f) (hef : 2 * e + f ≤ 6) (down : Bool) (hp : o.getD i 0 = pp) (hf : first < 5)
    (next : ∀ (l : List UInt8) (p : Int), T.Tape t p → Dm ws o e (i + 1) l → ∃ k, awardingbodylaw19_StripSurvives.l1 k (e : Int) (f : Int) down (txt l) o ((i + 1 : Nat) : Int) t p a b c d = some true) :
    ∀ j k, k + j = 5 → ∀ (l : List UInt8) (p : Int), T.Tape t p → In ws o e i pp first k l →
    ∃ n, awardingbodylaw19_StripSurvives.l2 n (e : Int) (f : Int) down (txt l) o (i : Int) ((7 + pp * 5 : Nat) : Int) (first : Int) (k : Int) t p a b c d = some true := by
  have hi12 : i < 12 := by omega
  have hpp : pp < 12 := by have := (ord_get ho hi12).2; omega
  intro j
  induction j with
  | zero =>
    intro k hk l p ht h
    obtain rfl : k = 5 := by omega
    obtain ⟨n, hn⟩ := next l p ht (h.leave ho hi12 hp hf)
    refine ⟨n + 1, ?_⟩
    rw [awardingbodylaw19_StripSurvives.l2]
    rw [if_neg (by omega)]
    have e1 := inc_eq i (by omega)
    rw [e1]; exact hn
  | succ j ih =>
    intro k hk l p ht h
    have e1 := inc_eq k (by omega)
    have e2 := add_eq (7 + pp * 5) k (by omega) (by omega)
    -- the module is changed
    have hit : ∀ q, T.Tape t q → ∃ n, awardingbodylaw19_StripSurvives.j4 n (e : Int) (f : Int) down (txt l) o (i : Int) ((7 + pp * 5 : Nat) : Int) (first : Int) (k : Int) false t q a b c d = some true := by
      intro q hq
      have hl := h.mks.len
      have hlt : 7 + pp * 5 + k < l.length := by omega
      by_cases hie : i < e
      · obtain ⟨n, hn⟩ := ih (k + 1) (by omega) _ q hq (h.hit ho hi12 hp (by omega) hf 0 (by rw [if_pos hie]))
        refine ⟨n + 1, ?_⟩
        rw [awardingbodylaw19_StripSurvives.j4]
        rw [if_neg (by simp), if_pos (by omega), e2, change_f (by omega) hlt 0]
        simp only [Option.bind_some]
        rw [e1]; exact hn
      · obtain ⟨n, hn⟩ := ih (k + 1) (by omega) _ q hq (h.hit ho hi12 hp (by omega) hf 1 (by rw [if_neg hie]))
        refine ⟨n + 1, ?_⟩
        rw [awardingbodylaw19_StripSurvives.j4]
        rw [if_neg (by simp), if_neg (by omega), e2, change_f (by omega) hlt 1]
        simp only [Option.bind_some]
        rw [e1]; exact hn
    by_cases hkf : k = first
    · obtain ⟨n, hn⟩ := hit p ht
      refine ⟨n + 1, ?_⟩
      rw [awardingbodylaw19_StripSurvives.l2]
      rw [if_pos (by omega), if_pos (by omega)]; exact hn
    · obtain ⟨x, q, hx2, hq, _, _⟩ := T.next ht (show (1 : Int) ≤ 2 by omega) (by omega)
      by_cases h0 : x = 0
      · obtain ⟨n, hn⟩ := ih (k + 1) (by omega) l q hq (h.skip hkf)
        refine ⟨n + 2, ?_⟩
        rw [awardingbodylaw19_StripSurvives.l2]
        rw [if_pos (by omega), if_neg (by omega), hx2]
        simp only [Option.bind_some]
        rw [h0]
        rw [awardingbodylaw19_StripSurvives.j4]
        rw [if_pos (by rfl), e1]; exact hn
      · obtain ⟨n, hn⟩ := hit q hq
        refine ⟨n + 1, ?_⟩
        rw [awardingbodylaw19_StripSurvives.l2]
        rw [if_pos (by omega), if_neg (by omega), hx2]
        simp only [Option.bind_some]
        rw [show (x == 0) = false by simp [h0]]; exact hn
theorem outer {o t : List Int} (hx : Cx ws a b c d) (ho : Ord 12 o) {e f : Nat} (hef : 2 * e + f ≤ 6) (down : Bool) :
    ∀ j i, i + j = e + f → ∀ (l : List UInt8) (p : Int), T.Tape t p → Dm ws o e i l →
    ∃ k, awardingbodylaw19_StripSurvives.l1 k (e : Int) (f : Int) down (txt l) o (i : Int) t p a b c d = some true := by
  intro j
  induction j with
  | zero =>
    intro i hi l p ht h
    obtain rfl : i = e + f := by omega
    exact ⟨1, last hx ho hef down h⟩
  | succ j ih =>
    intro i hi l p ht h
    have hol := ho.len
    obtain ⟨x, q, hx2, hq, h0, h5⟩ := T.next ht (show (1 : Int) ≤ 5 by omega) (by omega)
    obtain ⟨first, rfl⟩ : ∃ first : Nat, x = first := ⟨x.toNat, by omega⟩
    have hg := ord_get ho (show i < 12 by omega)
    obtain ⟨pp, hpp⟩ : ∃ pp : Nat, o.getD i 0 = pp := ⟨(o.getD i 0).toNat, by omega⟩
    have hr := hx.code.range pp (by have := hx.len; omega)
    obtain ⟨n, hn⟩ := inner (t := t) hx ho (i := i) (by omega) hef down hpp (show first < 5 by omega) (fun l p ht h => ih (i + 1) (by omega) l p ht h) 5 0 rfl l q hq (h.enter ho (by omega) hpp hr first)
    refine ⟨n + 1, ?_⟩
    rw [awardingbodylaw19_StripSurvives.l1]
    have hwr := add_eq e f (by omega) (by omega)
    rw [hwr, if_pos (by omega), if_pos (by omega), if_pos (by omega), hx2]
    simp only [Option.bind_some]
    have e1 : rd o (i : Int) = (pp : Int) := by rw [← hpp]; simp [rd]
    have hpp12 : pp < 12 := by omega
    rw [e1, at_eq pp hpp12]; exact hn
theorem mono_l1 (k : Nat) (j : Nat) {x1 x2 : Int} {x3 : Bool} {x11 : ByteArray} {x14 : List Int} {x15 : Int} {t : List Int} {p : Int} (h : awardingbodylaw19_StripSurvives.l1 k x1 x2 x3 x11 x14 x15 t p a b c d = some true) :
    awardingbodylaw19_StripSurvives.l1 (k + j) x1 x2 x3 x11 x14 x15 t p a b c d = some true := by
  induction j with
  | zero => exact h
  | succ j ih => exact (awardingbodylaw19_StripSurvives.mono_l (k + j)).2.2.1 _ _ _ _ _ _ _ _ _ _ _ _ _ ih
theorem order_up {t : List Int} {p : Int} (k j : Nat) {r : List Int × Int} (h : awardingbodymake_Tape_Order.f k t p 12 = some r) : awardingbodymake_Tape_Order.f (k + j) t p 12 = some r := by
  induction j with
  | zero => exact h
  | succ j ih => exact awardingbodymake_Tape_Order.mono _ _ _ (k + j) _ ih
theorem order_up' {t : List Int} {p : Int} (k j : Nat) {r : List Int × Int} (h : awardingbodymake_Tape_Order.f k t p 12 = some r) : awardingbodymake_Tape_Order.f (j + k) t p 12 = some r := by
  rw [Nat.add_comm]; exact order_up k j h
theorem marks_end {K : Nat} {e f : Nat} {down : Bool} {l : List UInt8} {o t : List Int} {p q : Int} (h2 : awardingbodymake_Tape_Order.f K t p 12 = some (o, q)) (h3 : awardingbodylaw19_StripSurvives.l1 K (e : Int) (f : Int) down (txt l) o 0 t q a b c d = some true) :
    awardingbodylaw19_StripSurvives.l0 (K + 1) (e : Int) (f : Int) down (txt l) ((3 : Nat) : Int) t p a b c d = some true := by
  rw [awardingbodylaw19_StripSurvives.l0]
  rw [if_neg (by omega)]
  rw [h2]
  simp only [Option.bind_some]
  exact h3
theorem marks {t : List Int} (hx : Cx ws a b c d) {e f : Nat} (hef : 2 * e + f ≤ 6) (down : Bool) :
    ∀ j i, i + j = 3 → ∀ (l : List UInt8) (p : Int), T.Tape t p → Mk l i → (∀ q, q < 12 → chunkL l q = mods (ws.getD q 0)) →
    ∃ k, awardingbodylaw19_StripSurvives.l0 k (e : Int) (f : Int) down (txt l) (i : Int) t p a b c d = some true := by
  intro j
  induction j with
  | zero =>
    intro i hi l p ht hm hch
    obtain rfl : i = 3 := by omega
    obtain ⟨o, q, h1, hq, ho⟩ := T.order 12 (by omega) ht
    rw [show ((12 : Nat) : Int) = 12 from rfl, show 12 + 1 = 13 from rfl] at h1
    obtain ⟨k, hk⟩ := outer (t := t) hx ho hef down (e + f) 0 (by omega) l q hq ⟨hm, fun p hp _ => hch p hp, fun q hq => by omega, fun q hq => by omega⟩
    exact ⟨_, marks_end (order_up' 13 k h1) (mono_l1 k 13 (by rw [zero_cast] at hk; exact hk))⟩
  | succ j ih =>
    intro i hi l p ht hm hch
    have hl := hm.len
    obtain ⟨x1, q1, e1, t1, a0, a1⟩ := T.next ht (show (1 : Int) ≤ 7 by omega) (by omega)
    obtain ⟨x2, q2, e2, t2, b0, b1⟩ := T.next t1 (show (1 : Int) ≤ 2 by omega) (by omega)
    obtain ⟨x3, q3, e3, t3, c0, c1⟩ := T.next t2 (show (1 : Int) ≤ 7 by omega) (by omega)
    obtain ⟨x4, q4, e4, t4, d0, d1⟩ := T.next t3 (show (1 : Int) ≤ 2 by omega) (by omega)
    obtain ⟨n1, rfl⟩ : ∃ n : Nat, x1 = n := ⟨x1.toNat, by omega⟩
    obtain ⟨n3, rfl⟩ : ∃ n : Nat, x3 = n := ⟨x3.toNat, by omega⟩
    have hm2 := hm.front (i := n1) (k := 67 + n3) (nb_mod l n1 x2) (nb_mod (l.set n1 (nb l n1 x2)) (67 + n3) x4) (by omega) (by omega)
    obtain ⟨k, hk⟩ := ih (i + 1) (by omega) _ q4 t4 hm2 (fun q hq => by rw [chunk_other (by omega), chunk_other (by omega)]; exact hch q hq)
    refine ⟨k + 1, ?_⟩
    rw [awardingbodylaw19_StripSurvives.l0]
    rw [if_pos (by omega), e1]
    simp only [Option.bind_some]
    rw [e2]
    simp only [Option.bind_some]
    rw [change_f (by omega) (show n1 < l.length by omega) x2]
    simp only [Option.bind_some]
    rw [e3]
    simp only [Option.bind_some]
    rw [e4]
    simp only [Option.bind_some]
    have w1 := mark_eq n3 (by omega)
    rw [w1, change_f (by rw [List.length_set]; omega) (show 67 + n3 < (l.set n1 (nb l n1 x2)).length by rw [List.length_set]; omega) x4]
    simp only [Option.bind_some]
    have w2 := inc_eq i (by omega)
    rw [w2]; exact hk
theorem start_end {k : Nat} {e f : Nat} {down : Bool} {s : ByteArray} {t : List Int} {q a1 a2 : Int} (h : awardingbodylaw19_StripSurvives.l0 k (e : Int) (f : Int) down s 0 t q a b c d = some true)
    (he : awardingbodymake_Cut.f a1 4 = some (e : Int)) (hf : awardingbodymake_Cut.f a2 (wrap64 (7 - wrap64 (2 * (e : Int)))) = some (f : Int)) :
    awardingbodylaw19_StripSurvives.j0 (k + 1) a1 a2 down s false t q a b c d = some true := by
  rw [awardingbodylaw19_StripSurvives.j0]
  rw [if_neg Bool.false_ne_true, he, Option.bind_some, hf, Option.bind_some]
  exact h
theorem f_step {k : Nat} {l0 t : List Int} {q a1 a2 : Int} {a3 : Bool} {s : ByteArray} (hnew : awardingbodymake_New.f l0 = some (t, 0)) (hlab : awardingbodymake_Tape_Label.f t 0 0 = some (a, b, c, d, q)) (hd : strip_Draw.f a b c d = some (s, 0))
    (hs : ((s.size : Int) != 74) = false) (h : awardingbodylaw19_StripSurvives.j0 k a1 a2 a3 s false t q a b c d = some true) : awardingbodylaw19_StripSurvives.f k l0 a1 a2 a3 = some true := by
  unfold awardingbodylaw19_StripSurvives.f
  rw [hnew]
  simp only [Option.bind_some]
  rw [hlab]
  simp only [Option.bind_some]
  rw [hd]
  simp only [Option.bind_some, if_true]
  rw [hs]
  exact h
theorem StripSurvives : awardingbodylaw19_StripSurvives.Pure := by
  intro l0 a1 a2 a3 _ _ wl w1 w2
  obtain ⟨t, hnew, ht⟩ := T.new wl
  obtain ⟨a, b, c, d, q, hlab, hq, hL⟩ := T.label ht
  obtain ⟨ws, hd, hc, hwl, h6⟩ := draw hL
  have hup := code_up hc hwl
  have hx : Cx ws a b c d := ⟨hc, hwl, hL, h6⟩
  obtain ⟨e, he⟩ : ∃ e : Nat, a1 % 4 = e := ⟨(a1 % 4).toNat, by omega⟩
  have he3 : e ≤ 3 := by omega
  obtain ⟨f, hf⟩ : ∃ f : Nat, a2 % (7 - 2 * (e : Int)) = f := ⟨(a2 % (7 - 2 * (e : Int))).toNat, by
    have := Int.emod_nonneg a2 (show 7 - 2 * (e : Int) ≠ 0 by omega); omega⟩
  have hef : 2 * e + f ≤ 6 := by
    have := Int.emod_lt_of_pos a2 (show 0 < 7 - 2 * (e : Int) by omega); omega
  have hm : Mk (stripl ws) 0 := ⟨hup.len, hup.mod, by rw [H.stripl_take]; decide, by rw [H.stripl_drop ws hwl]; decide⟩
  obtain ⟨k, hk⟩ := marks (t := t) hx hef a3 3 0 rfl (stripl ws) q hq hm (fun p hp => H.stripl_chunk ws hwl p hp)
  have h74 : (((txt (stripl ws)).size : Int) != 74) = false := by rw [H.txt_size, hup.len]; decide
  have e1 : wrap64 (7 - wrap64 (2 * (e : Int))) = 7 - 2 * (e : Int) := by unfold wrap64; omega
  rw [zero_cast] at hk
  exact ⟨k + 1, f_step hnew hlab hd h74 (start_end hk (by rw [cut (wf_num w1) (by omega) (by omega), he]) (by rw [e1, cut (wf_num w2) (by omega) (by omega), hf]))⟩
end Go.Proofs.YtcpmgkedmmiioaaDoor.Pure
end
