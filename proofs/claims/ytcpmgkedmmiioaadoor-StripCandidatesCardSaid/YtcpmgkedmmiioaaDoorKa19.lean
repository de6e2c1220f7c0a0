/- stripCandidates_card, part 19: what the row's proof needs: words of the print, contracts of functions, the plain law. -/
import Derived.OpenShut
import Derived.Test.YtcpmgkedmmiioaaDoorKa3
import Derived.Test.YtcpmgkedmmiioaaDoorKa18
import Derived.Test.YtcpmgkedmmiioaaDoorKa16
import Derived.Test.YtcpmgkedmmiioaaDoorKa17
section
set_option linter.unusedVariables false
namespace Go.Proofs.YtcpmgkedmmiioaaDoor.T
open Go.RowKit Go.Proofs.YtcpmgkedmmiioaaDoor.P Go.Proofs.YtcpmgkedmmiioaaDoorW.PrintWords Go.Proofs.YtcpmgkedmmiioaaDoorW.PrintLast
/-- a tape: numbers of int's range, read up to p -/
structure Tape (l : List Int) (p : Int) : Prop where
  len : l.length ≤ 600
  lo : 0 ≤ p
  hi : p ≤ l.length
  num : ∀ x, x ∈ l → -9223372036854775808 ≤ x ∧ x ≤ 9223372036854775807
theorem wf_num {x : Int} (h : (Lit.int .i64 x).wf = true) : -9223372036854775808 ≤ x ∧ x ≤ 9223372036854775807 := bounds_i64 h
theorem rd_getElem (l : List Int) (i : Int) (h0 : 0 ≤ i) (h : i < l.length) : ∃ h', rd l i = l[i.toNat]'h' := by
  have h' : i.toNat < l.length := by omega
  exact ⟨h', by simp [rd, h']⟩
theorem rd_mem {l : List Int} {i : Int} (h0 : 0 ≤ i) (h : i < l.length) : rd l i ∈ l := by
  obtain ⟨h', e⟩ := rd_getElem l i h0 h
  rw [e]; exact List.getElem_mem h'
theorem cut {x n : Int} (hx : -9223372036854775808 ≤ x ∧ x ≤ 9223372036854775807) (h1 : 1 ≤ n) (hn : n ≤ 9223372036854775807) : awardingbodymake_Cut.f x n = some (x % n) := by
  unfold awardingbodymake_Cut.f
  rw [if_neg (by omega), if_neg (by omega)]
  have hm0 := Int.emod_nonneg x (show n ≠ 0 by omega)
  have hm1 := Int.emod_lt_of_pos x (show 0 < n by omega)
  by_cases h : x < 0
  · have e : Int.tmod x n = -((-x) % n) := by
      obtain ⟨y, rfl⟩ : ∃ y, x = -y := ⟨-x, by omega⟩
      rw [Int.neg_tmod, Int.neg_neg, Int.tmod_eq_emod_of_nonneg (by omega)]
    have hk0 := Int.emod_nonneg (-x) (show n ≠ 0 by omega)
    have hk1 := Int.emod_lt_of_pos (-x) (show 0 < n by omega)
    rw [e]
    by_cases hz : (-x) % n = 0
    · rw [if_neg (by omega)]
      have : x % n = 0 := by
        have := Int.dvd_of_emod_eq_zero hz
        exact Int.emod_eq_zero_of_dvd ((Int.dvd_neg).1 this)
      rw [this, hz]; rfl
    · rw [if_pos (by omega)]
      have hw : wrap64 (-((-x) % n) + n) = -((-x) % n) + n := by unfold wrap64; omega
      rw [hw]
      congr 1
      have h3 : (-((-x) % n) + n) % n = -((-x) % n) + n := Int.emod_eq_of_lt (by omega) (by omega)
      rw [← h3]
      have h4 : (-x) = n * ((-x) / n) + (-x) % n := (Int.mul_ediv_add_emod (-x) n).symm
      have h5 : -((-x) % n) + n = x + n * ((-x) / n + 1) := by rw [Int.mul_add, Int.mul_one]; omega
      rw [h5, Int.add_mul_emod_self_left]
  · have e : Int.tmod x n = x % n := Int.tmod_eq_emod_of_nonneg (by omega)
    rw [e, if_neg (by omega)]
theorem raw {l : List Int} {p : Int} (h : Tape l p) : ∃ x q, awardingbodymake_Tape_Raw.f l p = some (x, q) ∧ Tape l q ∧ -9223372036854775808 ≤ x ∧ x ≤ 9223372036854775807 := by
  have h1 := h.lo
  have h2 := h.hi
  have h3 := h.len
  unfold awardingbodymake_Tape_Raw.f
  by_cases hp : p ≥ (l.length : Int)
  · rw [if_pos hp]; exact ⟨0, p, rfl, h, by omega, by omega⟩
  · rw [if_neg hp]
    have e1 : wrap64 (p + 1) = p + 1 := by unfold wrap64; omega
    have e2 : wrap64 (p + 1 - 1) = p := by unfold wrap64; omega
    rw [e1, e2, if_pos h1, if_pos (by omega)]
    have := h.num _ (rd_mem h1 (by omega : p < l.length))
    exact ⟨_, _, rfl, ⟨h3, by omega, by omega, h.num⟩, this.1, this.2⟩
theorem next {l : List Int} {p n : Int} (h : Tape l p) (h1 : 1 ≤ n) (hn : n ≤ 9223372036854775807) : ∃ x q, awardingbodymake_Tape_Next.f l p n = some (x, q) ∧ Tape l q ∧ 0 ≤ x ∧ x < n := by
  obtain ⟨x, q, e, hq, hx⟩ := raw h
  unfold awardingbodymake_Tape_Next.f
  rw [e]
  simp only [Option.bind_some]
  rw [cut hx h1 hn]
  exact ⟨_, _, rfl, hq, Int.emod_nonneg x (by omega), Int.emod_lt_of_pos x (by omega)⟩
theorem range {l : List Int} {p : Int} (h : Tape l p) (a b : Int) (ha : 0 ≤ a) (hb : a ≤ b) (hb2 : b ≤ 1000000) : ∃ x q, awardingbodymake_Tape_Range.f l p a b = some (x, q) ∧ Tape l q ∧ a ≤ x ∧ x ≤ b := by
  unfold awardingbodymake_Tape_Range.f
  have e : wrap64 (wrap64 (b - a) + 1) = b - a + 1 := by unfold wrap64; omega
  rw [e]
  obtain ⟨x, q, e, hq, h0, h1⟩ := next h (show 1 ≤ b - a + 1 by omega) (by omega)
  rw [e]
  simp only [Option.bind_some]
  have e2 : wrap64 (a + x) = a + x := by unfold wrap64; omega
  rw [e2]
  exact ⟨_, _, rfl, hq, by omega, by omega⟩
end Go.Proofs.YtcpmgkedmmiioaaDoor.T
end

section
set_option linter.unusedVariables false
namespace Go.Proofs.YtcpmgkedmmiioaaDoor.T
open Go.RowKit Go.Proofs.YtcpmgkedmmiioaaDoor.P Go.Proofs.YtcpmgkedmmiioaaDoorW.PrintWords Go.Proofs.YtcpmgkedmmiioaaDoorW.PrintLast
open H (txt Up isStrip beginsf wordl stripl Near IsCode labelf symf bad31 encf)
theorem bad31_false {x : Int} (h : bad31 x = false) : 0 ≤ x ∧ x ≤ 31 := by
  unfold H.bad31 at h
  rw [Bool.or_eq_false_iff, decide_eq_false_iff_not, decide_eq_false_iff_not] at h
  omega
theorem label_range {a b c d : Int} (h : labelf a b c d = true) : (0 ≤ a ∧ a ≤ 31) ∧ (0 ≤ b ∧ b ≤ 9999) ∧ (0 ≤ c ∧ c ≤ 31) ∧ (0 ≤ d ∧ d ≤ 31) := by
  unfold H.labelf at h
  simp only [Bool.and_eq_true, Bool.not_eq_true', decide_eq_true_eq] at h
  obtain ⟨⟨⟨⟨h1, h2⟩, h3⟩, h4⟩, h5⟩ := h
  exact ⟨bad31_false h1, ⟨h4, h5⟩, bad31_false h2, bad31_false h3⟩
theorem labelf_of {a b c d : Int} (h1 : 0 ≤ a ∧ a ≤ 31) (h2 : 0 ≤ b ∧ b ≤ 9999) (h3 : 0 ≤ c ∧ c ≤ 31) (h4 : 0 ≤ d ∧ d ≤ 31) : labelf a b c d = true := by
  have hn : ∀ x : Int, 0 ≤ x → x ≤ 31 → bad31 x = false := by
    intro x h0 h1; unfold H.bad31; rw [Bool.or_eq_false_iff, decide_eq_false_iff_not, decide_eq_false_iff_not]; omega
  unfold H.labelf
  rw [hn a h1.1 h1.2, hn c h3.1 h3.2, hn d h4.1 h4.2, decide_eq_true h2.1, decide_eq_true h2.2]; rfl
theorem six_range {x : Nat → Int} (h : ∀ i, i < 6 → 0 ≤ x i ∧ x i ≤ 31) : ∀ i, i < ([x 0, x 1, x 2, x 3, x 4, x 5] : List Int).length → 0 ≤ ([x 0, x 1, x 2, x 3, x 4, x 5] : List Int).getD i 0 ∧ ([x 0, x 1, x 2, x 3, x 4, x 5] : List Int).getD i 0 ≤ 31 := by
  intro i hi
  simp only [List.length_cons, List.length_nil] at hi
  rcases (show i = 0 ∨ i = 1 ∨ i = 2 ∨ i = 3 ∨ i = 4 ∨ i = 5 by omega) with rfl | rfl | rfl | rfl | rfl | rfl
  · exact h 0 (by omega)
  · exact h 1 (by omega)
  · exact h 2 (by omega)
  · exact h 3 (by omega)
  · exact h 4 (by omega)
  · exact h 5 (by omega)
/-- the word of six symbols -/
theorem word_six {d : List Int} (hl : d.length = 6) (hr : ∀ i, i < d.length → 0 ≤ d.getD i 0 ∧ d.getD i 0 ≤ 31) : (encf d).2 = 0 ∧ IsCode (encf d).1 ∧ (encf d).1.length = 12 ∧ (encf d).1.take 6 = d := by
  obtain ⟨h1, h2, h3, h4⟩ := H.encf_code (d := d) (by omega) (by omega) hr
  refine ⟨h1, h2, by rw [h3, hl], H.lists_ext (by rw [List.length_take, h3, hl]; rfl) fun i hi => ?_⟩
  rw [List.length_take] at hi
  rw [List.getD_eq_getElem?_getD, List.getElem?_take, if_pos (by omega), ← List.getD_eq_getElem?_getD, h4 i (by omega)]
theorem symf_range {a b c d : Int} (h : labelf a b c d = true) : ∀ i, i < (symf a b c d).length → 0 ≤ (symf a b c d).getD i 0 ∧ (symf a b c d).getD i 0 ≤ 31 := by
  obtain ⟨h1, h2, h3, h4⟩ := label_range h
  have := six_range (x := fun i => if i = 0 then a else if i = 1 then b / 1024 else if i = 2 then b / 32 % 32 else if i = 3 then b % 32 else if i = 4 then c else d) (fun i hi => by
    rcases (show i = 0 ∨ i = 1 ∨ i = 2 ∨ i = 3 ∨ i = 4 ∨ i = 5 by omega) with rfl | rfl | rfl | rfl | rfl | rfl <;> simp <;> omega)
  exact this
theorem symf_cand {a b c d : Int} (h : labelf a b c d = true) : cand (symf a b c d) = b := by
  obtain ⟨_, h2, _⟩ := label_range h
  show b / 1024 * 1024 + b / 32 % 32 * 32 + b % 32 = b
  omega
/-- DRAW: the strip of a codeword that begins with the label's symbols -/
theorem draw {a b c d : Int} (h : labelf a b c d = true) : ∃ ws, strip_Draw.f a b c d = some (txt (stripl ws), 0) ∧ IsCode ws ∧ ws.length = 12 ∧ ws.take 6 = symf a b c d := by
  obtain ⟨_, h2, h3, h4⟩ := word_six (d := symf a b c d) rfl (symf_range h)
  refine ⟨_, ?_, h2, h3, h4⟩
  unfold strip_Draw.f H.drawr
  rw [if_pos h]; rfl
theorem code_up {ws : List Int} (h : IsCode ws) (hl : ws.length = 12) : Up (stripl ws) := H.stripl_up ws hl h.range
theorem near_self {ws : List Int} (h : IsCode ws) : Near ws ws ∧ (H.wrong ws ws).length = 0 := by
  have hw : H.wrong ws ws = [] := by
    unfold H.wrong; rw [List.filter_eq_nil_iff]; intro i _; simp
  have he : H.erased ws = [] := by
    unfold H.erased; rw [List.filter_eq_nil_iff]
    intro i hi
    have := h.range i (List.mem_range.1 hi)
    simp only [decide_eq_true_eq]; omega
  refine ⟨⟨h, rfl, fun i hi => by have := h.range i hi; omega, by rw [hw, he]; simp⟩, by rw [hw]; rfl⟩
theorem readr_symf {a b c d : Int} (h : labelf a b c d = true) (n : Int) : readr (symf a b c d) n = (a, b, c, d, n, 0) := by
  unfold readr
  rw [symf_cand h]
  show (if labelf a b c d = true then (a, b, c, d, n, 0) else (0, 0, 0, 0, 0, 2)) = _
  rw [if_pos h]
/-- READ of an undamaged strip, from both sides -/
theorem read_clean {ws : List Int} (h : IsCode ws) (hl : ws.length = 12) : strip_Read.f (txt (stripl ws)) = some (readr (ws.take 6) 0) ∧ strip_Read.f (txt (stripl ws).reverse) = some (readr (ws.take 6) 0) := by
  have hu := code_up h hl
  have hw : wordl (txt (stripl ws)) = ws := H.wordl_stripl ws hl h.range
  obtain ⟨hn, h0⟩ := near_self h
  have key : ∀ t, strip_Upright.f t = some (txt (stripl ws), 0) → strip_Read.f t = some (readr (ws.take 6) 0) := by
    intro t ht
    have := read_up ht hu hl (by rw [hw]; exact hn)
    rw [hw, h0] at this
    exact this
  exact ⟨key _ (upright hu), key _ (upright_flip hu)⟩
theorem take8 {ws : List Int} (hl : ws.length = 12) (h0 : ws.getD 0 0 = 0) : (stripl ws).take 8 = [49, 49, 49, 49, 49, 49, 49, 48] := by
  have e : (stripl ws).take 8 = (stripl ws).take 7 ++ (((stripl ws).drop (7 + 0 * 5)).take 5).take 1 := by
    rw [List.take_take, show min 1 5 = 1 from rfl, show 7 + 0 * 5 = 7 from rfl, ← List.take_add]
  rw [e, H.stripl_take, H.stripl_chunk ws hl 0 (by omega), h0]
  decide
theorem awake_true : awardingbodylaw19_awake.f = some true := by
  have hA : labelf 3 9999 2 1 = true := by decide
  have hB : labelf 0 0 0 0 = true := by decide
  obtain ⟨ws, hd, hc, hl, ht⟩ := draw hA
  obtain ⟨wz, hd2, hc2, hl2, ht2⟩ := draw hB
  have hr := (read_clean hc hl).2
  rw [ht, readr_symf hA] at hr
  have h74 := (code_up hc hl).len
  have h742 := (code_up hc2 hl2).len
  unfold awardingbodylaw19_awake.f
  rw [hd]
  simp only [Option.bind_some]
  rw [flip_f _ (by omega)]
  simp only [Option.bind_some]
  rw [hr]
  simp only [Option.bind_some]
  rw [hd2]
  simp only [Option.bind_some]
  rw [H.txt_size, H.txt_size, h74, h742]
  have hz : wz.getD 0 0 = 0 := by
    have : (wz.take 6).getD 0 0 = (symf 0 0 0 0).getD 0 0 := by rw [ht2]
    rw [List.getD_eq_getElem?_getD, List.getElem?_take, if_pos (by omega), ← List.getD_eq_getElem?_getD] at this
    rw [this]; rfl
  have h8 : ((txt (stripl wz)).extract 0 8).toList = [49, 49, 49, 49, 49, 49, 49, 48] := by
    rw [ByteArray.toList_eq, ByteArray.data_extract, Array.toList_extract, List.extract_eq_take_drop, H.txt_list]
    exact take8 hl2 hz
  rw [h8]
  decide
end Go.Proofs.YtcpmgkedmmiioaaDoor.T
end

section
set_option linter.unusedVariables false
namespace Go.Proofs.YtcpmgkedmmiioaaDoor.Pure
open Go.RowKit Go.Proofs.YtcpmgkedmmiioaaDoor.P Go.Proofs.YtcpmgkedmmiioaaDoorW.PrintWords Go.Proofs.YtcpmgkedmmiioaaDoorW.PrintLast Go.Proofs.YtcpmgkedmmiioaaDoor.T
open H (txt Up isStrip beginsf wordl stripl Near IsCode labelf symf bad31 encf mods body)
theorem modules_dec : ∀ x : Fin 32, (awardingbodyref19_Modules.f 10 (x.val : Int)).map (fun s => s.data.toList) = some (mods (x.val : Int)) := by decide +kernel
theorem modules {x : Int} (h0 : 0 ≤ x) (h1 : x ≤ 31) : awardingbodyref19_Modules.f 10 x = some (txt (mods x)) := by
  have := modules_dec ⟨x.toNat, by omega⟩
  simp only at this
  rw [Int.toNat_of_nonneg h0] at this
  obtain ⟨s, hs, he⟩ := Option.map_eq_some_iff.1 this
  rw [hs, ← he, H.txt_of]
theorem txt_append (l m : List UInt8) : txt l ++ txt m = txt (l ++ m) := by
  apply ByteArray.ext
  simp [txt]
theorem modules_up {x : Int} (h0 : 0 ≤ x) (h1 : x ≤ 31) {k : Nat} (hk : 10 ≤ k) : awardingbodyref19_Modules.f k x = some (txt (mods x)) := by
  have h := modules h0 h1
  obtain ⟨j, rfl⟩ : ∃ j, k = 10 + j := ⟨k - 10, by omega⟩
  clear hk
  induction j with
  | zero => exact h
  | succ j ih => exact awardingbodyref19_Modules.mono x (10 + j) _ ih
theorem loop_end (c p : Int) (ws : List Int) (hc : IsCode ws) (hl : ws.length = 12) (h6 : ws.take 6 = [1, c / 1024, c / 32 % 32, c % 32, p, 0]) (hc0 : 0 ≤ c) (hc1 : c ≤ 32767) (hp0 : 0 ≤ p) (hp1 : p ≤ 31) : ∀ j i, i + j = 12 →
    awardingbodylaw19_StripCandidates.l0 (j + 12) c p ws 0 (txt (body ws i)) (i : Int) = some true := by
  intro j
  induction j with
  | zero =>
    intro i hi
    obtain rfl : i = 12 := by omega
    unfold awardingbodylaw19_StripCandidates.l0
    have hb : (txt (body ws 12)).size = 67 := by rw [H.txt_size, H.body_length]
    rw [if_neg (by omega), if_pos (by rw [hb]; decide)]
    have e : txt (body ws 12) ++ (⟨#[48, 48, 48, 48, 48, 48, 48]⟩ : ByteArray) = txt (stripl ws) := by
      show txt (body ws 12) ++ txt H.zeros = _
      rw [txt_append]; unfold H.stripl; rw [hl]
    rw [e, (read_clean hc hl).1, h6]
    simp only [Option.bind_some]
    have hcand : cand [1, c / 1024, c / 32 % 32, c % 32, p, 0] = c := by
      show c / 1024 * 1024 + c / 32 % 32 * 32 + c % 32 = c
      omega
    unfold readr
    rw [hcand]
    by_cases h : c > 9999
    · have hn : labelf ([1, c / 1024, c / 32 % 32, c % 32, p, 0].getD 0 0) c ([1, c / 1024, c / 32 % 32, c % 32, p, 0].getD 4 0) ([1, c / 1024, c / 32 % 32, c % 32, p, 0].getD 5 0) = false := by
        rw [Bool.eq_false_iff]; intro h2
        have := (label_range h2).2.1; omega
      rw [hn]
      simp only [Bool.false_eq_true, if_false, h, if_true, awake_true]
      rfl
    · have hy : labelf ([1, c / 1024, c / 32 % 32, c % 32, p, 0].getD 0 0) c ([1, c / 1024, c / 32 % 32, c % 32, p, 0].getD 4 0) ([1, c / 1024, c / 32 % 32, c % 32, p, 0].getD 5 0) = true :=
        labelf_of (show (0 : Int) ≤ 1 ∧ (1 : Int) ≤ 31 by omega) ⟨hc0, by omega⟩ ⟨hp0, hp1⟩ (show (0 : Int) ≤ 0 ∧ (0 : Int) ≤ 31 by omega)
      rw [hy]
      simp only [if_true, h, if_false, awake_true]
      simp
  | succ j ih =>
    intro i hi
    rw [show j + 1 + 12 = (j + 12) + 1 from by omega]
    unfold awardingbodylaw19_StripCandidates.l0
    rw [if_pos (by omega), if_pos (by omega)]
    have hr := hc.range i (by omega)
    have e : rd ws (i : Int) = ws.getD i 0 := by simp [rd]
    rw [e, modules_up hr.1 hr.2 (by omega)]
    simp only [Option.bind_some]
    rw [if_pos (by rw [H.txt_size, H.txt_size, H.body_length, H.mods_length]; omega)]
    have e2 : wrap64 ((i : Int) + 1) = ((i + 1 : Nat) : Int) := by unfold wrap64; omega
    rw [e2, txt_append]
    exact ih (i + 1) (by omega)
theorem StripCandidates : awardingbodylaw19_StripCandidates.Pure := by
  intro a0 a1 w0 w1
  refine ⟨24, ?_⟩
  unfold awardingbodylaw19_StripCandidates.f
  rw [cut (wf_num w0) (by omega) (by omega)]
  simp only [Option.bind_some]
  rw [cut (wf_num w1) (by omega) (by omega)]
  simp only [Option.bind_some]
  obtain ⟨c, hc⟩ : ∃ c, a0 % 32768 = c := ⟨_, rfl⟩
  obtain ⟨p, hp⟩ : ∃ p, a1 % 32 = p := ⟨_, rfl⟩
  have hc0 : 0 ≤ c := by omega
  have hc1 : c ≤ 32767 := by omega
  have hp0 : 0 ≤ p := by omega
  have hp1 : p ≤ 31 := by omega
  rw [hc, hp]
  have q1 : wrap64 (Int.tdiv c 1024) = c / 1024 := by rw [Int.tdiv_eq_ediv_of_nonneg hc0]; unfold wrap64; omega
  have q2 : wrap64 (Int.tdiv c 32) = c / 32 := by rw [Int.tdiv_eq_ediv_of_nonneg hc0]; unfold wrap64; omega
  have q3 : Int.tmod c 32 = c % 32 := Int.tmod_eq_emod_of_nonneg hc0
  have q4 : Int.tmod (c / 32) 32 = c / 32 % 32 := Int.tmod_eq_emod_of_nonneg (by omega)
  rw [q1, q2, q3, q4]
  obtain ⟨h1, h2, h3, h4⟩ := word_six (d := [1, c / 1024, c / 32 % 32, c % 32, p, 0]) rfl
    (six_range (x := fun i => if i = 0 then 1 else if i = 1 then c / 1024 else if i = 2 then c / 32 % 32 else if i = 3 then c % 32 else if i = 4 then p else 0) (fun i hi => by
      rcases (show i = 0 ∨ i = 1 ∨ i = 2 ∨ i = 3 ∨ i = 4 ∨ i = 5 by omega) with rfl | rfl | rfl | rfl | rfl | rfl <;> simp <;> omega))
  unfold rscode_Encode.f
  rw [if_pos (show ([1, c / 1024, c / 32 % 32, c % 32, p, 0] : List Int).length ≤ 60 from (show 6 ≤ 60 by omega))]
  simp only [Option.bind_some]
  rw [h1]
  exact loop_end c p _ h2 h3 h4 hc0 hc1 hp0 hp1 12 0 rfl
end Go.Proofs.YtcpmgkedmmiioaaDoor.Pure
end
