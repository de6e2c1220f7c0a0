/- stripApart_card, part 19: what the row's proof needs: words of the print, contracts of functions, the plain law. -/
import Derived.OpenShut
import Derived.Test.YtcpmgkedmmiioaaDoorKc16
import Derived.Test.YtcpmgkedmmiioaaDoorKc18
import Derived.Test.YtcpmgkedmmiioaaDoorKc3
import Derived.Test.YtcpmgkedmmiioaaDoorKc4
import Derived.Test.YtcpmgkedmmiioaaDoorKc17
section
set_option linter.unusedVariables false
namespace Go.Proofs.YtcpmgkedmmiioaaDoor.T
open Go.RowKit Go.Proofs.YtcpmgkedmmiioaaDoor.P Go.Proofs.YtcpmgkedmmiioaaDoorW.PrintWords Go.Proofs.YtcpmgkedmmiioaaDoorW.PrintLast
open H (txt Up isStrip beginsf wordl stripl Near IsCode labelf symf bad31 encf)
theorem flip_f (l : List UInt8) (h : l.length ≤ 1000) : strip_Flip.f (txt l) = some (txt l.reverse) := by
  unfold strip_Flip.f
  rw [H.txt_size, if_pos (by omega), H.txt_list]; rfl
theorem valid_f (l : List UInt8) (h : l.length ≤ 1000) : strip_valid.f (txt l) = some (isStrip (txt l)) := by
  unfold strip_valid.f; rw [H.txt_size, if_pos (by omega)]
theorem begins_f (l : List UInt8) (h : l.length = 74) : strip_begins.f (txt l) = some (beginsf (txt l)) := by
  unfold strip_begins.f; rw [H.txt_size, if_pos h]
/-- UPRIGHT, from both sides -/
theorem upright {l : List UInt8} (h : Up l) : strip_Upright.f (txt l) = some (txt l, 0) := by
  have hl := h.len
  unfold strip_Upright.f
  rw [valid_f l (by omega), h.isStrip]
  simp only [Option.bind_some, if_true]
  rw [flip_f l (by omega)]
  simp only [Option.bind_some]
  rw [begins_f l hl, h.begins]
  simp only [Option.bind_some, if_true]
theorem upright_flip {l : List UInt8} (h : Up l) : strip_Upright.f (txt l.reverse) = some (txt l, 0) := by
  have hl := h.len
  have hr := h.flip_len
  unfold strip_Upright.f
  rw [valid_f l.reverse (by omega), h.flip_strip]
  simp only [Option.bind_some, if_true]
  rw [flip_f l.reverse (by omega), List.reverse_reverse]
  simp only [Option.bind_some]
  rw [begins_f l.reverse hr, h.flip_begins]
  simp only [Option.bind_some, Bool.false_eq_true, if_false]
  rw [begins_f l hl, h.begins]
  simp only [Option.bind_some, if_true]
theorem word_f {l : List UInt8} (h : Up l) : strip_Word.f (txt l) = some (wordl (txt l), 0) := by
  unfold strip_Word.f
  rw [H.txt_size, if_pos (by have := h.len; omega)]
  unfold H.wordr
  rw [h.isStrip]; rfl
theorem decode_f {w c : List Int} (h : Near w c) : rscode_Decode.f w = some (c.take (w.length - 6), ((H.wrong w c).length : Int), 0) := by
  unfold rscode_Decode.f
  have h1 := h.code.hi
  have h2 := h.len
  rw [if_pos (by omega), h.decode]
/-- the numbers that six symbols write -/
def cand (d : List Int) : Int := d.getD 1 0 * 1024 + d.getD 2 0 * 32 + d.getD 3 0
/-- what READ gives at a strip near a codeword -/
def readr (d : List Int) (n : Int) : Int × Int × Int × Int × Int × Int :=
  if labelf (d.getD 0 0) (cand d) (d.getD 4 0) (d.getD 5 0) = true then (d.getD 0 0, cand d, d.getD 4 0, d.getD 5 0, n, 0) else (0, 0, 0, 0, 0, 2)
theorem read_up {t : ByteArray} {l : List UInt8} (hu : strip_Upright.f t = some (txt l, 0)) (h : Up l) {c : List Int} (hc : c.length = 12) (hn : Near (wordl (txt l)) c) :
    strip_Read.f t = some (readr (c.take 6) ((H.wrong (wordl (txt l)) c).length : Int)) := by
  unfold strip_Read.f
  rw [hu]
  simp only [Option.bind_some, if_true]
  rw [word_f h]
  simp only [Option.bind_some]
  rw [decode_f hn, H.wordl_length]
  have hd : (c.take 6).length = 6 := by rw [List.length_take]; omega
  have hr : ∀ i, i < 6 → 0 ≤ (c.take 6).getD i 0 ∧ (c.take 6).getD i 0 ≤ 31 := by
    intro i hi
    have := hn.code.range i (by omega)
    rw [List.getD_eq_getElem?_getD, List.getElem?_take, if_pos hi, ← List.getD_eq_getElem?_getD]
    exact this
  obtain ⟨d, he⟩ : ∃ d, c.take 6 = d := ⟨_, rfl⟩
  rw [he] at hd hr
  rw [show (12 : Nat) - 6 = 6 from rfl, he]
  simp only [Option.bind_some, if_true]
  have hrd : ∀ i : Nat, i < 6 → rd d (i : Int) = d.getD i 0 := by intro i hi; simp [rd]
  have r0 := hrd 0 (by omega)
  have r1 := hrd 1 (by omega)
  have r2 := hrd 2 (by omega)
  have r3 := hrd 3 (by omega)
  have r4 := hrd 4 (by omega)
  have r5 := hrd 5 (by omega)
  have h1 := hr 1 (by omega)
  have h2 := hr 2 (by omega)
  have h3 := hr 3 (by omega)
  have hdl : (d.length : Int) = 6 := by rw [hd]; rfl
  rw [hdl, if_pos (by omega), if_pos (by omega), if_pos (by omega), if_pos (by omega), if_pos (by omega), if_pos (by omega)]
  rw [show rd d 0 = d.getD 0 0 from r0, show rd d 1 = d.getD 1 0 from r1, show rd d 2 = d.getD 2 0 from r2, show rd d 3 = d.getD 3 0 from r3, show rd d 4 = d.getD 4 0 from r4, show rd d 5 = d.getD 5 0 from r5]
  have hw : wrap64 (wrap64 (wrap64 (d.getD 1 0 * 1024) + wrap64 (d.getD 2 0 * 32)) + d.getD 3 0) = cand d := by unfold wrap64 cand; omega
  rw [hw]
  unfold strip_Valid.f readr
  simp only [Option.bind_some]
  split <;> rfl
end Go.Proofs.YtcpmgkedmmiioaaDoor.T
end

section
set_option linter.unusedVariables false
namespace Go.Proofs.YtcpmgkedmmiioaaDoor.T
open Go.RowKit Go.Proofs.YtcpmgkedmmiioaaDoor.P Go.Proofs.YtcpmgkedmmiioaaDoorW.PrintWords Go.Proofs.YtcpmgkedmmiioaaDoorW.PrintLast
/-- a tape: numbers of int's range, read up to p -/
structure Tape (l : List Int) (p : Int) : Prop where
  len : l.length ≤ 600
  lo : 0 ≤ p
  hi : p ≤ l.length
  num : ∀ x, x ∈ l → -9223372036854775808 ≤ x ∧ x ≤ 9223372036854775807
theorem wf_num {x : Int} (h : (Lit.int .i64 x).wf = true) : -9223372036854775808 ≤ x ∧ x ≤ 9223372036854775807 := bounds_i64 h
theorem rd_getElem (l : List Int) (i : Int) (h0 : 0 ≤ i) (h : i < l.length) : ∃ h', rd l i = l[i.toNat]'h' := by
  have h' : i.toNat < l.length := by omega
  exact ⟨h', by simp [rd, h']⟩
theorem rd_mem {l : List Int} {i : Int} (h0 : 0 ≤ i) (h : i < l.length) : rd l i ∈ l := by
  obtain ⟨h', e⟩ := rd_getElem l i h0 h
  rw [e]; exact List.getElem_mem h'
theorem cut {x n : Int} (hx : -9223372036854775808 ≤ x ∧ x ≤ 9223372036854775807) (h1 : 1 ≤ n) (hn : n ≤ 9223372036854775807) : awardingbodymake_Cut.f x n = some (x % n) := by
  unfold awardingbodymake_Cut.f
  rw [if_neg (by omega), if_neg (by omega)]
  have hm0 := Int.emod_nonneg x (show n ≠ 0 by omega)
  have hm1 := Int.emod_lt_of_pos x (show 0 < n by omega)
  by_cases h : x < 0
  · have e : Int.tmod x n = -((-x) % n) := by
      obtain ⟨y, rfl⟩ : ∃ y, x = -y := ⟨-x, by omega⟩
      rw [Int.neg_tmod, Int.neg_neg, Int.tmod_eq_emod_of_nonneg (by omega)]
    have hk0 := Int.emod_nonneg (-x) (show n ≠ 0 by omega)
    have hk1 := Int.emod_lt_of_pos (-x) (show 0 < n by omega)
    rw [e]
    by_cases hz : (-x) % n = 0
    · rw [if_neg (by omega)]
      have : x % n = 0 := by
        have := Int.dvd_of_emod_eq_zero hz
        exact Int.emod_eq_zero_of_dvd ((Int.dvd_neg).1 this)
      rw [this, hz]; rfl
    · rw [if_pos (by omega)]
      have hw : wrap64 (-((-x) % n) + n) = -((-x) % n) + n := by unfold wrap64; omega
      rw [hw]
      congr 1
      have h3 : (-((-x) % n) + n) % n = -((-x) % n) + n := Int.emod_eq_of_lt (by omega) (by omega)
      rw [← h3]
      have h4 : (-x) = n * ((-x) / n) + (-x) % n := (Int.mul_ediv_add_emod (-x) n).symm
      have h5 : -((-x) % n) + n = x + n * ((-x) / n + 1) := by rw [Int.mul_add, Int.mul_one]; omega
      rw [h5, Int.add_mul_emod_self_left]
  · have e : Int.tmod x n = x % n := Int.tmod_eq_emod_of_nonneg (by omega)
    rw [e, if_neg (by omega)]
theorem raw {l : List Int} {p : Int} (h : Tape l p) : ∃ x q, awardingbodymake_Tape_Raw.f l p = some (x, q) ∧ Tape l q ∧ -9223372036854775808 ≤ x ∧ x ≤ 9223372036854775807 := by
  have h1 := h.lo
  have h2 := h.hi
  have h3 := h.len
  unfold awardingbodymake_Tape_Raw.f
  by_cases hp : p ≥ (l.length : Int)
  · rw [if_pos hp]; exact ⟨0, p, rfl, h, by omega, by omega⟩
  · rw [if_neg hp]
    have e1 : wrap64 (p + 1) = p + 1 := by unfold wrap64; omega
    have e2 : wrap64 (p + 1 - 1) = p := by unfold wrap64; omega
    rw [e1, e2, if_pos h1, if_pos (by omega)]
    have := h.num _ (rd_mem h1 (by omega : p < l.length))
    exact ⟨_, _, rfl, ⟨h3, by omega, by omega, h.num⟩, this.1, this.2⟩
theorem next {l : List Int} {p n : Int} (h : Tape l p) (h1 : 1 ≤ n) (hn : n ≤ 9223372036854775807) : ∃ x q, awardingbodymake_Tape_Next.f l p n = some (x, q) ∧ Tape l q ∧ 0 ≤ x ∧ x < n := by
  obtain ⟨x, q, e, hq, hx⟩ := raw h
  unfold awardingbodymake_Tape_Next.f
  rw [e]
  simp only [Option.bind_some]
  rw [cut hx h1 hn]
  exact ⟨_, _, rfl, hq, Int.emod_nonneg x (by omega), Int.emod_lt_of_pos x (by omega)⟩
theorem new {l : List Int} (h : ∀ x ∈ l, (Lit.int .i64 x).wf = true) : ∃ m, awardingbodymake_New.f l = some (m, 0) ∧ Tape m 0 := by
  unfold awardingbodymake_New.f
  by_cases hl : (l.length : Int) > 600
  · rw [if_pos hl, if_pos (by omega)]
    exact ⟨_, rfl, by rw [List.length_take]; omega, by omega, by omega, fun x hx => wf_num (h x (List.mem_of_mem_take hx))⟩
  · rw [if_neg hl]
    exact ⟨_, rfl, by omega, by omega, by omega, fun x hx => wf_num (h x hx)⟩
theorem range {l : List Int} {p : Int} (h : Tape l p) (a b : Int) (ha : 0 ≤ a) (hb : a ≤ b) (hb2 : b ≤ 1000000) : ∃ x q, awardingbodymake_Tape_Range.f l p a b = some (x, q) ∧ Tape l q ∧ a ≤ x ∧ x ≤ b := by
  unfold awardingbodymake_Tape_Range.f
  have e : wrap64 (wrap64 (b - a) + 1) = b - a + 1 := by unfold wrap64; omega
  rw [e]
  obtain ⟨x, q, e, hq, h0, h1⟩ := next h (show 1 ≤ b - a + 1 by omega) (by omega)
  rw [e]
  simp only [Option.bind_some]
  have e2 : wrap64 (a + x) = a + x := by unfold wrap64; omega
  rw [e2]
  exact ⟨_, _, rfl, hq, by omega, by omega⟩
theorem pick {l : List Int} {p : Int} (h : Tape l p) (c : List Int) (h1 : 1 ≤ c.length) (h2 : c.length ≤ 1000) : ∃ x q, awardingbodymake_Tape_Pick.f l p c = some (x, q) ∧ Tape l q ∧ x ∈ c := by
  unfold awardingbodymake_Tape_Pick.f
  obtain ⟨x, q, e, hq, h0, h1⟩ := next h (show 1 ≤ (c.length : Int) by omega) (by omega)
  rw [e]
  simp only [Option.bind_some]
  rw [if_pos h0, if_pos h1]
  exact ⟨_, _, rfl, hq, rd_mem h0 h1⟩
theorem spoil0 (l : List Int) (p a : Int) : awardingbodymake_Tape_Spoil.f l p a 0 = some (a, p) := by unfold awardingbodymake_Tape_Spoil.f; rw [if_neg (by omega)]
/-- a valid label is drawn -/
theorem label {l : List Int} {p : Int} (h : Tape l p) : ∃ a b c d q, awardingbodymake_Tape_Label.f l p 0 = some (a, b, c, d, q) ∧ Tape l q ∧ H.labelf a b c d = true := by
  unfold awardingbodymake_Tape_Label.f
  obtain ⟨a, q1, e1, t1, a0, a1⟩ := range h 0 31 (by omega) (by omega) (by omega)
  obtain ⟨b, q2, e2, t2, hb⟩ := pick t1 [0, 1, 31, 32, 1023, 1024, 5000, 9998, 9999] (by simp) (by simp)
  obtain ⟨c, q3, e3, t3, c0, c1⟩ := range t2 0 31 (by omega) (by omega) (by omega)
  obtain ⟨d, q4, e4, t4, d0, d1⟩ := range t3 0 31 (by omega) (by omega) (by omega)
  simp only [e1, Option.bind_some, spoil0, e2, e3, e4]
  refine ⟨a, b, c, d, q4, rfl, t4, ?_⟩
  have hb2 : 0 ≤ b ∧ b ≤ 9999 := by
    simp only [List.mem_cons, List.mem_nil_iff, or_false] at hb
    rcases hb with rfl | rfl | rfl | rfl | rfl | rfl | rfl | rfl | rfl <;> omega
  have hn : ∀ x : Int, 0 ≤ x → x ≤ 31 → H.bad31 x = false := by
    intro x h0 h1; unfold H.bad31; rw [Bool.or_eq_false_iff, decide_eq_false_iff_not, decide_eq_false_iff_not]; omega
  unfold H.labelf
  rw [hn a a0 a1, hn c c0 c1, hn d d0 d1, decide_eq_true hb2.1, decide_eq_true hb2.2]; rfl
end Go.Proofs.YtcpmgkedmmiioaaDoor.T
end

section
set_option linter.unusedVariables false
namespace Go.Proofs.YtcpmgkedmmiioaaDoor.T
open Go.RowKit Go.Proofs.YtcpmgkedmmiioaaDoor.P Go.Proofs.YtcpmgkedmmiioaaDoorW.PrintWords Go.Proofs.YtcpmgkedmmiioaaDoorW.PrintLast
open H (txt Up isStrip beginsf wordl stripl Near IsCode labelf symf bad31 encf)
theorem bad31_false {x : Int} (h : bad31 x = false) : 0 ≤ x ∧ x ≤ 31 := by
  unfold H.bad31 at h
  rw [Bool.or_eq_false_iff, decide_eq_false_iff_not, decide_eq_false_iff_not] at h
  omega
theorem label_range {a b c d : Int} (h : labelf a b c d = true) : (0 ≤ a ∧ a ≤ 31) ∧ (0 ≤ b ∧ b ≤ 9999) ∧ (0 ≤ c ∧ c ≤ 31) ∧ (0 ≤ d ∧ d ≤ 31) := by
  unfold H.labelf at h
  simp only [Bool.and_eq_true, Bool.not_eq_true', decide_eq_true_eq] at h
  obtain ⟨⟨⟨⟨h1, h2⟩, h3⟩, h4⟩, h5⟩ := h
  exact ⟨bad31_false h1, ⟨h4, h5⟩, bad31_false h2, bad31_false h3⟩
theorem labelf_of {a b c d : Int} (h1 : 0 ≤ a ∧ a ≤ 31) (h2 : 0 ≤ b ∧ b ≤ 9999) (h3 : 0 ≤ c ∧ c ≤ 31) (h4 : 0 ≤ d ∧ d ≤ 31) : labelf a b c d = true := by
  have hn : ∀ x : Int, 0 ≤ x → x ≤ 31 → bad31 x = false := by
    intro x h0 h1; unfold H.bad31; rw [Bool.or_eq_false_iff, decide_eq_false_iff_not, decide_eq_false_iff_not]; omega
  unfold H.labelf
  rw [hn a h1.1 h1.2, hn c h3.1 h3.2, hn d h4.1 h4.2, decide_eq_true h2.1, decide_eq_true h2.2]; rfl
theorem six_range {x : Nat → Int} (h : ∀ i, i < 6 → 0 ≤ x i ∧ x i ≤ 31) : ∀ i, i < ([x 0, x 1, x 2, x 3, x 4, x 5] : List Int).length → 0 ≤ ([x 0, x 1, x 2, x 3, x 4, x 5] : List Int).getD i 0 ∧ ([x 0, x 1, x 2, x 3, x 4, x 5] : List Int).getD i 0 ≤ 31 := by
  intro i hi
  simp only [List.length_cons, List.length_nil] at hi
  rcases (show i = 0 ∨ i = 1 ∨ i = 2 ∨ i = 3 ∨ i = 4 ∨ i = 5 by omega) with rfl | rfl | rfl | rfl | rfl | rfl
  · exact h 0 (by omega)
  · exact h 1 (by omega)
  · exact h 2 (by omega)
  · exact h 3 (by omega)
  · exact h 4 (by omega)
  · exact h 5 (by omega)
/-- the word of six symbols -/
theorem word_six {d : List Int} (hl : d.length = 6) (hr : ∀ i, i < d.length → 0 ≤ d.getD i 0 ∧ d.getD i 0 ≤ 31) : (encf d).2 = 0 ∧ IsCode (encf d).1 ∧ (encf d).1.length = 12 ∧ (encf d).1.take 6 = d := by
  obtain ⟨h1, h2, h3, h4⟩ := H.encf_code (d := d) (by omega) (by omega) hr
  refine ⟨h1, h2, by rw [h3, hl], H.lists_ext (by rw [List.length_take, h3, hl]; rfl) fun i hi => ?_⟩
  rw [List.length_take] at hi
  rw [List.getD_eq_getElem?_getD, List.getElem?_take, if_pos (by omega), ← List.getD_eq_getElem?_getD, h4 i (by omega)]
theorem symf_range {a b c d : Int} (h : labelf a b c d = true) : ∀ i, i < (symf a b c d).length → 0 ≤ (symf a b c d).getD i 0 ∧ (symf a b c d).getD i 0 ≤ 31 := by
  obtain ⟨h1, h2, h3, h4⟩ := label_range h
  have := six_range (x := fun i => if i = 0 then a else if i = 1 then b / 1024 else if i = 2 then b / 32 % 32 else if i = 3 then b % 32 else if i = 4 then c else d) (fun i hi => by
    rcases (show i = 0 ∨ i = 1 ∨ i = 2 ∨ i = 3 ∨ i = 4 ∨ i = 5 by omega) with rfl | rfl | rfl | rfl | rfl | rfl <;> simp <;> omega)
  exact this
theorem symf_cand {a b c d : Int} (h : labelf a b c d = true) : cand (symf a b c d) = b := by
  obtain ⟨_, h2, _⟩ := label_range h
  show b / 1024 * 1024 + b / 32 % 32 * 32 + b % 32 = b
  omega
/-- DRAW: the strip of a codeword that begins with the label's symbols -/
theorem draw {a b c d : Int} (h : labelf a b c d = true) : ∃ ws, strip_Draw.f a b c d = some (txt (stripl ws), 0) ∧ IsCode ws ∧ ws.length = 12 ∧ ws.take 6 = symf a b c d := by
  obtain ⟨_, h2, h3, h4⟩ := word_six (d := symf a b c d) rfl (symf_range h)
  refine ⟨_, ?_, h2, h3, h4⟩
  unfold strip_Draw.f H.drawr
  rw [if_pos h]; rfl
theorem code_up {ws : List Int} (h : IsCode ws) (hl : ws.length = 12) : Up (stripl ws) := H.stripl_up ws hl h.range
theorem near_self {ws : List Int} (h : IsCode ws) : Near ws ws ∧ (H.wrong ws ws).length = 0 := by
  have hw : H.wrong ws ws = [] := by
    unfold H.wrong; rw [List.filter_eq_nil_iff]; intro i _; simp
  have he : H.erased ws = [] := by
    unfold H.erased; rw [List.filter_eq_nil_iff]
    intro i hi
    have := h.range i (List.mem_range.1 hi)
    simp only [decide_eq_true_eq]; omega
  refine ⟨⟨h, rfl, fun i hi => by have := h.range i hi; omega, by rw [hw, he]; simp⟩, by rw [hw]; rfl⟩
theorem readr_symf {a b c d : Int} (h : labelf a b c d = true) (n : Int) : readr (symf a b c d) n = (a, b, c, d, n, 0) := by
  unfold readr
  rw [symf_cand h]
  show (if labelf a b c d = true then (a, b, c, d, n, 0) else (0, 0, 0, 0, 0, 2)) = _
  rw [if_pos h]
/-- READ of an undamaged strip, from both sides -/
theorem read_clean {ws : List Int} (h : IsCode ws) (hl : ws.length = 12) : strip_Read.f (txt (stripl ws)) = some (readr (ws.take 6) 0) ∧ strip_Read.f (txt (stripl ws).reverse) = some (readr (ws.take 6) 0) := by
  have hu := code_up h hl
  have hw : wordl (txt (stripl ws)) = ws := H.wordl_stripl ws hl h.range
  obtain ⟨hn, h0⟩ := near_self h
  have key : ∀ t, strip_Upright.f t = some (txt (stripl ws), 0) → strip_Read.f t = some (readr (ws.take 6) 0) := by
    intro t ht
    have := read_up ht hu hl (by rw [hw]; exact hn)
    rw [hw, h0] at this
    exact this
  exact ⟨key _ (upright hu), key _ (upright_flip hu)⟩
theorem take8 {ws : List Int} (hl : ws.length = 12) (h0 : ws.getD 0 0 = 0) : (stripl ws).take 8 = [49, 49, 49, 49, 49, 49, 49, 48] := by
  have e : (stripl ws).take 8 = (stripl ws).take 7 ++ (((stripl ws).drop (7 + 0 * 5)).take 5).take 1 := by
    rw [List.take_take, show min 1 5 = 1 from rfl, show 7 + 0 * 5 = 7 from rfl, ← List.take_add]
  rw [e, H.stripl_take, H.stripl_chunk ws hl 0 (by omega), h0]
  decide
theorem awake_true : awardingbodylaw19_awake.f = some true := by
  have hA : labelf 3 9999 2 1 = true := by decide
  have hB : labelf 0 0 0 0 = true := by decide
  obtain ⟨ws, hd, hc, hl, ht⟩ := draw hA
  obtain ⟨wz, hd2, hc2, hl2, ht2⟩ := draw hB
  have hr := (read_clean hc hl).2
  rw [ht, readr_symf hA] at hr
  have h74 := (code_up hc hl).len
  have h742 := (code_up hc2 hl2).len
  unfold awardingbodylaw19_awake.f
  rw [hd]
  simp only [Option.bind_some]
  rw [flip_f _ (by omega)]
  simp only [Option.bind_some]
  rw [hr]
  simp only [Option.bind_some]
  rw [hd2]
  simp only [Option.bind_some]
  rw [H.txt_size, H.txt_size, h74, h742]
  have hz : wz.getD 0 0 = 0 := by
    have : (wz.take 6).getD 0 0 = (symf 0 0 0 0).getD 0 0 := by rw [ht2]
    rw [List.getD_eq_getElem?_getD, List.getElem?_take, if_pos (by omega), ← List.getD_eq_getElem?_getD] at this
    rw [this]; rfl
  have h8 : ((txt (stripl wz)).extract 0 8).toList = [49, 49, 49, 49, 49, 49, 49, 48] := by
    rw [ByteArray.toList_eq, ByteArray.data_extract, Array.toList_extract, List.extract_eq_take_drop, H.txt_list]
    exact take8 hl2 hz
  rw [h8]
  decide
end Go.Proofs.YtcpmgkedmmiioaaDoor.T
end

section
set_option linter.unusedVariables false
namespace Go.Proofs.YtcpmgkedmmiioaaDoor.Pure
open Go.RowKit Go.Proofs.YtcpmgkedmmiioaaDoor.P Go.Proofs.YtcpmgkedmmiioaaDoorW.PrintWords Go.Proofs.YtcpmgkedmmiioaaDoorW.PrintLast Go.Proofs.YtcpmgkedmmiioaaDoor.T
open H (txt Up isStrip beginsf wordl stripl Near IsCode labelf symf bad31 encf mods isMod accu symb chunk)
/-- the places from i on, j of them, at which two words differ -/
def apartFrom (ws vs : List Int) (i j : Nat) : List Nat := (List.range' i j).filter fun q => decide (ws.getD q 0 ≠ vs.getD q 0)
theorem dist_stop (K : Nat) (ws vs : List Int) (cnt n i : Int) (h : ¬ i < n) : rscode_Distance.l0 (K + 1) ws vs cnt n i = some cnt := by
  unfold rscode_Distance.l0; rw [if_neg h]
theorem dist_same (K : Nat) (ws vs : List Int) (cnt n i : Int) (h : i < n) (h0 : 0 ≤ i) (h1 : i < (ws.length : Int)) (h2 : i < (vs.length : Int)) (he : rd ws i = rd vs i) : rscode_Distance.l0 (K + 1) ws vs cnt n i = rscode_Distance.l0 K ws vs cnt n (wrap64 (i + 1)) := by
  conv => lhs; unfold rscode_Distance.l0
  rw [if_pos h, if_pos h0, if_pos h1, if_pos h2, if_pos he]
theorem dist_other (K : Nat) (ws vs : List Int) (cnt n i : Int) (h : i < n) (h0 : 0 ≤ i) (h1 : i < (ws.length : Int)) (h2 : i < (vs.length : Int)) (he : ¬ rd ws i = rd vs i) : rscode_Distance.l0 (K + 1) ws vs cnt n i = rscode_Distance.l0 K ws vs (wrap64 (cnt + 1)) n (wrap64 (i + 1)) := by
  conv => lhs; unfold rscode_Distance.l0
  rw [if_pos h, if_pos h0, if_pos h1, if_pos h2, if_neg he]
theorem apart_succ (ws vs : List Int) (i j : Nat) : apartFrom ws vs i (j + 1) = if ws.getD i 0 ≠ vs.getD i 0 then i :: apartFrom ws vs (i + 1) j else apartFrom ws vs (i + 1) j := by
  unfold apartFrom
  rw [List.range'_succ, List.filter_cons]
  simp only [decide_eq_true_eq]
theorem inc64 (i : Nat) (h : i < 1000) : wrap64 ((i : Int) + 1) = ((i + 1 : Nat) : Int) := by unfold wrap64; omega
theorem incz (c : Int) (h0 : 0 ≤ c) (h1 : c ≤ 1000) : wrap64 (c + 1) = c + 1 := by unfold wrap64; omega
theorem dist_l (ws vs : List Int) (n : Nat) (hn : n ≤ 100) (h1 : ws.length = n) (h2 : vs.length = n) : ∀ (j i K : Nat) (cnt : Int), i + j = n → j < K → 0 ≤ cnt → cnt + j ≤ 200 →
    rscode_Distance.l0 K ws vs cnt (n : Int) (i : Int) = some (cnt + ((apartFrom ws vs i j).length : Int)) := by
  intro j
  induction j with
  | zero =>
    intro i K cnt hi hK _ _
    obtain ⟨K, rfl⟩ : ∃ K', K = K' + 1 := ⟨K - 1, by omega⟩
    rw [dist_stop _ _ _ _ _ _ (by omega)]
    have : (apartFrom ws vs i 0).length = 0 := rfl
    rw [this]; simp
  | succ j ih =>
    intro i K cnt hi hK hc0 hc1
    obtain ⟨K, rfl⟩ : ∃ K', K = K' + 1 := ⟨K - 1, by omega⟩
    have e1 : rd ws (i : Int) = ws.getD i 0 := by simp [rd]
    have e2 : rd vs (i : Int) = vs.getD i 0 := by simp [rd]
    rw [apart_succ]
    by_cases h : ws.getD i 0 = vs.getD i 0
    · rw [dist_same _ _ _ _ _ _ (by omega) (by omega) (by omega) (by omega) (by rw [e1, e2, h]), inc64 i (by omega), if_neg (fun hn => hn h)]
      exact ih (i + 1) K cnt (by omega) (by omega) hc0 (by omega)
    · rw [dist_other _ _ _ _ _ _ (by omega) (by omega) (by omega) (by omega) (by rw [e1, e2]; exact h), inc64 i (by omega), incz cnt hc0 (by omega), if_pos h, List.length_cons, ih (i + 1) K (cnt + 1) (by omega) (by omega) (by omega) (by omega)]
      congr 1; omega
theorem dist {ws vs : List Int} (h1 : ws.length = 12) (h2 : vs.length = 12) {K : Nat} (hK : 12 < K) : rscode_Distance.f K ws vs = some ((apartFrom ws vs 0 12).length : Int) := by
  have := dist_l ws vs 12 (by omega) h1 h2 12 0 K 0 rfl hK (by omega) (by omega)
  rw [Int.zero_add] at this
  unfold rscode_Distance.f
  rw [if_pos (by rw [h1, h2]), h1]
  exact this
theorem dist_far {ws vs : List Int} (hc : IsCode ws) (hd : IsCode vs) (h1 : ws.length = 12) (h2 : vs.length = 12) (hne : ws ≠ vs) : 7 ≤ (apartFrom ws vs 0 12).length := by
  refine Decidable.byContradiction fun h => hne ?_
  have key := Gf.code_apart (N := 12) (by omega) (by rw [← h1]; exact hc.code) (by rw [← h2]; exact hd.code) (D := apartFrom ws vs 0 12) (by omega) (fun i hi hm => by
    have : ws.getD i 0 = vs.getD i 0 := Decidable.byContradiction fun hne2 => hm (by unfold apartFrom; rw [List.mem_filter]; exact ⟨by simp; omega, by simpa using hne2⟩)
    unfold H.val; rw [this])
  exact hc.ext hd (by rw [h1, h2]) fun i hi => key i (by omega)
theorem dist_self (ws : List Int) : (apartFrom ws ws 0 12).length = 0 := by
  unfold apartFrom
  rw [List.filter_eq_nil_iff.2 (fun q _ => by simp)]; rfl
theorem symf_inj {a b c d a' b' c' d' : Int} (h : labelf a b c d = true) (h' : labelf a' b' c' d' = true) (e : symf a b c d = symf a' b' c' d') : a = a' ∧ b = b' ∧ c = c' ∧ d = d' := by
  have hc := symf_cand h
  rw [e, symf_cand h'] at hc
  unfold H.symf at e
  injection e with e1 e
  injection e with _ e
  injection e with _ e
  injection e with _ e
  injection e with e5 e
  injection e with e6 _
  exact ⟨e1, hc.symm, e5, e6⟩
theorem word_strip {ws : List Int} (hc : IsCode ws) (hl : ws.length = 12) : strip_Word.f (txt (stripl ws)) = some (ws, 0) := by
  rw [word_f (code_up hc hl), H.wordl_stripl ws hl hc.range]
theorem j1_end {a b c d a' b' c' d' : Int} {K : Nat} {ws vs : List Int} (hc : IsCode ws) (hl : ws.length = 12) {t303 : Int} (hd : rscode_Distance.f K ws vs = some t303)
    (h0 : t303 = 0 → (a == a' && (b == b' && (c == c' && (d == d')))) = true) (h1 : ¬ t303 = 0 → (a == a' && (b == b' && (c == c' && (d == d')))) = false ∧ t303 ≥ 7) :
    awardingbodylaw19_StripApart.j1 (K + 1) (txt (stripl ws)) ws vs false a b c d a' b' c' d' = some true := by
  have hu := upright_flip (code_up hc hl)
  have hlen := (code_up hc hl).len
  rw [awardingbodylaw19_StripApart.j1, if_neg Bool.false_ne_true, hd, Option.bind_some, flip_f _ (by omega), Option.bind_some, hu, Option.bind_some]
  by_cases h : t303 = 0
  · rw [if_pos h, if_pos (h0 h), if_pos rfl, if_pos rfl, awake_true]; rfl
  · rw [if_neg h, if_neg (by rw [(h1 h).1]; exact Bool.false_ne_true), if_neg (by rw [(h1 h).1]; exact Bool.false_ne_true), if_pos (h1 h).2, if_pos rfl, if_pos rfl, awake_true]; rfl
theorem j0_end {a b c d a' b' c' d' : Int} (h : labelf a b c d = true) (h' : labelf a' b' c' d' = true) : ∃ k, awardingbodylaw19_StripApart.j0 k a b c d a' b' c' d' = some true := by
  obtain ⟨ws, hd, hc, hl, h6⟩ := draw h
  obtain ⟨vs, hd', hc', hl', h6'⟩ := draw h'
  obtain ⟨K, hK⟩ : ∃ K, 12 < K := ⟨20, by omega⟩
  have hD := dist (K := K) hl hl' hK
  have hj := j1_end (a := a) (b := b) (c := c) (d := d) (a' := a') (b' := b') (c' := c') (d' := d') hc hl hD (fun h0 => by
    have : ws = vs := Decidable.byContradiction fun hne => by have := dist_far hc hc' hl hl' hne; omega
    subst this
    rw [h6] at h6'
    obtain ⟨e1, e2, e3, e4⟩ := symf_inj h h' h6'
    simp [e1, e2, e3, e4]) (fun h0 => by
    have hne : ws ≠ vs := by rintro rfl; rw [dist_self] at h0; exact h0 rfl
    refine ⟨?_, by have := dist_far hc hc' hl hl' hne; omega⟩
    rw [Bool.eq_false_iff]
    intro he
    simp only [Bool.and_eq_true, beq_iff_eq] at he
    obtain ⟨e1, e2, e3, e4⟩ := he
    subst e1 e2 e3 e4
    rw [hd] at hd'
    have := congrArg Prod.fst (Option.some.inj hd')
    have e5 : stripl ws = stripl vs := by rw [← H.txt_list (stripl ws), ← H.txt_list (stripl vs)]; exact congrArg (fun s : ByteArray => s.data.toList) this
    apply hne
    rw [← H.wordl_stripl ws hl hc.range, ← H.wordl_stripl vs hl' hc'.range, e5])
  refine ⟨K + 1 + 1, ?_⟩
  rw [awardingbodylaw19_StripApart.j0, hd, Option.bind_some, hd', Option.bind_some, word_strip hc hl, Option.bind_some, word_strip hc' hl', Option.bind_some, if_pos rfl, if_pos rfl, if_pos rfl, if_pos rfl, hl, hl', if_pos (show ((12 : Nat) : Int) = 12 from rfl), show (((12 : Nat) : Int) != 12) = false by decide]
  exact hj
theorem StripApart : awardingbodylaw19_StripApart.Pure := by
  intro l0 _ _ wl
  obtain ⟨t, hnew, ht⟩ := T.new wl
  obtain ⟨a, b, c, d, q, hlab, hq, hL⟩ := T.label ht
  obtain ⟨a', b', c', d', q', hlab', hq', hL'⟩ := T.label hq
  obtain ⟨x, r, hx, hr, x0, x1⟩ := T.next hq' (show (1 : Int) ≤ 2 by omega) (by omega)
  by_cases h0 : x = 0
  · obtain ⟨y, s, hy, hs, y0, y1⟩ := T.next hr (show (1 : Int) ≤ 32 by omega) (by omega)
    obtain ⟨h1, h2, h3, h4⟩ := label_range hL
    obtain ⟨k, hk⟩ := j0_end hL (labelf_of h1 h2 (show 0 ≤ y ∧ y ≤ 31 by omega) h4)
    refine ⟨k, ?_⟩
    unfold awardingbodylaw19_StripApart.f
    rw [hnew, Option.bind_some, hlab, Option.bind_some, hlab', Option.bind_some, hx, Option.bind_some, if_pos h0, hy, Option.bind_some]
    exact hk
  · obtain ⟨k, hk⟩ := j0_end hL hL'
    refine ⟨k, ?_⟩
    unfold awardingbodylaw19_StripApart.f
    rw [hnew, Option.bind_some, hlab, Option.bind_some, hlab', Option.bind_some, hx, Option.bind_some, if_neg h0]
    exact hk
end Go.Proofs.YtcpmgkedmmiioaaDoor.Pure
end
