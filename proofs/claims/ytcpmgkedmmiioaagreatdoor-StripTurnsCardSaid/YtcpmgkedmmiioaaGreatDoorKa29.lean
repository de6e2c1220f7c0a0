/- stripTurns_card, part 29: what the row's proof needs: words of the print, contracts of functions, the plain law. -/
import Derived.OpenShut
import Derived.Test.YtcpmgkedmmiioaaGreatDoorKa26
import Derived.Test.YtcpmgkedmmiioaaGreatDoorKa28
import Derived.Test.YtcpmgkedmmiioaaGreatDoorKa3
import Derived.Test.YtcpmgkedmmiioaaGreatDoorKa4
section
set_option linter.unusedVariables false
namespace Go.Proofs.YtcpmgkedmmiioaaGreatDoor.T
open Go.RowKit Go.Proofs.YtcpmgkedmmiioaaGreatDoor.P Go.Proofs.YtcpmgkedmmiioaaGreatDoorW.PrintWords Go.Proofs.YtcpmgkedmmiioaaGreatDoorW.PrintLast
open H (txt Up isStrip beginsf wordl stripl Near IsCode labelf symf bad31 encf)
theorem flip_f (l : List UInt8) (h : l.length ≤ 1000) : strip_Flip.f (txt l) = some (txt l.reverse) := by
  unfold strip_Flip.f
  rw [H.txt_size, if_pos (by omega), H.txt_list]; rfl
theorem valid_f (l : List UInt8) (h : l.length ≤ 1000) : strip_valid.f (txt l) = some (isStrip (txt l)) := by
  unfold strip_valid.f; rw [H.txt_size, if_pos (by omega)]
theorem begins_f (l : List UInt8) (h : l.length = 74) : strip_begins.f (txt l) = some (beginsf (txt l)) := by
  unfold strip_begins.f; rw [H.txt_size, if_pos h]
/-- UPRIGHT, from both sides -/
theorem upright {l : List UInt8} (h : Up l) : strip_Upright.f (txt l) = some (txt l, 0) := by
  have hl := h.len
  unfold strip_Upright.f
  rw [valid_f l (by omega), h.isStrip]
  simp only [Option.bind_some, if_true]
  rw [flip_f l (by omega)]
  simp only [Option.bind_some]
  rw [begins_f l hl, h.begins]
  simp only [Option.bind_some, if_true]
theorem upright_flip {l : List UInt8} (h : Up l) : strip_Upright.f (txt l.reverse) = some (txt l, 0) := by
  have hl := h.len
  have hr := h.flip_len
  unfold strip_Upright.f
  rw [valid_f l.reverse (by omega), h.flip_strip]
  simp only [Option.bind_some, if_true]
  rw [flip_f l.reverse (by omega), List.reverse_reverse]
  simp only [Option.bind_some]
  rw [begins_f l.reverse hr, h.flip_begins]
  simp only [Option.bind_some, Bool.false_eq_true, if_false]
  rw [begins_f l hl, h.begins]
  simp only [Option.bind_some, if_true]
theorem word_f {l : List UInt8} (h : Up l) : strip_Word.f (txt l) = some (wordl (txt l), 0) := by
  unfold strip_Word.f
  rw [H.txt_size, if_pos (by have := h.len; omega)]
  unfold H.wordr
  rw [h.isStrip]; rfl
theorem decode_f {w c : List Int} (h : Near w c) : rscode_Decode.f w = some (c.take (w.length - 6), ((H.wrong w c).length : Int), 0) := by
  unfold rscode_Decode.f
  have h1 := h.code.hi
  have h2 := h.len
  rw [if_pos (by omega), h.decode]
/-- the numbers that six symbols write -/
def cand (d : List Int) : Int := d.getD 1 0 * 1024 + d.getD 2 0 * 32 + d.getD 3 0
/-- what READ gives at a strip near a codeword -/
def readr (d : List Int) (n : Int) : Int × Int × Int × Int × Int × Int :=
  if labelf (d.getD 0 0) (cand d) (d.getD 4 0) (d.getD 5 0) = true then (d.getD 0 0, cand d, d.getD 4 0, d.getD 5 0, n, 0) else (0, 0, 0, 0, 0, 2)
theorem read_up {t : ByteArray} {l : List UInt8} (hu : strip_Upright.f t = some (txt l, 0)) (h : Up l) {c : List Int} (hc : c.length = 12) (hn : Near (wordl (txt l)) c) :
    strip_Read.f t = some (readr (c.take 6) ((H.wrong (wordl (txt l)) c).length : Int)) := by
  unfold strip_Read.f
  rw [hu]
  simp only [Option.bind_some, if_true]
  rw [word_f h]
  simp only [Option.bind_some]
  rw [decode_f hn, H.wordl_length]
  have hd : (c.take 6).length = 6 := by rw [List.length_take]; omega
  have hr : ∀ i, i < 6 → 0 ≤ (c.take 6).getD i 0 ∧ (c.take 6).getD i 0 ≤ 31 := by
    intro i hi
    have := hn.code.range i (by omega)
    rw [List.getD_eq_getElem?_getD, List.getElem?_take, if_pos hi, ← List.getD_eq_getElem?_getD]
    exact this
  obtain ⟨d, he⟩ : ∃ d, c.take 6 = d := ⟨_, rfl⟩
  rw [he] at hd hr
  rw [show (12 : Nat) - 6 = 6 from rfl, he]
  simp only [Option.bind_some, if_true]
  have hrd : ∀ i : Nat, i < 6 → rd d (i : Int) = d.getD i 0 := by intro i hi; simp [rd]
  have r0 := hrd 0 (by omega)
  have r1 := hrd 1 (by omega)
  have r2 := hrd 2 (by omega)
  have r3 := hrd 3 (by omega)
  have r4 := hrd 4 (by omega)
  have r5 := hrd 5 (by omega)
  have h1 := hr 1 (by omega)
  have h2 := hr 2 (by omega)
  have h3 := hr 3 (by omega)
  have hdl : (d.length : Int) = 6 := by rw [hd]; rfl
  rw [hdl, if_pos (by omega), if_pos (by omega), if_pos (by omega), if_pos (by omega), if_pos (by omega), if_pos (by omega)]
  rw [show rd d 0 = d.getD 0 0 from r0, show rd d 1 = d.getD 1 0 from r1, show rd d 2 = d.getD 2 0 from r2, show rd d 3 = d.getD 3 0 from r3, show rd d 4 = d.getD 4 0 from r4, show rd d 5 = d.getD 5 0 from r5]
  have hw : wrap64 (wrap64 (wrap64 (d.getD 1 0 * 1024) + wrap64 (d.getD 2 0 * 32)) + d.getD 3 0) = cand d := by unfold wrap64 cand; omega
  rw [hw]
  unfold strip_Valid.f readr
  simp only [Option.bind_some]
  split <;> rfl
end Go.Proofs.YtcpmgkedmmiioaaGreatDoor.T
end

section
set_option linter.unusedVariables false
namespace Go.Proofs.YtcpmgkedmmiioaaGreatDoor.T
open Go.RowKit Go.Proofs.YtcpmgkedmmiioaaGreatDoor.P Go.Proofs.YtcpmgkedmmiioaaGreatDoorW.PrintWords Go.Proofs.YtcpmgkedmmiioaaGreatDoorW.PrintLast
/-- a tape: numbers of int's range, read up to p -/
structure Tape (l : List Int) (p : Int) : Prop where
  len : l.length ≤ 600
  lo : 0 ≤ p
  hi : p ≤ l.length
  num : ∀ x, x ∈ l → -9223372036854775808 ≤ x ∧ x ≤ 9223372036854775807
theorem wf_num {x : Int} (h : (Lit.int .i64 x).wf = true) : -9223372036854775808 ≤ x ∧ x ≤ 9223372036854775807 := bounds_i64 h
theorem rd_getElem (l : List Int) (i : Int) (h0 : 0 ≤ i) (h : i < l.length) : ∃ h', rd l i = l[i.toNat]'h' := by
  have h' : i.toNat < l.length := by omega
  exact ⟨h', by simp [rd, h']⟩
theorem rd_mem {l : List Int} {i : Int} (h0 : 0 ≤ i) (h : i < l.length) : rd l i ∈ l := by
  obtain ⟨h', e⟩ := rd_getElem l i h0 h
  rw [e]; exact List.getElem_mem h'
theorem cut {x n : Int} (hx : -9223372036854775808 ≤ x ∧ x ≤ 9223372036854775807) (h1 : 1 ≤ n) (hn : n ≤ 9223372036854775807) : awardingbodymake_Cut.f x n = some (x % n) := by
  unfold awardingbodymake_Cut.f
  rw [if_neg (by omega), if_neg (by omega)]
  have hm0 := Int.emod_nonneg x (show n ≠ 0 by omega)
  have hm1 := Int.emod_lt_of_pos x (show 0 < n by omega)
  by_cases h : x < 0
  · have e : Int.tmod x n = -((-x) % n) := by
      obtain ⟨y, rfl⟩ : ∃ y, x = -y := ⟨-x, by omega⟩
      rw [Int.neg_tmod, Int.neg_neg, Int.tmod_eq_emod_of_nonneg (by omega)]
    have hk0 := Int.emod_nonneg (-x) (show n ≠ 0 by omega)
    have hk1 := Int.emod_lt_of_pos (-x) (show 0 < n by omega)
    rw [e]
    by_cases hz : (-x) % n = 0
    · rw [if_neg (by omega)]
      have : x % n = 0 := by
        have := Int.dvd_of_emod_eq_zero hz
        exact Int.emod_eq_zero_of_dvd ((Int.dvd_neg).1 this)
      rw [this, hz]; rfl
    · rw [if_pos (by omega)]
      have hw : wrap64 (-((-x) % n) + n) = -((-x) % n) + n := by unfold wrap64; omega
      rw [hw]
      congr 1
      have h3 : (-((-x) % n) + n) % n = -((-x) % n) + n := Int.emod_eq_of_lt (by omega) (by omega)
      rw [← h3]
      have h4 : (-x) = n * ((-x) / n) + (-x) % n := (Int.mul_ediv_add_emod (-x) n).symm
      have h5 : -((-x) % n) + n = x + n * ((-x) / n + 1) := by rw [Int.mul_add, Int.mul_one]; omega
      rw [h5, Int.add_mul_emod_self_left]
  · have e : Int.tmod x n = x % n := Int.tmod_eq_emod_of_nonneg (by omega)
    rw [e, if_neg (by omega)]
theorem raw {l : List Int} {p : Int} (h : Tape l p) : ∃ x q, awardingbodymake_Tape_Raw.f l p = some (x, q) ∧ Tape l q ∧ -9223372036854775808 ≤ x ∧ x ≤ 9223372036854775807 := by
  have h1 := h.lo
  have h2 := h.hi
  have h3 := h.len
  unfold awardingbodymake_Tape_Raw.f
  by_cases hp : p ≥ (l.length : Int)
  · rw [if_pos hp]; exact ⟨0, p, rfl, h, by omega, by omega⟩
  · rw [if_neg hp]
    have e1 : wrap64 (p + 1) = p + 1 := by unfold wrap64; omega
    have e2 : wrap64 (p + 1 - 1) = p := by unfold wrap64; omega
    rw [e1, e2, if_pos h1, if_pos (by omega)]
    have := h.num _ (rd_mem h1 (by omega : p < l.length))
    exact ⟨_, _, rfl, ⟨h3, by omega, by omega, h.num⟩, this.1, this.2⟩
theorem next {l : List Int} {p n : Int} (h : Tape l p) (h1 : 1 ≤ n) (hn : n ≤ 9223372036854775807) : ∃ x q, awardingbodymake_Tape_Next.f l p n = some (x, q) ∧ Tape l q ∧ 0 ≤ x ∧ x < n := by
  obtain ⟨x, q, e, hq, hx⟩ := raw h
  unfold awardingbodymake_Tape_Next.f
  rw [e]
  simp only [Option.bind_some]
  rw [cut hx h1 hn]
  exact ⟨_, _, rfl, hq, Int.emod_nonneg x (by omega), Int.emod_lt_of_pos x (by omega)⟩
theorem new {l : List Int} (h : ∀ x ∈ l, (Lit.int .i64 x).wf = true) : ∃ m, awardingbodymake_New.f l = some (m, 0) ∧ Tape m 0 := by
  unfold awardingbodymake_New.f
  by_cases hl : (l.length : Int) > 600
  · rw [if_pos hl, if_pos (by omega)]
    exact ⟨_, rfl, by rw [List.length_take]; omega, by omega, by omega, fun x hx => wf_num (h x (List.mem_of_mem_take hx))⟩
  · rw [if_neg hl]
    exact ⟨_, rfl, by omega, by omega, by omega, fun x hx => wf_num (h x hx)⟩
theorem range {l : List Int} {p : Int} (h : Tape l p) (a b : Int) (ha : 0 ≤ a) (hb : a ≤ b) (hb2 : b ≤ 1000000) : ∃ x q, awardingbodymake_Tape_Range.f l p a b = some (x, q) ∧ Tape l q ∧ a ≤ x ∧ x ≤ b := by
  unfold awardingbodymake_Tape_Range.f
  have e : wrap64 (wrap64 (b - a) + 1) = b - a + 1 := by unfold wrap64; omega
  rw [e]
  obtain ⟨x, q, e, hq, h0, h1⟩ := next h (show 1 ≤ b - a + 1 by omega) (by omega)
  rw [e]
  simp only [Option.bind_some]
  have e2 : wrap64 (a + x) = a + x := by unfold wrap64; omega
  rw [e2]
  exact ⟨_, _, rfl, hq, by omega, by omega⟩
theorem pick {l : List Int} {p : Int} (h : Tape l p) (c : List Int) (h1 : 1 ≤ c.length) (h2 : c.length ≤ 1000) : ∃ x q, awardingbodymake_Tape_Pick.f l p c = some (x, q) ∧ Tape l q ∧ x ∈ c := by
  unfold awardingbodymake_Tape_Pick.f
  obtain ⟨x, q, e, hq, h0, h1⟩ := next h (show 1 ≤ (c.length : Int) by omega) (by omega)
  rw [e]
  simp only [Option.bind_some]
  rw [if_pos h0, if_pos h1]
  exact ⟨_, _, rfl, hq, rd_mem h0 h1⟩
theorem spoil0 (l : List Int) (p a : Int) : awardingbodymake_Tape_Spoil.f l p a 0 = some (a, p) := by unfold awardingbodymake_Tape_Spoil.f; rw [if_neg (by omega)]
/-- a valid label is drawn -/
theorem label {l : List Int} {p : Int} (h : Tape l p) : ∃ a b c d q, awardingbodymake_Tape_Label.f l p 0 = some (a, b, c, d, q) ∧ Tape l q ∧ H.labelf a b c d = true := by
  unfold awardingbodymake_Tape_Label.f
  obtain ⟨a, q1, e1, t1, a0, a1⟩ := range h 0 31 (by omega) (by omega) (by omega)
  obtain ⟨b, q2, e2, t2, hb⟩ := pick t1 [0, 1, 31, 32, 1023, 1024, 5000, 9998, 9999] (by simp) (by simp)
  obtain ⟨c, q3, e3, t3, c0, c1⟩ := range t2 0 31 (by omega) (by omega) (by omega)
  obtain ⟨d, q4, e4, t4, d0, d1⟩ := range t3 0 31 (by omega) (by omega) (by omega)
  simp only [e1, Option.bind_some, spoil0, e2, e3, e4]
  refine ⟨a, b, c, d, q4, rfl, t4, ?_⟩
  have hb2 : 0 ≤ b ∧ b ≤ 9999 := by
    simp only [List.mem_cons, List.mem_nil_iff, or_false] at hb
    rcases hb with rfl | rfl | rfl | rfl | rfl | rfl | rfl | rfl | rfl <;> omega
  have hn : ∀ x : Int, 0 ≤ x → x ≤ 31 → H.bad31 x = false := by
    intro x h0 h1; unfold H.bad31; rw [Bool.or_eq_false_iff, decide_eq_false_iff_not, decide_eq_false_iff_not]; omega
  unfold H.labelf
  rw [hn a a0 a1, hn c c0 c1, hn d d0 d1, decide_eq_true hb2.1, decide_eq_true hb2.2]; rfl
end Go.Proofs.YtcpmgkedmmiioaaGreatDoor.T
end

section
set_option linter.unusedVariables false
namespace Go.Proofs.YtcpmgkedmmiioaaGreatDoor.T
open Go.RowKit Go.Proofs.YtcpmgkedmmiioaaGreatDoor.P Go.Proofs.YtcpmgkedmmiioaaGreatDoorW.PrintWords Go.Proofs.YtcpmgkedmmiioaaGreatDoorW.PrintLast
open H (txt Up isStrip beginsf wordl stripl Near IsCode labelf symf bad31 encf)
theorem bad31_false {x : Int} (h : bad31 x = false) : 0 ≤ x ∧ x ≤ 31 := by
  unfold H.bad31 at h
  rw [Bool.or_eq_false_iff, decide_eq_false_iff_not, decide_eq_false_iff_not] at h
  omega
theorem label_range {a b c d : Int} (h : labelf a b c d = true) : (0 ≤ a ∧ a ≤ 31) ∧ (0 ≤ b ∧ b ≤ 9999) ∧ (0 ≤ c ∧ c ≤ 31) ∧ (0 ≤ d ∧ d ≤ 31) := by
  unfold H.labelf at h
  simp only [Bool.and_eq_true, Bool.not_eq_true', decide_eq_true_eq] at h
  obtain ⟨⟨⟨⟨h1, h2⟩, h3⟩, h4⟩, h5⟩ := h
  exact ⟨bad31_false h1, ⟨h4, h5⟩, bad31_false h2, bad31_false h3⟩
theorem six_range {x : Nat → Int} (h : ∀ i, i < 6 → 0 ≤ x i ∧ x i ≤ 31) : ∀ i, i < ([x 0, x 1, x 2, x 3, x 4, x 5] : List Int).length → 0 ≤ ([x 0, x 1, x 2, x 3, x 4, x 5] : List Int).getD i 0 ∧ ([x 0, x 1, x 2, x 3, x 4, x 5] : List Int).getD i 0 ≤ 31 := by
  intro i hi
  simp only [List.length_cons, List.length_nil] at hi
  rcases (show i = 0 ∨ i = 1 ∨ i = 2 ∨ i = 3 ∨ i = 4 ∨ i = 5 by omega) with rfl | rfl | rfl | rfl | rfl | rfl
  · exact h 0 (by omega)
  · exact h 1 (by omega)
  · exact h 2 (by omega)
  · exact h 3 (by omega)
  · exact h 4 (by omega)
  · exact h 5 (by omega)
/-- the word of six symbols -/
theorem word_six {d : List Int} (hl : d.length = 6) (hr : ∀ i, i < d.length → 0 ≤ d.getD i 0 ∧ d.getD i 0 ≤ 31) : (encf d).2 = 0 ∧ IsCode (encf d).1 ∧ (encf d).1.length = 12 ∧ (encf d).1.take 6 = d := by
  obtain ⟨h1, h2, h3, h4⟩ := H.encf_code (d := d) (by omega) (by omega) hr
  refine ⟨h1, h2, by rw [h3, hl], H.lists_ext (by rw [List.length_take, h3, hl]; rfl) fun i hi => ?_⟩
  rw [List.length_take] at hi
  rw [List.getD_eq_getElem?_getD, List.getElem?_take, if_pos (by omega), ← List.getD_eq_getElem?_getD, h4 i (by omega)]
theorem symf_range {a b c d : Int} (h : labelf a b c d = true) : ∀ i, i < (symf a b c d).length → 0 ≤ (symf a b c d).getD i 0 ∧ (symf a b c d).getD i 0 ≤ 31 := by
  obtain ⟨h1, h2, h3, h4⟩ := label_range h
  have := six_range (x := fun i => if i = 0 then a else if i = 1 then b / 1024 else if i = 2 then b / 32 % 32 else if i = 3 then b % 32 else if i = 4 then c else d) (fun i hi => by
    rcases (show i = 0 ∨ i = 1 ∨ i = 2 ∨ i = 3 ∨ i = 4 ∨ i = 5 by omega) with rfl | rfl | rfl | rfl | rfl | rfl <;> simp <;> omega)
  exact this
theorem symf_cand {a b c d : Int} (h : labelf a b c d = true) : cand (symf a b c d) = b := by
  obtain ⟨_, h2, _⟩ := label_range h
  show b / 1024 * 1024 + b / 32 % 32 * 32 + b % 32 = b
  omega
/-- DRAW: the strip of a codeword that begins with the label's symbols -/
theorem draw {a b c d : Int} (h : labelf a b c d = true) : ∃ ws, strip_Draw.f a b c d = some (txt (stripl ws), 0) ∧ IsCode ws ∧ ws.length = 12 ∧ ws.take 6 = symf a b c d := by
  obtain ⟨_, h2, h3, h4⟩ := word_six (d := symf a b c d) rfl (symf_range h)
  refine ⟨_, ?_, h2, h3, h4⟩
  unfold strip_Draw.f H.drawr
  rw [if_pos h]; rfl
theorem code_up {ws : List Int} (h : IsCode ws) (hl : ws.length = 12) : Up (stripl ws) := H.stripl_up ws hl h.range
theorem near_self {ws : List Int} (h : IsCode ws) : Near ws ws ∧ (H.wrong ws ws).length = 0 := by
  have hw : H.wrong ws ws = [] := by
    unfold H.wrong; rw [List.filter_eq_nil_iff]; intro i _; simp
  have he : H.erased ws = [] := by
    unfold H.erased; rw [List.filter_eq_nil_iff]
    intro i hi
    have := h.range i (List.mem_range.1 hi)
    simp only [decide_eq_true_eq]; omega
  refine ⟨⟨h, rfl, fun i hi => by have := h.range i hi; omega, by rw [hw, he]; simp⟩, by rw [hw]; rfl⟩
theorem readr_symf {a b c d : Int} (h : labelf a b c d = true) (n : Int) : readr (symf a b c d) n = (a, b, c, d, n, 0) := by
  unfold readr
  rw [symf_cand h]
  show (if labelf a b c d = true then (a, b, c, d, n, 0) else (0, 0, 0, 0, 0, 2)) = _
  rw [if_pos h]
/-- READ of an undamaged strip, from both sides -/
theorem read_clean {ws : List Int} (h : IsCode ws) (hl : ws.length = 12) : strip_Read.f (txt (stripl ws)) = some (readr (ws.take 6) 0) ∧ strip_Read.f (txt (stripl ws).reverse) = some (readr (ws.take 6) 0) := by
  have hu := code_up h hl
  have hw : wordl (txt (stripl ws)) = ws := H.wordl_stripl ws hl h.range
  obtain ⟨hn, h0⟩ := near_self h
  have key : ∀ t, strip_Upright.f t = some (txt (stripl ws), 0) → strip_Read.f t = some (readr (ws.take 6) 0) := by
    intro t ht
    have := read_up ht hu hl (by rw [hw]; exact hn)
    rw [hw, h0] at this
    exact this
  exact ⟨key _ (upright hu), key _ (upright_flip hu)⟩
theorem take8 {ws : List Int} (hl : ws.length = 12) (h0 : ws.getD 0 0 = 0) : (stripl ws).take 8 = [49, 49, 49, 49, 49, 49, 49, 48] := by
  have e : (stripl ws).take 8 = (stripl ws).take 7 ++ (((stripl ws).drop (7 + 0 * 5)).take 5).take 1 := by
    rw [List.take_take, show min 1 5 = 1 from rfl, show 7 + 0 * 5 = 7 from rfl, ← List.take_add]
  rw [e, H.stripl_take, H.stripl_chunk ws hl 0 (by omega), h0]
  decide
theorem awake_true : awardingbodylaw19_awake.f = some true := by
  have hA : labelf 3 9999 2 1 = true := by decide
  have hB : labelf 0 0 0 0 = true := by decide
  obtain ⟨ws, hd, hc, hl, ht⟩ := draw hA
  obtain ⟨wz, hd2, hc2, hl2, ht2⟩ := draw hB
  have hr := (read_clean hc hl).2
  rw [ht, readr_symf hA] at hr
  have h74 := (code_up hc hl).len
  have h742 := (code_up hc2 hl2).len
  unfold awardingbodylaw19_awake.f
  rw [hd]
  simp only [Option.bind_some]
  rw [flip_f _ (by omega)]
  simp only [Option.bind_some]
  rw [hr]
  simp only [Option.bind_some]
  rw [hd2]
  simp only [Option.bind_some]
  rw [H.txt_size, H.txt_size, h74, h742]
  have hz : wz.getD 0 0 = 0 := by
    have : (wz.take 6).getD 0 0 = (symf 0 0 0 0).getD 0 0 := by rw [ht2]
    rw [List.getD_eq_getElem?_getD, List.getElem?_take, if_pos (by omega), ← List.getD_eq_getElem?_getD] at this
    rw [this]; rfl
  have h8 : ((txt (stripl wz)).extract 0 8).toList = [49, 49, 49, 49, 49, 49, 49, 48] := by
    rw [ByteArray.toList_eq, ByteArray.data_extract, Array.toList_extract, List.extract_eq_take_drop, H.txt_list]
    exact take8 hl2 hz
  rw [h8]
  decide
end Go.Proofs.YtcpmgkedmmiioaaGreatDoor.T
end
