/- stripSurvives_card, part 18: what the row's proof needs: words of the print, contracts of functions, the plain law. -/
import Derived.Test.YtcpmgkedmmiioaaDoorKb15
import Derived.Test.YtcpmgkedmmiioaaDoorKb17
section
set_option linter.unusedVariables false
namespace Go.Proofs.YtcpmgkedmmiioaaDoor.T
open Go.RowKit Go.Proofs.YtcpmgkedmmiioaaDoor.P Go.Proofs.YtcpmgkedmmiioaaDoorW.PrintWords Go.Proofs.YtcpmgkedmmiioaaDoorW.PrintLast
open H (txt Up isStrip beginsf wordl stripl Near IsCode labelf symf bad31 encf)
theorem flip_f (l : List UInt8) (h : l.length ≤ 1000) : strip_Flip.f (txt l) = some (txt l.reverse) := by
  unfold strip_Flip.f
  rw [H.txt_size, if_pos (by omega), H.txt_list]; rfl
theorem valid_f (l : List UInt8) (h : l.length ≤ 1000) : strip_valid.f (txt l) = some (isStrip (txt l)) := by
  unfold strip_valid.f; rw [H.txt_size, if_pos (by omega)]
theorem begins_f (l : List UInt8) (h : l.length = 74) : strip_begins.f (txt l) = some (beginsf (txt l)) := by
  unfold strip_begins.f; rw [H.txt_size, if_pos h]
/-- UPRIGHT, from both sides -/
theorem upright {l : List UInt8} (h : Up l) : strip_Upright.f (txt l) = some (txt l, 0) := by
  have hl := h.len
  unfold strip_Upright.f
  rw [valid_f l (by omega), h.isStrip]
  simp only [Option.bind_some, if_true]
  rw [flip_f l (by omega)]
  simp only [Option.bind_some]
  rw [begins_f l hl, h.begins]
  simp only [Option.bind_some, if_true]
theorem upright_flip {l : List UInt8} (h : Up l) : strip_Upright.f (txt l.reverse) = some (txt l, 0) := by
  have hl := h.len
  have hr := h.flip_len
  unfold strip_Upright.f
  rw [valid_f l.reverse (by omega), h.flip_strip]
  simp only [Option.bind_some, if_true]
  rw [flip_f l.reverse (by omega), List.reverse_reverse]
  simp only [Option.bind_some]
  rw [begins_f l.reverse hr, h.flip_begins]
  simp only [Option.bind_some, Bool.false_eq_true, if_false]
  rw [begins_f l hl, h.begins]
  simp only [Option.bind_some, if_true]
theorem word_f {l : List UInt8} (h : Up l) : strip_Word.f (txt l) = some (wordl (txt l), 0) := by
  unfold strip_Word.f
  rw [H.txt_size, if_pos (by have := h.len; omega)]
  unfold H.wordr
  rw [h.isStrip]; rfl
theorem decode_f {w c : List Int} (h : Near w c) : rscode_Decode.f w = some (c.take (w.length - 6), ((H.wrong w c).length : Int), 0) := by
  unfold rscode_Decode.f
  have h1 := h.code.hi
  have h2 := h.len
  rw [if_pos (by omega), h.decode]
/-- the numbers that six symbols write -/
def cand (d : List Int) : Int := d.getD 1 0 * 1024 + d.getD 2 0 * 32 + d.getD 3 0
/-- what READ gives at a strip near a codeword -/
def readr (d : List Int) (n : Int) : Int × Int × Int × Int × Int × Int :=
  if labelf (d.getD 0 0) (cand d) (d.getD 4 0) (d.getD 5 0) = true then (d.getD 0 0, cand d, d.getD 4 0, d.getD 5 0, n, 0) else (0, 0, 0, 0, 0, 2)
theorem read_up {t : ByteArray} {l : List UInt8} (hu : strip_Upright.f t = some (txt l, 0)) (h : Up l) {c : List Int} (hc : c.length = 12) (hn : Near (wordl (txt l)) c) :
    strip_Read.f t = some (readr (c.take 6) ((H.wrong (wordl (txt l)) c).length : Int)) := by
  unfold strip_Read.f
  rw [hu]
  simp only [Option.bind_some, if_true]
  rw [word_f h]
  simp only [Option.bind_some]
  rw [decode_f hn, H.wordl_length]
  have hd : (c.take 6).length = 6 := by rw [List.length_take]; omega
  have hr : ∀ i, i < 6 → 0 ≤ (c.take 6).getD i 0 ∧ (c.take 6).getD i 0 ≤ 31 := by
    intro i hi
    have := hn.code.range i (by omega)
    rw [List.getD_eq_getElem?_getD, List.getElem?_take, if_pos hi, ← List.getD_eq_getElem?_getD]
    exact this
  obtain ⟨d, he⟩ : ∃ d, c.take 6 = d := ⟨_, rfl⟩
  rw [he] at hd hr
  rw [show (12 : Nat) - 6 = 6 from rfl, he]
  simp only [Option.bind_some, if_true]
  have hrd : ∀ i : Nat, i < 6 → rd d (i : Int) = d.getD i 0 := by intro i hi; simp [rd]
  have r0 := hrd 0 (by omega)
  have r1 := hrd 1 (by omega)
  have r2 := hrd 2 (by omega)
  have r3 := hrd 3 (by omega)
  have r4 := hrd 4 (by omega)
  have r5 := hrd 5 (by omega)
  have h1 := hr 1 (by omega)
  have h2 := hr 2 (by omega)
  have h3 := hr 3 (by omega)
  have hdl : (d.length : Int) = 6 := by rw [hd]; rfl
  rw [hdl, if_pos (by omega), if_pos (by omega), if_pos (by omega), if_pos (by omega), if_pos (by omega), if_pos (by omega)]
  rw [show rd d 0 = d.getD 0 0 from r0, show rd d 1 = d.getD 1 0 from r1, show rd d 2 = d.getD 2 0 from r2, show rd d 3 = d.getD 3 0 from r3, show rd d 4 = d.getD 4 0 from r4, show rd d 5 = d.getD 5 0 from r5]
  have hw : wrap64 (wrap64 (wrap64 (d.getD 1 0 * 1024) + wrap64 (d.getD 2 0 * 32)) + d.getD 3 0) = cand d := by unfold wrap64 cand; omega
  rw [hw]
  unfold strip_Valid.f readr
  simp only [Option.bind_some]
  split <;> rfl
end Go.Proofs.YtcpmgkedmmiioaaDoor.T
end
