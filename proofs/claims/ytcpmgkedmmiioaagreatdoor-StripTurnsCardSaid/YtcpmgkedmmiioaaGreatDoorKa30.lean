/- stripTurns_card, part 30: what the row's proof needs: words of the print, contracts of functions, the plain law. -/
import Derived.Test.YtcpmgkedmmiioaaGreatDoorKa29
import Derived.Test.YtcpmgkedmmiioaaGreatDoorKa24
section
set_option linter.unusedVariables false
namespace Go.Proofs.YtcpmgkedmmiioaaGreatDoor.T
open Go.RowKit Go.Proofs.YtcpmgkedmmiioaaGreatDoor.P Go.Proofs.YtcpmgkedmmiioaaGreatDoorW.PrintWords Go.Proofs.YtcpmgkedmmiioaaGreatDoorW.PrintLast
open H (txt Up isStrip beginsf wordl stripl Near IsCode labelf symf bad31 encf mods body)
theorem modules_dec : ∀ x : Fin 32, (awardingbodyref19_Modules.f 10 (x.val : Int)).map (fun s => s.data.toList) = some (mods (x.val : Int)) := by decide +kernel
theorem modules {x : Int} (h0 : 0 ≤ x) (h1 : x ≤ 31) : awardingbodyref19_Modules.f 10 x = some (txt (mods x)) := by
  have := modules_dec ⟨x.toNat, by omega⟩
  simp only at this
  rw [Int.toNat_of_nonneg h0] at this
  obtain ⟨s, hs, he⟩ := Option.map_eq_some_iff.1 this
  rw [hs, ← he, H.txt_of]
theorem txt_append (l m : List UInt8) : txt l ++ txt m = txt (l ++ m) := by
  apply ByteArray.ext
  simp [txt]
theorem modules_up {x : Int} (h0 : 0 ≤ x) (h1 : x ≤ 31) {k : Nat} (hk : 10 ≤ k) : awardingbodyref19_Modules.f k x = some (txt (mods x)) := by
  have h := modules h0 h1
  obtain ⟨j, rfl⟩ : ∃ j, k = 10 + j := ⟨k - 10, by omega⟩
  clear hk
  induction j with
  | zero => exact h
  | succ j ih => exact awardingbodyref19_Modules.mono x (10 + j) _ ih
theorem ref_symbols {a b c d : Int} (h : labelf a b c d = true) : awardingbodyref19_Symbols.f a b c d = some (symf a b c d, 0) := by
  obtain ⟨h1, h2, h3, h4⟩ := label_range h
  have hi : ∀ x m : Int, 0 ≤ x → x ≤ m → awardingbodyref19_inside.f x m = some true := by
    intro x m h0 h1; unfold awardingbodyref19_inside.f; rw [if_pos h0, decide_eq_true h1]
  have hv : awardingbodyref19_Valid.f a b c d = some true := by
    unfold awardingbodyref19_Valid.f
    rw [hi a 31 h1.1 h1.2, Option.bind_some, if_pos rfl, hi c 31 h3.1 h3.2, Option.bind_some, if_pos rfl, hi d 31 h4.1 h4.2, Option.bind_some, if_pos rfl, hi b 9999 h2.1 h2.2, Option.bind_some]
  unfold awardingbodyref19_Symbols.f
  rw [hv, Option.bind_some, if_pos rfl]
  have q1 : wrap64 (Int.tdiv b 1024) = b / 1024 := by rw [Int.tdiv_eq_ediv_of_nonneg h2.1]; unfold wrap64; omega
  have q2 : wrap64 (Int.tdiv b 32) = b / 32 := by rw [Int.tdiv_eq_ediv_of_nonneg h2.1]; unfold wrap64; omega
  have q3 : Int.tmod b 32 = b % 32 := Int.tmod_eq_emod_of_nonneg h2.1
  have q4 : Int.tmod (b / 32) 32 = b / 32 % 32 := Int.tmod_eq_emod_of_nonneg (by omega)
  rw [q1, q2, q3, q4]; rfl
theorem ref_encode {a b c d : Int} (h : labelf a b c d = true) : awardingbodyref18_Encode.f (symf a b c d) = some ((encf (symf a b c d)).1, 0) := by
  unfold awardingbodyref18_Encode.f
  rw [if_pos]
  have hr := symf_range h
  unfold symbs
  rw [Bool.and_eq_true, Bool.and_eq_true, decide_eq_true_eq, decide_eq_true_eq, List.all_eq_true]
  refine ⟨show 1 ≤ 6 by omega, show 6 ≤ 9 by omega, fun x hx => ?_⟩
  obtain ⟨i, hi, e⟩ := List.getElem_of_mem hx
  have := hr i hi
  rw [List.getD_eq_getElem?_getD, List.getElem?_eq_getElem hi, e] at this
  rw [Bool.and_eq_true, decide_eq_true_eq, decide_eq_true_eq]
  exact this
theorem draw_loop (ws : List Int) (hc : IsCode ws) (hl : ws.length = 12) : ∀ j (i : Nat), i + j = 12 → awardingbodyref19_Draw.l0 (j + 12) ws (txt (body ws i)) (i : Int) = some (txt (stripl ws), 0) := by
  intro j
  induction j with
  | zero =>
    intro i hi
    obtain rfl : i = 12 := by omega
    unfold awardingbodyref19_Draw.l0
    have hb : (txt (body ws 12)).size = 67 := by rw [H.txt_size, H.body_length]
    rw [if_neg (by omega), if_pos (by rw [hb]; decide)]
    have e : txt (body ws 12) ++ (⟨#[48, 48, 48, 48, 48, 48, 48]⟩ : ByteArray) = txt (stripl ws) := by
      show txt (body ws 12) ++ txt H.zeros = _
      rw [txt_append]; unfold H.stripl; rw [hl]
    rw [e]
  | succ j ih =>
    intro i hi
    rw [show j + 1 + 12 = (j + 12) + 1 from by omega]
    unfold awardingbodyref19_Draw.l0
    rw [if_pos (by omega), if_pos (by omega)]
    have hr := hc.range i (by omega)
    have e : rd ws (i : Int) = ws.getD i 0 := by simp [rd]
    rw [e, modules_up hr.1 hr.2 (by omega), Option.bind_some]
    rw [if_pos (by rw [H.txt_size, H.txt_size, H.body_length, H.mods_length]; omega)]
    have e2 : wrap64 ((i : Int) + 1) = ((i + 1 : Nat) : Int) := by unfold wrap64; omega
    rw [e2, txt_append]
    exact ih (i + 1) (by omega)
/-- THE REFERENCE's strip -/
theorem ref_draw {a b c d : Int} (h : labelf a b c d = true) (k : Nat) (hk : 24 ≤ k) : ∃ ws, awardingbodyref19_Draw.f k a b c d = some (txt (stripl ws), 0) ∧ IsCode ws ∧ ws.length = 12 ∧ ws.take 6 = symf a b c d := by
  obtain ⟨_, h2, h3, h4⟩ := word_six (d := symf a b c d) rfl (symf_range h)
  refine ⟨_, ?_, h2, h3, h4⟩
  obtain ⟨j, rfl⟩ : ∃ j, k = 24 + j := ⟨k - 24, by omega⟩
  clear hk
  induction j with
  | zero =>
    unfold awardingbodyref19_Draw.f
    rw [ref_symbols h, Option.bind_some, if_pos rfl, ref_encode h, Option.bind_some]
    exact draw_loop _ h2 h3 12 0 rfl
  | succ j ih => exact awardingbodyref19_Draw.mono _ _ _ _ _ _ ih
end Go.Proofs.YtcpmgkedmmiioaaGreatDoor.T
end
