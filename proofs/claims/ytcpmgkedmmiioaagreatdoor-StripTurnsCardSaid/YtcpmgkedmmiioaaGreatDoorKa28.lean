/- stripTurns_card, part 28: what the row's proof needs: words of the print, contracts of functions, the plain law. -/
import Derived.Test.YtcpmgkedmmiioaaGreatDoorKa22
import Derived.Test.YtcpmgkedmmiioaaGreatDoorKa14
section
set_option linter.unusedVariables false
namespace Go.Proofs.YtcpmgkedmmiioaaGreatDoor.H
open Go.RowKit Go.Proofs.YtcpmgkedmmiioaaGreatDoor.Gf
/-- the five modules of a symbol: none is '?', and they write it -/
theorem mods_dec : ∀ x : Fin 32, accu (mods (x.val : Int)) 5 = x.val ∧ (mods (x.val : Int)).all (fun b => b == 48 || b == 49) = true ∧ (mods (x.val : Int)).contains 63 = false := by decide +kernel
theorem mods_num {x : Int} (h0 : 0 ≤ x) (h1 : x ≤ 31) : accu (mods x) 5 = x ∧ (mods x).all (fun b => b == 48 || b == 49) = true ∧ (mods x).contains 63 = false := by
  have := mods_dec ⟨x.toNat, by omega⟩
  simp only at this
  rw [Int.toNat_of_nonneg h0] at this
  exact this
theorem mods_length (x : Int) : (mods x).length = 5 := rfl
theorem body_get (ws : List Int) : ∀ k, body ws k = ones ++ (List.range k).flatMap (fun q => mods (ws.getD q 0)) := by
  intro k
  induction k with
  | zero => simp [body]
  | succ k ih => simp only [body, ih, List.range_succ, List.flatMap_append, List.flatMap_cons, List.flatMap_nil, List.append_nil, List.append_assoc]
theorem stripl_length (ws : List Int) (h : ws.length = 12) : (stripl ws).length = 74 := by
  unfold stripl; rw [List.length_append, body_length, h]; rfl
theorem body_chunk (ws : List Int) (k i : Nat) (hi : i < k) : ((body ws k).drop (7 + i * 5)).take 5 = mods (ws.getD i 0) := by
  induction k with
  | zero => omega
  | succ k ih =>
    simp only [body]
    have hl := body_length ws k
    by_cases h : i = k
    · subst h
      rw [List.drop_append_of_le_length (by omega), List.drop_of_length_le (by omega), List.nil_append]
      exact List.take_of_length_le (by rw [mods_length]; exact Nat.le_refl _)
    · rw [List.drop_append_of_le_length (by omega), List.take_append_of_le_length (by rw [List.length_drop]; omega)]
      exact ih (by omega)
theorem stripl_chunk (ws : List Int) (h : ws.length = 12) (i : Nat) (hi : i < 12) : ((stripl ws).drop (7 + i * 5)).take 5 = mods (ws.getD i 0) := by
  unfold stripl
  have hl := body_length ws ws.length
  rw [List.drop_append_of_le_length (by omega), List.take_append_of_le_length (by rw [List.length_drop]; omega)]
  exact body_chunk ws ws.length i (by omega)
theorem stripl_take (ws : List Int) : (stripl ws).take 7 = ones := by
  unfold stripl
  rw [body_get, List.append_assoc]; rfl
theorem stripl_drop (ws : List Int) (h : ws.length = 12) : (stripl ws).drop 67 = zeros := by
  unfold stripl
  have hl := body_length ws ws.length
  rw [List.drop_append_of_le_length (by omega), List.drop_of_length_le (by omega)]; rfl
theorem mem_body (ws : List Int) (hr : ∀ i, i < ws.length → 0 ≤ ws.getD i 0 ∧ ws.getD i 0 ≤ 31) : ∀ k, k ≤ ws.length → ∀ b, b ∈ body ws k → (b == 48 || b == 49) = true := by
  intro k
  induction k with
  | zero =>
    intro _ b hb
    simp only [body, ones] at hb
    simp at hb; rw [hb]; rfl
  | succ k ih =>
    intro hk b hb
    simp only [body] at hb
    rcases List.mem_append.1 hb with hb | hb
    · exact ih (by omega) b hb
    · have := (mods_num (hr k (by omega)).1 (hr k (by omega)).2).2.1
      exact List.all_eq_true.1 this b hb
theorem mem_stripl (ws : List Int) (hr : ∀ i, i < ws.length → 0 ≤ ws.getD i 0 ∧ ws.getD i 0 ≤ 31) : ∀ b, b ∈ stripl ws → (b == 48 || b == 49) = true := by
  intro b hb
  unfold stripl at hb
  rcases List.mem_append.1 hb with hb | hb
  · exact mem_body ws hr _ (Nat.le_refl _) b hb
  · simp only [zeros] at hb; simp at hb; rw [hb]; rfl
/-- a list of modules as the text that it is -/
def txt (l : List UInt8) : ByteArray := ⟨l.toArray⟩
theorem txt_list (l : List UInt8) : (txt l).data.toList = l := by simp [txt]
theorem txt_size (l : List UInt8) : (txt l).size = l.length := by simp [txt, ByteArray.size]
theorem txt_of (s : ByteArray) : txt s.data.toList = s := by simp [txt]
theorem isMod_of {b : UInt8} (h : (b == 48 || b == 49) = true) : isMod b = true := by
  unfold isMod
  rw [Bool.or_eq_true] at h
  rcases h with h | h <;> rw [h] <;> simp
/-- a strip that is read upright -/
structure Up (l : List UInt8) : Prop where
  len : l.length = 74
  mod : ∀ b, b ∈ l → isMod b = true
  one : 4 ≤ (l.take 7).count 49
  zero : 4 ≤ (l.drop 67).count 48
theorem stripl_up (ws : List Int) (h : ws.length = 12) (hr : ∀ i, i < ws.length → 0 ≤ ws.getD i 0 ∧ ws.getD i 0 ≤ 31) : Up (stripl ws) :=
  ⟨stripl_length ws h, fun b hb => isMod_of (mem_stripl ws hr b hb), by rw [stripl_take]; decide, by rw [stripl_drop ws h]; decide⟩
theorem Up.isStrip {l : List UInt8} (h : Up l) : isStrip (txt l) = true := by
  unfold H.isStrip
  rw [txt_size, decide_eq_true h.len, txt_list]
  simp only [Bool.true_and]
  exact List.all_eq_true.2 h.mod
theorem drop_take_67 {l : List UInt8} (h : l.length = 74) : (l.drop 67).take 7 = l.drop 67 := List.take_of_length_le (by rw [List.length_drop]; omega)
theorem Up.begins {l : List UInt8} (h : Up l) : beginsf (txt l) = true := by
  unfold beginsf Lib.countByte
  rw [txt_list, drop_take_67 h.len, decide_eq_true h.one, decide_eq_true h.zero]; rfl
theorem count_two (l : List UInt8) : l.count 48 + l.count 49 ≤ l.length := by
  induction l with
  | nil => simp
  | cons a l ih =>
    rw [List.count_cons, List.count_cons, List.length_cons]
    by_cases h : a = 48
    · subst h; simp; omega
    · by_cases h2 : a = 49
      · subst h2; simp; omega
      · simp [h, h2]; omega
theorem Up.flip_len {l : List UInt8} (h : Up l) : l.reverse.length = 74 := by rw [List.length_reverse]; exact h.len
theorem Up.flip_strip {l : List UInt8} (h : Up l) : H.isStrip (txt l.reverse) = true := by
  unfold H.isStrip
  rw [txt_size, decide_eq_true h.flip_len, txt_list]
  simp only [Bool.true_and]
  exact List.all_eq_true.2 fun b hb => h.mod b (List.mem_reverse.1 hb)
/-- upside down it does not begin as a strip does -/
theorem Up.flip_begins {l : List UInt8} (h : Up l) : beginsf (txt l.reverse) = false := by
  unfold beginsf Lib.countByte
  rw [txt_list]
  have e : l.reverse.take 7 = (l.drop 67).reverse := by
    rw [List.take_reverse, h.len]
  rw [e, List.count_reverse]
  have h2 := count_two (l.drop 67)
  rw [List.length_drop, h.len] at h2
  have := h.zero
  rw [decide_eq_false (by omega)]; rfl
theorem chunk_txt (l : List UInt8) (i : Nat) : chunk (txt l) i = (l.drop (7 + i * 5)).take 5 := by unfold chunk; rw [txt_list]
theorem wordl_length (s : ByteArray) : (wordl s).length = 12 := by simp [wordl]
theorem wordl_getD (s : ByteArray) (i : Nat) (h : i < 12) : (wordl s).getD i 0 = symb s i := by
  unfold wordl; rw [List.getD_eq_getElem?_getD, List.getElem?_map, List.getElem?_range h]; rfl
theorem symb_of {s : ByteArray} {i : Nat} {x : Int} (h : chunk s i = mods x) (h0 : 0 ≤ x) (h1 : x ≤ 31) : symb s i = x := by
  unfold symb
  have := mods_num h0 h1
  rw [h, this.2.2, this.1]; rfl
theorem wordl_stripl (ws : List Int) (h : ws.length = 12) (hr : ∀ i, i < ws.length → 0 ≤ ws.getD i 0 ∧ ws.getD i 0 ≤ 31) : wordl (txt (stripl ws)) = ws := by
  apply lists_ext (by rw [wordl_length, h])
  intro i hi
  rw [wordl_length] at hi
  rw [wordl_getD _ _ hi, symb_of (by rw [chunk_txt, stripl_chunk ws h i hi]) (hr i (by omega)).1 (hr i (by omega)).2]
end Go.Proofs.YtcpmgkedmmiioaaGreatDoor.H
end
