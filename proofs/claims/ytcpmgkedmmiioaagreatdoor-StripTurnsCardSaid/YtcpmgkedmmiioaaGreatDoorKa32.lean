/- stripTurns_card, part 32: what the row's proof needs: words of the print, contracts of functions, the plain law. -/
import Derived.Test.YtcpmgkedmmiioaaGreatDoorKa27
import Derived.Test.YtcpmgkedmmiioaaGreatDoorKa30
import Derived.Test.YtcpmgkedmmiioaaGreatDoorKa31
section
set_option linter.unusedVariables false
namespace Go.Proofs.YtcpmgkedmmiioaaGreatDoor.Pure
open Go.RowKit Go.Proofs.YtcpmgkedmmiioaaGreatDoor.P Go.Proofs.YtcpmgkedmmiioaaGreatDoorW.PrintWords Go.Proofs.YtcpmgkedmmiioaaGreatDoorW.PrintLast Go.Proofs.YtcpmgkedmmiioaaGreatDoor.T
open H (txt Up isStrip beginsf wordl stripl labelf symf encf mods isMod)
theorem up_of {l : List UInt8} (h1 : isStrip (txt l) = true) (h2 : beginsf (txt l) = true) : Up l := by
  unfold H.isStrip at h1
  rw [Bool.and_eq_true, decide_eq_true_eq, H.txt_size, H.txt_list, List.all_eq_true] at h1
  unfold H.beginsf Lib.countByte at h2
  rw [H.txt_list, H.drop_take_67 h1.1, Bool.and_eq_true, decide_eq_true_eq, decide_eq_true_eq] at h2
  exact ⟨h1.1, h1.2, h2.1, h2.2⟩
theorem strip_rev (l : List UInt8) : isStrip (txt l.reverse) = isStrip (txt l) := by
  unfold H.isStrip
  rw [H.txt_size, H.txt_size, H.txt_list, H.txt_list, List.length_reverse, List.all_reverse]
theorem flip_s (l : List UInt8) (h : l.length ≤ 4611686018427387904) : strip_Flip.f (txt l) = some (txt l.reverse) := by
  unfold strip_Flip.f
  rw [H.txt_size, if_pos h, H.txt_list]; rfl
theorem valid_s (l : List UInt8) (h : l.length ≤ 9223372036854775807) : strip_valid.f (txt l) = some (isStrip (txt l)) := by
  unfold strip_valid.f; rw [H.txt_size, if_pos h]
/-- UPRIGHT: a strip upside down is turned alike -/
theorem upright_both (l : List UInt8) (h : l.length ≤ 4611686018427387904) : ∃ t e, strip_Upright.f (txt l) = some (t, e) ∧ strip_Upright.f (txt l.reverse) = some (t, e) ∧ (e = 0 → ∃ m, Up m ∧ t = txt m) := by
  have hr : l.reverse.length ≤ 4611686018427387904 := by rw [List.length_reverse]; exact h
  cases hs : isStrip (txt l) with
  | false =>
    refine ⟨(⟨#[]⟩ : ByteArray), 7, ?_, ?_, fun h => absurd h (by decide)⟩
    · unfold strip_Upright.f
      rw [valid_s l (by omega), hs, Option.bind_some, if_neg (by decide)]
    · unfold strip_Upright.f
      rw [valid_s _ (by omega), strip_rev, hs, Option.bind_some, if_neg (by decide)]
  | true =>
    have hs2 : isStrip (txt l.reverse) = true := (strip_rev l).trans hs
    have hl : l.length = 74 := by
      unfold H.isStrip at hs
      rw [Bool.and_eq_true, decide_eq_true_eq, H.txt_size] at hs
      exact hs.1
    cases hb : beginsf (txt l) with
    | true =>
      have hu := up_of hs hb
      exact ⟨txt l, 0, upright hu, upright_flip hu, fun _ => ⟨l, hu, rfl⟩⟩
    | false =>
      cases hb2 : beginsf (txt l.reverse) with
      | true =>
        have hu := up_of hs2 hb2
        have h2 := upright_flip hu
        rw [List.reverse_reverse] at h2
        exact ⟨txt l.reverse, 0, h2, upright hu, fun _ => ⟨l.reverse, hu, rfl⟩⟩
      | false =>
        refine ⟨(⟨#[]⟩ : ByteArray), 26, ?_, ?_, fun h => absurd h (by decide)⟩
        · unfold strip_Upright.f
          rw [valid_s l (by omega), hs, Option.bind_some, if_pos rfl, flip_s l h, Option.bind_some, begins_f l hl, hb, Option.bind_some, if_neg (by decide), begins_f _ (by rw [List.length_reverse]; exact hl), hb2, Option.bind_some, if_neg (by decide)]
        · unfold strip_Upright.f
          rw [valid_s _ (by omega), hs2, Option.bind_some, if_pos rfl, flip_s _ hr, List.reverse_reverse, Option.bind_some, begins_f _ (by rw [List.length_reverse]; exact hl), hb2, Option.bind_some, if_neg (by decide), begins_f l hl, hb, Option.bind_some, if_neg (by decide)]
theorem decl_len (l lp : List Int) (hl : l.length = 12) : ∀ k n, (H.decl l lp k n).2.2 = 0 → (H.decl l lp k n).1.length = 6 := by
  intro k
  induction k with
  | zero => intro n h; cases h
  | succ k ih =>
    intro n h
    unfold H.decl at h ⊢
    by_cases h1 : 2 * n + lp.length ≤ 6
    · rw [if_pos h1] at h ⊢
      by_cases h2 : (H.loc l lp n).2 = true ∧ H.fillf l (lp ++ (H.loc l lp n).1) ≠ []
      · rw [if_pos h2]
        have h3 := h2.2
        unfold H.fillf at h3 ⊢
        split at h3
        · exact absurd rfl h3
        · rw [List.length_take, H.filled_length]; omega
      · rw [if_neg h2] at h ⊢
        exact ih (n + 1) h
    · rw [if_neg h1] at h; cases h
theorem decf_len (l : List Int) (hl : l.length = 12) (h : (H.decf l).2.2 = 0) : (H.decf l).1.length = 6 := by
  unfold H.decf at h ⊢
  split
  · next hw => rw [if_pos hw] at h; exact decl_len _ _ hl _ _ h
  · next hw => rw [if_neg hw] at h; cases h
/-- READ hands something back -/
theorem read_some {s : ByteArray} {t : ByteArray} {e : Int} (hu : strip_Upright.f s = some (t, e)) (ht : e = 0 → ∃ m, Up m ∧ t = txt m) : ∃ r, strip_Read.f s = some r := by
  unfold strip_Read.f
  rw [hu, Option.bind_some]
  by_cases he : e = 0
  · obtain ⟨m, hm, rfl⟩ := ht he
    obtain ⟨d, hd⟩ : ∃ d, H.decf (wordl (txt m)) = d := ⟨_, rfl⟩
    have hdec : rscode_Decode.f (wordl (txt m)) = some d := by
      unfold rscode_Decode.f
      rw [if_pos (by rw [H.wordl_length]; omega), hd]
    have hlen := decf_len (wordl (txt m)) (H.wordl_length _)
    rw [hd] at hlen
    rw [if_pos he, word_f hm, Option.bind_some, hdec, Option.bind_some]
    by_cases h0 : d.2.2 = 0
    · have h6 := hlen h0
      rw [if_pos h0, if_pos (by omega), if_pos (by omega), if_pos (by omega), if_pos (by omega), if_pos (by omega), if_pos (by omega)]
      unfold strip_Valid.f
      rw [Option.bind_some]
      split
      · exact ⟨_, rfl⟩
      · exact ⟨_, rfl⟩
    · rw [if_neg h0]; exact ⟨_, rfl⟩
  · rw [if_neg he]; exact ⟨_, rfl⟩
theorem read_total {s : ByteArray} {t : ByteArray} {e : Int} (hu : strip_Upright.f s = some (t, e)) (ht : e = 0 → ∃ m, Up m ∧ t = txt m) : ∃ r, ∀ s', strip_Upright.f s' = some (t, e) → strip_Read.f s' = some r := by
  obtain ⟨r, hr⟩ := read_some hu ht
  refine ⟨r, fun s' hs' => ?_⟩
  rw [← hr]
  unfold strip_Read.f
  rw [hs', hu]
theorem read_both (s : ByteArray) (h : s.size ≤ 4611686018427387904) : ∃ s' r, strip_Flip.f s = some s' ∧ strip_Read.f s = some r ∧ strip_Read.f s' = some r := by
  obtain ⟨l, rfl⟩ : ∃ l, s = txt l := ⟨s.data.toList, (H.txt_of s).symm⟩
  rw [H.txt_size] at h
  obtain ⟨t, e, h1, h2, h3⟩ := upright_both l h
  obtain ⟨r, hr⟩ := read_total h1 h3
  exact ⟨_, r, flip_s l h, hr _ h1, hr _ h2⟩
theorem turns_loop (x0 x1 x2 : ByteArray) (h0 : x0.size ≤ 4611686018427387904) (h1 : x1.size ≤ 4611686018427387904) (h2 : x2.size ≤ 4611686018427387904) : ∀ j (i : Nat), i + j = 3 → awardingbodylaw19_StripTurns.l0 (j + 1) [x0, x1, x2] (i : Int) = some true := by
  intro j
  induction j with
  | zero =>
    intro i hi
    obtain rfl : i = 3 := by omega
    rw [awardingbodylaw19_StripTurns.l0, if_neg (by omega), awake_true]; rfl
  | succ j ih =>
    intro i hi
    have hx : (rdOf ByteArray.empty [x0, x1, x2] (i : Int)).size ≤ 4611686018427387904 := by
      rcases (show i = 0 ∨ i = 1 ∨ i = 2 by omega) with rfl | rfl | rfl
      · exact h0
      · exact h1
      · exact h2
    obtain ⟨s', r, hf, hr, hr'⟩ := read_both _ hx
    have e : wrap64 ((i : Int) + 1) = ((i + 1 : Nat) : Int) := by unfold wrap64; omega
    rw [awardingbodylaw19_StripTurns.l0, if_pos (by omega), if_pos (by omega), if_pos (show (i : Int) < (([x0, x1, x2] : List ByteArray).length : Int) by simp; omega), hr, Option.bind_some, hf, Option.bind_some, hr', Option.bind_some]
    simp only [beq_self_eq_true, Bool.not_true, Bool.or_self, Bool.false_eq_true, if_false, if_true]
    rw [e]
    exact ih (i + 1) (by omega)
theorem nums_size (xs : List Int) : (strOfNums xs).size = xs.length := by simp [strOfNums, ByteArray.size]
theorem flip_loop (x : ByteArray) (n : Nat) (hn : x.size = n) (hn2 : n ≤ 1000) : ∀ (j : Nat) (xs : List Int) (d : Nat), xs.length + j = n → ∃ ys, awardingbodyref19_Flip.l0 (j + 1 + d) x xs ((j : Int) - 1) = some (strOfNums ys) ∧ ys.length = n := by
  intro j
  induction j with
  | zero =>
    intro xs d hx
    refine ⟨xs, ?_, by omega⟩
    rw [show 0 + 1 + d = d + 1 from by omega]
    unfold awardingbodyref19_Flip.l0
    rw [if_neg (by omega)]
  | succ j ih =>
    intro xs d hx
    rw [show j + 1 + 1 + d = (j + 1 + d) + 1 from by omega]
    unfold awardingbodyref19_Flip.l0
    rw [if_pos (by omega), if_pos (by omega), if_pos (by omega), if_pos (by omega)]
    have e : wrap64 (((j + 1 : Nat) : Int) - 1 - 1) = (j : Int) - 1 := by unfold wrap64; omega
    rw [e]
    exact ih _ d (by simp; omega)
theorem ref_flip (x : ByteArray) (k : Nat) (hk : x.size + 1 ≤ k) (hx : x.size ≤ 1000) : ∃ y, awardingbodyref19_Flip.f k x = some y ∧ y.size = x.size := by
  obtain ⟨ys, h1, h2⟩ := flip_loop x x.size rfl hx x.size [] (k - (x.size + 1)) (by simp)
  rw [show x.size + 1 + (k - (x.size + 1)) = k from by omega] at h1
  refine ⟨_, ?_, by rw [nums_size, h2]⟩
  unfold awardingbodyref19_Flip.f
  have e : wrap64 ((x.size : Int) - 1) = (x.size : Int) - 1 := by unfold wrap64; omega
  rw [e]
  exact h1
theorem damage_loop (l : List Int) : ∀ (j : Nat) (x : List UInt8) (p : Int) (d : Nat), j ≤ 1000 → x.length = 74 → T.Tape l p → ∃ y q, awardingbodymake_Tape_Damage.l0 (j + 1 + d) (txt x) (j : Int) l p = some (txt y, q) ∧ y.length = 74 ∧ T.Tape l q := by
  intro j
  induction j with
  | zero =>
    intro x p d _ hx ht
    rw [show 0 + 1 + d = d + 1 from by omega]
    unfold awardingbodymake_Tape_Damage.l0
    rw [if_neg (by omega)]
    exact ⟨x, p, rfl, hx, ht⟩
  | succ j ih =>
    intro x p d hj hx ht
    rw [show j + 1 + 1 + d = (j + 1 + d) + 1 from by omega]
    unfold awardingbodymake_Tape_Damage.l0
    obtain ⟨a, q, ha, hq, a0, a1⟩ := T.next ht (show (1 : Int) ≤ ((txt x).size : Int) by rw [H.txt_size]; omega) (by rw [H.txt_size]; omega)
    obtain ⟨b, q2, hb, hq2, b0, b1⟩ := T.next hq (show (1 : Int) ≤ 2 by omega) (by omega)
    rw [H.txt_size] at a1
    obtain ⟨i, rfl⟩ : ∃ i : Nat, a = i := ⟨a.toNat, by omega⟩
    rw [if_pos (by omega), ha, Option.bind_some, hb, Option.bind_some, T.change_f (by omega) (show i < x.length by omega), Option.bind_some]
    have e : wrap64 (((j + 1 : Nat) : Int) - 1) = (j : Int) := by unfold wrap64; omega
    rw [e]
    exact ih _ q2 d (by omega) (by rw [List.length_set]; exact hx) hq2
theorem damage {l : List Int} {p : Int} (ht : T.Tape l p) {x : List UInt8} (hx : x.length = 74) (most : Int) (h0 : 0 ≤ most) (h1 : most ≤ 100) (k : Nat) (hk : 102 ≤ k) : ∃ y q, awardingbodymake_Tape_Damage.f k l p (txt x) most = some (txt y, q) ∧ y.length = 74 ∧ T.Tape l q := by
  obtain ⟨a, q, ha, hq, a0, a1⟩ := T.range ht 0 most (by omega) h0 (by omega)
  obtain ⟨i, rfl⟩ : ∃ i : Nat, a = i := ⟨a.toNat, by omega⟩
  obtain ⟨y, q2, h2, h3, h4⟩ := damage_loop l i x q (k - (i + 1)) (by omega) hx hq
  refine ⟨y, q2, ?_, h3, h4⟩
  unfold awardingbodymake_Tape_Damage.f
  rw [ha, Option.bind_some]
  rw [show i + 1 + (k - (i + 1)) = k from by omega] at h2
  exact h2
theorem damaged_end {l : List Int} {p : Int} (ht : T.Tape l p) (x : ByteArray) (hx : x.size = 74) (k : Nat) : ∃ y q, awardingbodylaw19_damaged.j0 (k + 1) x l p = some (y, q) ∧ y.size ≤ 1000 ∧ T.Tape l q := by
  rw [awardingbodylaw19_damaged.j0]
  unfold awardingbodymake_Tape_One.f
  obtain ⟨a, q, ha, hq, a0, a1⟩ := T.next ht (show (1 : Int) ≤ 12 by omega) (by omega)
  rw [ha, Option.bind_some, Option.bind_some]
  simp only
  split
  · obtain ⟨b, q2, hb, hq2, b0, b1⟩ := T.next hq (show (1 : Int) ≤ 2 by omega) (by omega)
    obtain ⟨c, q3, hc, hq3, c0, c1⟩ := T.next hq2 (show (1 : Int) ≤ 3 by omega) (by omega)
    have hs : (rdOf ByteArray.empty ([(⟨#[]⟩ : ByteArray), (⟨#[48]⟩ : ByteArray), (⟨#[50]⟩ : ByteArray)] : List ByteArray) c).size ≤ 1 := by
      rcases (show c = 0 ∨ c = 1 ∨ c = 2 by omega) with rfl | rfl | rfl <;> decide
    rw [hb, Option.bind_some, if_pos b0, if_pos (by omega), Option.bind_some, hc, Option.bind_some, if_pos c0, if_pos (show c < (([(⟨#[]⟩ : ByteArray), (⟨#[48]⟩ : ByteArray), (⟨#[50]⟩ : ByteArray)] : List ByteArray).length : Int) by simp; omega)]
    have hz : (x.extract (b : Int).toNat x.size).size ≤ 74 := by rw [ByteArray.size_extract]; omega
    dsimp only
    rw [if_pos (by omega)]
    exact ⟨_, _, rfl, by rw [ByteArray.size_append]; omega, hq3⟩
  · exact ⟨_, _, rfl, by omega, hq⟩
theorem damaged {l : List Int} {p : Int} (ht : T.Tape l p) (most : Int) (h0 : 0 ≤ most) (h1 : most ≤ 100) (k : Nat) (hk : 200 ≤ k) : ∃ y q, awardingbodylaw19_damaged.f k l p most = some (y, q) ∧ y.size ≤ 1000 ∧ T.Tape l q := by
  obtain ⟨a, b, c, d, q, hlab, hq, hL⟩ := T.label ht
  obtain ⟨ws, hd, hc, hl, _⟩ := T.ref_draw hL k (by omega)
  obtain ⟨y, q2, hy, hyl, hq2⟩ := damage hq (H.stripl_length ws hl) most h0 h1 k (by omega)
  obtain ⟨e, q3, he, hq3, e0, e1⟩ := T.next hq2 (show (1 : Int) ≤ 2 by omega) (by omega)
  unfold awardingbodylaw19_damaged.f
  rw [hlab, Option.bind_some, hd, Option.bind_some, hy, Option.bind_some, he, Option.bind_some]
  obtain ⟨k, rfl⟩ : ∃ k', k = k' + 1 := ⟨k - 1, by omega⟩
  split
  · obtain ⟨z, hz, hzs⟩ := ref_flip (txt y) (k + 1) (by rw [H.txt_size]; omega) (by rw [H.txt_size]; omega)
    rw [hz, Option.bind_some]
    exact damaged_end hq3 z (by rw [hzs, H.txt_size, hyl]) k
  · exact damaged_end hq3 (txt y) (by rw [H.txt_size, hyl]) k
theorem noise_loop (l : List Int) : ∀ (j i : Nat) (x : ByteArray) (p : Int) (d : Nat), i + j = 74 → x.size ≤ i → T.Tape l p → ∃ y q, awardingbodylaw19_noise.l0 (j + 1 + d) x (i : Int) l p = some (y, q) ∧ y.size ≤ 74 ∧ T.Tape l q := by
  intro j
  induction j with
  | zero =>
    intro i x p d hi hx ht
    rw [show 0 + 1 + d = d + 1 from by omega]
    unfold awardingbodylaw19_noise.l0
    rw [if_neg (by omega)]
    exact ⟨x, p, rfl, by omega, ht⟩
  | succ j ih =>
    intro i x p d hi hx ht
    rw [show j + 1 + 1 + d = (j + 1 + d) + 1 from by omega]
    unfold awardingbodylaw19_noise.l0
    obtain ⟨a, q, ha, hq, a0, a1⟩ := T.next ht (show (1 : Int) ≤ 5 by omega) (by omega)
    have hs : (rdOf ByteArray.empty ([(⟨#[48]⟩ : ByteArray), (⟨#[49]⟩ : ByteArray), (⟨#[49]⟩ : ByteArray), (⟨#[48]⟩ : ByteArray), (⟨#[63]⟩ : ByteArray)] : List ByteArray) a).size ≤ 1 := by
      rcases (show a = 0 ∨ a = 1 ∨ a = 2 ∨ a = 3 ∨ a = 4 by omega) with rfl | rfl | rfl | rfl | rfl <;> decide
    rw [if_pos (by omega), Option.bind_some, ha, Option.bind_some, if_pos a0, if_pos (show a < (([(⟨#[48]⟩ : ByteArray), (⟨#[49]⟩ : ByteArray), (⟨#[49]⟩ : ByteArray), (⟨#[48]⟩ : ByteArray), (⟨#[63]⟩ : ByteArray)] : List ByteArray).length : Int) by simp; omega)]
    dsimp only
    rw [if_pos (by omega)]
    have e : wrap64 ((i : Int) + 1) = ((i + 1 : Nat) : Int) := by unfold wrap64; omega
    rw [e]
    exact ih (i + 1) _ q d (by omega) (by rw [ByteArray.size_append]; omega) hq
theorem noise {l : List Int} {p : Int} (ht : T.Tape l p) (k : Nat) (hk : 75 ≤ k) : ∃ y q, awardingbodylaw19_noise.f k l p = some (y, q) ∧ y.size ≤ 74 ∧ T.Tape l q := by
  obtain ⟨y, q, h1, h2, h3⟩ := noise_loop l 74 0 ⟨#[]⟩ p (k - 75) (by omega) (by decide) ht
  rw [show 74 + 1 + (k - 75) = k from by omega] at h1
  exact ⟨y, q, h1, h2, h3⟩
theorem StripTurns : awardingbodylaw19_StripTurns.Pure := by
  intro l0 a1 _ _ wl ha
  obtain ⟨t, hnew, ht⟩ := T.new wl
  obtain ⟨x, q, hx, hxs, hq⟩ := damaged ht 20 (by omega) (by omega) 200 (by omega)
  obtain ⟨y, q2, hy, hys, hq2⟩ := noise hq 200 (by omega)
  refine ⟨200, ?_⟩
  unfold awardingbodylaw19_StripTurns.f
  rw [hnew, Option.bind_some, hx, Option.bind_some, hy, Option.bind_some]
  have h := turns_loop x y a1 (by omega) (by omega) (by omega) 3 0 rfl
  have key : ∀ d, awardingbodylaw19_StripTurns.l0 (4 + d) [x, y, a1] 0 = some true := by
    intro d
    induction d with
    | zero => exact h
    | succ d ih => exact awardingbodylaw19_StripTurns.mono_l (4 + d) _ _ _ ih
  exact key 196
end Go.Proofs.YtcpmgkedmmiioaaGreatDoor.Pure
end
