/- stripTurns_card, part 11: what the row's proof needs: words of the print, contracts of functions, the plain law. -/
import Derived.Lib.AppendZerosOnto
import Derived.Lib.Walk
import Derived.Lib.SliceRun
import Derived.Laws.CopyOwn
import Derived.Deep.RegionLaw
import Derived.Lib.LazyBuf
import Derived.Test.YtcpmgkedmmiioaaGreatDoorKa10
section
set_option linter.unusedVariables false
namespace Go.Proofs.YtcpmgkedmmiioaaGreatDoor.H
open Go.RowKit Go.Proofs.YtcpmgkedmmiioaaGreatDoorW.PrintWords Go.Proofs.YtcpmgkedmmiioaaGreatDoorW.PrintLast Go.Proofs.YtcpmgkedmmiioaaGreatDoorW.PrintMore Go.Proofs.YtcpmgkedmmiioaaGreatDoor.B Go.Proofs.YtcpmgkedmmiioaaGreatDoor.Gf
/-- a symbol out of range -/
def bad (x s : Int) : Bool := decide (s < x) || decide (32 ≤ s)
set_option maxHeartbeats 4000000 in
set_option maxRecDepth 100000 in
theorem word1_calls (s x : Int) (b : Nat) (w : World) (hx : w.cell? ⟨b, 0, none⟩ = some (.int .i64 x)) :
    Calls Tryz.prog 174 #[.int .i64 s, .pointer (some ⟨b, 0, none⟩)] w fun e w' => e = .returned (.bool (bad x s)) ∧ w = w' := by
  by_cases h1 : s < x
  · have t1 : decide (s < x) = true := decide_eq_true h1
    have HE : Aside0 (bad x s = true) := ⟨by unfold bad; rw [t1]; rfl⟩
    go_enter Tryz.func174, Tryz.ntmps174
    go_wp2
    go_ret
    exact ⟨by rw [HE.out]; rfl, rfl⟩
  · have t1 : decide (s < x) = false := decide_eq_false h1
    have HE : Aside0 (bad x s = decide (32 ≤ s)) := ⟨by unfold bad; rw [t1]; rfl⟩
    go_enter Tryz.func174, Tryz.ntmps174
    go_wp2
    go_ret
    exact ⟨by rw [HE.out]; rfl, rfl⟩
set_option maxHeartbeats 4000000 in
set_option maxRecDepth 100000 in
theorem indexf_calls (A : Option Addr) (c : Nat) (l : List Int) (x : Int) (b : Nat) (w : World) (hr : Kd.C (Kd.int .i64) w A l.length l) (hc : l.length ≤ c) (hl : l.length < 17592186044416) (hx : w.cell? ⟨b, 0, none⟩ = some (.int .i64 x)) :
    Calls Tryz.prog 160 #[.slice A l.length c, .func (.func 174) #[] #[.pointer (some ⟨b, 0, none⟩)]] w fun e w' => ∃ r : Int, e = .returned (.int .i64 r) ∧ decide (0 ≤ r) = l.any (bad x) ∧ w = w' := by
  have HR := Aside0.mk hr
  have HX := Aside0.mk hx
  clear hr hx
  go_enter Tryz.func160, Tryz.ntmps160
  go_wp2
  go_loopg [8] l.length (fun g v8 wx => ∃ k : Nat, k ≤ l.length ∧ v8 = .int .i64 k ∧ Aside0 (g = l.length - k) ∧ Aside0 (w = wx) ∧ Aside0 ((l.take k).any (bad x) = false))
  case atStart => exact ⟨0, Nat.zero_le _, rfl, ⟨rfl⟩, ⟨rfl⟩, ⟨rfl⟩⟩
  case round =>
    obtain ⟨k, hk, rfl, HG, HW, HN⟩ := hrel
    replace HW := HW.out
    subst HW
    by_cases hkl : k < l.length
    · have t1 : decide ((k : Int) < (l.length : Int)) = true := decide_eq_true (by omega)
      obtain ⟨ad, e, hc1⟩ := Kd.at_int HR.out (k : Int) (by omega) (by omega)
      cases e
      simp only [Int.toNat_natCast] at hc1
      have p1 := eq_true (show (0 : Int) ≤ (k : Int) by omega)
      have q1 := eq_true (show (k : Int) < (l.length : Int) by omega)
      have HE : Aside0 ((l.take (k + 1)).any (bad x) = bad x (rd l (k : Int))) := ⟨by
        rw [List.take_succ_eq_append_getElem hkl, List.any_append, HN.out]
        simp [rd, hkl]⟩
      cases hb : bad x (rd l (k : Int)) with
      | true =>
        have HB := Aside0.mk hb
        clear hb
        go_wp2_with (first | (go_at_call 174; refine (word1_calls _ x b _ HX.out).mono ?_; rintro e w1 ⟨rfl, rfl⟩; rw [HB.out]))
        go_ret
        refine ⟨_, rfl, ?_, rfl⟩
        rw [decide_eq_true (by omega)]
        have h1 := HE.out
        rw [HB.out] at h1
        have := List.any_eq_true.1 h1
        obtain ⟨y, hy, hy2⟩ := this
        exact (List.any_eq_true.2 ⟨y, List.mem_of_mem_take hy, hy2⟩).symm
      | false =>
        have HB := Aside0.mk hb
        clear hb
        go_wp2_with (first | (go_at_call 174; refine (word1_calls _ x b _ HX.out).mono ?_; rintro e w1 ⟨rfl, rfl⟩; rw [HB.out]))
        go_roundg (l.length - (k + 1))
        case measure => have := HG.out; omega
        case rel => exact ⟨k + 1, by omega, by first | rfl | (simp; done), ⟨rfl⟩, ⟨rfl⟩, ⟨by rw [HE.out, HB.out]⟩⟩
    · have t1 : decide ((k : Int) < (l.length : Int)) = false := decide_eq_false (by omega)
      obtain rfl : k = l.length := by omega
      go_wp2
      go_ret
      refine ⟨_, rfl, ?_, rfl⟩
      have := HN.out
      rw [List.take_length] at this
      rw [this]; rfl
set_option maxHeartbeats 4000000 in
set_option maxRecDepth 100000 in
theorem containsf_calls (A : Option Addr) (c : Nat) (l : List Int) (x : Int) (b : Nat) (w : World) (hr : Kd.C (Kd.int .i64) w A l.length l) (hc : l.length ≤ c) (hl : l.length < 17592186044416) (hx : w.cell? ⟨b, 0, none⟩ = some (.int .i64 x)) :
    Calls Tryz.prog 105 #[.slice A l.length c, .func (.func 174) #[] #[.pointer (some ⟨b, 0, none⟩)]] w fun e w' => e = .returned (.bool (l.any (bad x))) ∧ w = w' := by
  have HR := Aside0.mk hr
  have HX := Aside0.mk hx
  clear hr hx
  go_enter Tryz.func105, Tryz.ntmps105
  go_wp2_with (first | (go_at_call 160; refine (indexf_calls A c l x b _ HR.out hc hl HX.out).mono ?_; rintro e w1 ⟨r, rfl, hr, rfl⟩; have HB := Aside0.mk hr; clear hr))
  go_ret
  refine ⟨?_, rfl⟩
  rw [← HB.out]; rfl
/-- a word of the code: its length, its symbols -/
def wordf (l : List Int) (x : Int) : Bool := decide (7 ≤ l.length) && decide (l.length ≤ 15) && !l.any (bad x)
set_option maxHeartbeats 4000000 in
set_option maxRecDepth 100000 in
theorem word_calls (A : Option Addr) (c : Nat) (l : List Int) (x : Int) (w : World) (hr : Kd.C (Kd.int .i64) w A l.length l) (hc : l.length ≤ c) (hl : l.length < 17592186044416) :
    Calls Tryz.prog 122 #[.slice A l.length c, .int .i64 x] w fun e w' => e = .returned (.bool (wordf l x)) ∧ Below w.heap.size w w' := by
  have HR := Aside0.mk hr
  clear hr
  by_cases h7 : 7 ≤ l.length
  · have t1 : decide (7 ≤ (l.length : Int)) = true := decide_eq_true (by omega)
    by_cases h15 : l.length ≤ 15
    · have t2 : decide ((l.length : Int) ≤ 15) = true := decide_eq_true (by omega)
      have HE : Aside0 (wordf l x = !l.any (bad x)) := ⟨by unfold wordf; rw [decide_eq_true h7, decide_eq_true h15]; rfl⟩
      have HB : Aside0 (Below w.heap.size w (w.alloc (.cells #[.int .i64 x] 3))) := ⟨below_alloc (Below.refl _ _) _⟩
      have HC : Aside0 ((w.alloc (.cells #[.int .i64 x] 3)).cell? ⟨w.heap.size, 0, none⟩ = some (.int .i64 x)) := ⟨by unfold World.cell?; rw [heap_alloc_new]; rfl⟩
      go_enter Tryz.func122, Tryz.ntmps122
      go_wp2_with (first | (go_at_call 105; refine (containsf_calls A c l x w.heap.size _ (Kd.C_below HR.out HB.out) hc hl HC.out).mono ?_; rintro e w1 ⟨rfl, rfl⟩))
      go_ret
      exact ⟨by rw [HE.out]; rfl, HB.out⟩
    · have t2 : decide ((l.length : Int) ≤ 15) = false := decide_eq_false (by omega)
      have HE : Aside0 (wordf l x = false) := ⟨by unfold wordf; rw [decide_eq_false h15]; simp⟩
      go_enter Tryz.func122, Tryz.ntmps122
      go_wp2
      go_ret
      exact ⟨by rw [HE.out]; rfl, below_alloc (Below.refl _ _) _⟩
  · have t1 : decide (7 ≤ (l.length : Int)) = false := decide_eq_false (by omega)
    have HE : Aside0 (wordf l x = false) := ⟨by unfold wordf; rw [decide_eq_false h7]; simp⟩
    go_enter Tryz.func122, Tryz.ntmps122
    go_wp2
    go_ret
    exact ⟨by rw [HE.out]; rfl, below_alloc (Below.refl _ _) _⟩
end Go.Proofs.YtcpmgkedmmiioaaGreatDoor.H
end

section
set_option linter.unusedVariables false
namespace Go.Proofs.YtcpmgkedmmiioaaGreatDoor.H
open Go.RowKit Go.Proofs.YtcpmgkedmmiioaaGreatDoorW.PrintWords Go.Proofs.YtcpmgkedmmiioaaGreatDoorW.PrintLast Go.Proofs.YtcpmgkedmmiioaaGreatDoorW.PrintMore Go.Proofs.YtcpmgkedmmiioaaGreatDoor.B Go.Proofs.YtcpmgkedmmiioaaGreatDoor.Gf
set_option maxHeartbeats 4000000 in
set_option maxRecDepth 100000 in
theorem grow_calls (n : Nat) (hn : n ≤ 100000) (w : World) :
    Calls Tryz.prog 180 #[.slice none 0 0, .int .i64 n] w fun e w' => ∃ v, e = .returned v ∧ Kd.R (Kd.int .i64) 3 w' w.heap.size (fun _ => True) v [] ∧ Below w.heap.size w w' := by
  have t1 : decide ((n : Int) < 0) = false := decide_eq_false (by omega)
  cases n with
  | zero =>
    go_enter Tryz.func180, Tryz.ntmps180
    go_wp2
    go_ret
    exact ⟨_, rfl, Kd.R_nil _ _ _ _ _, Below.refl _ _⟩
  | succ n =>
    have t2 : decide (0 < (n : Int) + 1) = true := decide_eq_true (by omega)
    obtain ⟨i0, hi0, hi1⟩ := Option.map_eq_some_iff.1 info_int
    simp only [Prod.mk.injEq] at hi1
    obtain ⟨hz0, hs1, hb1⟩ := hi1
    have hold : (Builtin.firstCells i0.size 0 (.slice none 0 0)).run Tryz.prog w.drew = .ok #[] w.drew := run_firstCells_none w.drew i0.size 0 0 0
    have hrz : ∀ ty, (Builtin.append_ #[22, 3] ty #[.slice none 0 0, .int .i64 ((n : Int) + 1)]).run Tryz.prog w = .ok (.slice (some ⟨w.heap.size, 0, none⟩) (n + 1) (grownCap w (n + 1) 0 3)) (w.drew.alloc (.cells (#[] ++ Builtin.zeroCells (Value.int .i64 0).cells (n + 1) ++ Builtin.zeroCells (Value.int .i64 0).cells (grownCap w (n + 1) 0 3 - (n + 1))) 3)) := fun ty => by
      have h := Lib.run_append_grow_zeros (P := Tryz.prog) w 22 3 ty 3 i0 (.int .i64 0) .i64 .i64 Tryz.underlying22 Tryz.underlying3 hi0 hz0 none 0 0 [] hold (n + 1) (by omega) (by omega) (by omega) (by omega)
        (by rw [hb1]; omega) (by rw [hb1, Nat.zero_add]; exact growslice_fits (by omega) (by omega))
      simpa using h
    have hG := grownCap_ge w (n + 1) 0 3
    have hG2 := grownCap_le_maxLen w (n + 1) 0 3 (by unfold maxLen; omega)
    obtain ⟨G, hGe⟩ : ∃ G, G = grownCap w (n + 1) 0 3 := ⟨_, rfl⟩
    rw [← hGe] at hrz hG hG2
    clear hGe hold hi0 hz0 hs1 hb1
    have HX : Aside0 ((w.drew.alloc (.cells (#[] ++ Builtin.zeroCells (Value.int .i64 0).cells (n + 1) ++ Builtin.zeroCells (Value.int .i64 0).cells (G - (n + 1))) 3)).ownsRow w.heap.size 3 1 (.slice (some ⟨w.heap.size, 0, none⟩) 0 G) 0 []) := ⟨by
      refine ⟨rfl, .inr ⟨w.heap.size, G, _, rfl, Nat.le_refl _, heap_alloc_new w.drew _, by omega, hG2, ?_, by simp⟩⟩
      simp only [Array.size_append, List.size_toArray, size_zeroCells]
      simp [Value.cells]; omega⟩
    have HB : Aside0 (Below w.heap.size w (w.drew.alloc (.cells (#[] ++ Builtin.zeroCells (Value.int .i64 0).cells (n + 1) ++ Builtin.zeroCells (Value.int .i64 0).cells (G - (n + 1))) 3))) := ⟨below_alloc (below_drew (Below.refl _ _)) _⟩
    have hG3 : G ≤ 9223372036854775807 := by unfold maxLen at hG2; omega
    have p1 := eq_true (show (0 : Int) ≤ (G : Int) by omega)
    obtain ⟨w2, hw2⟩ : ∃ w2, w2 = (w.drew.alloc (.cells (#[] ++ Builtin.zeroCells (Value.int .i64 0).cells (n + 1) ++ Builtin.zeroCells (Value.int .i64 0).cells (G - (n + 1))) 3)) := ⟨_, rfl⟩
    rw [← hw2] at HX HB hrz
    clear hw2
    go_enter Tryz.func180, Tryz.ntmps180
    go_wp2_with (first | (at_builtin; refine Lib.wpList_append_run _ rfl (.tmp 20) (.tmp 21) 22 3 rfl _ _ rfl rfl _ _ (hrz _) ?_))
    go_ret
    exact ⟨_, rfl, Kd.R_of_own (enc := Value.int .i64) (h1 := fun _ => rfl) (ok := fun _ => True) (xs := []) HX.out (fun _ _ => trivial), HB.out⟩
/-- what the first k rows hold -/
def cat (L : Nat → List Int) : Nat → List Int
  | 0 => []
  | k + 1 => cat L k ++ L k
set_option maxHeartbeats 4000000 in
set_option maxRecDepth 100000 in
theorem concat_calls (p n : Nat) (A : Nat → Option Addr) (c : Nat → Nat) (L : Nat → List Int) (w : World) (hn : n ≤ 4) (hr : ∀ k, k < n → Kd.C (Kd.int .i64) w (A k) (L k).length (L k)) (hc : ∀ k, k < n → (L k).length ≤ c k) (hl : ∀ k, k < n → (L k).length ≤ 100)
    (hp : ∀ k, k < n → w.cell? ⟨p, k, none⟩ = some (.slice (A k) (L k).length (c k))) :
    Calls Tryz.prog 125 #[.slice (some ⟨p, 0, none⟩) n n] w fun e w' => ∃ v, e = .returned v ∧ Kd.R (Kd.int .i64) 3 w' w.heap.size (fun _ => True) v (cat L n) ∧ Below w.heap.size w w' := by
  have HR := Aside0.mk hr
  have HC := Aside0.mk hc
  have HL := Aside0.mk hl
  have HP := Aside0.mk hp
  have HQ : Aside0 (∀ k, k ≤ n → (cat L k).length ≤ 100 * k) := ⟨by
    intro k
    induction k with
    | zero => intro _; simp [cat]
    | succ k ih => intro hk; simp only [cat, List.length_append]; have := ih (by omega); have := hl k (by omega); omega⟩
  clear hr hc hl hp
  go_enter Tryz.func125, Tryz.ntmps125
  go_wp2
  go_loopg [3, 11] n (fun g v3 v11 wx => ∃ k : Nat, k ≤ n ∧ v11 = .int .i64 k ∧ v3 = .int .i64 (cat L k).length ∧ Aside0 (g = n - k) ∧ Aside0 (w = wx))
  case atStart => exact ⟨0, Nat.zero_le _, rfl, rfl, ⟨rfl⟩, ⟨rfl⟩⟩
  case round =>
    obtain ⟨k, hk, rfl, rfl, HG, HW⟩ := hrel
    replace HW := HW.out
    subst HW
    by_cases hkn : k < n
    · have t1 : decide ((k : Int) < (n : Int)) = true := decide_eq_true (by omega)
      have d1 := HP.out k hkn
      have q1 := HQ.out k hk
      have q2 := HL.out k hkn
      have p1 := eq_true (show (0 : Int) ≤ (k : Int) by omega)
      have p2 := eq_true (show (k : Int) < (n : Int) by omega)
      have p3 := eq_true hkn
      have t2 : decide (((cat L k).length : Int) + ((L k).length : Int) < 0) = false := decide_eq_false (by omega)
      go_wp2
      go_roundg (n - (k + 1))
      case measure => have := HG.out; omega
      case rel => exact ⟨k + 1, by omega, by first | rfl | (simp; done), by simp [cat], ⟨rfl⟩, ⟨rfl⟩⟩
    · have t1 : decide ((k : Int) < (n : Int)) = false := decide_eq_false (by omega)
      obtain rfl : k = n := by omega
      have q1 := HQ.out k hk
      go_wp2_with (first | (go_at_call 180; refine (grow_calls (cat L k).length (by omega) _).mono ?_; rintro e w1 ⟨v, rfl, ho, hb⟩; have HO := Aside0.mk ho; have HB := Aside0.mk hb; clear ho hb))
      go_loopg [6, 27] k (fun g v6 v27 wx => ∃ j : Nat, j ≤ k ∧ v27 = .int .i64 j ∧ Aside0 (g = k - j) ∧ Aside0 (Kd.R (Kd.int .i64) 3 wx w.heap.size (fun _ => True) v6 (cat L j)) ∧ Aside0 (Below w.heap.size w wx))
      case atStart => exact ⟨0, Nat.zero_le _, rfl, ⟨rfl⟩, HO, HB⟩
      case round =>
        clear HO HB
        obtain ⟨j, hj, rfl, HG2, HO, HB⟩ := hrel
        by_cases hjk : j < k
        · have t2 : decide ((j : Int) < (k : Int)) = true := decide_eq_true (by omega)
          have d1 := HP.out j hjk
          replace d1 := (HB.out.cell (World.block_lt_of_cell? w _ d1)).trans d1
          have q2 := HQ.out j hj
          have q3 := HL.out j hjk
          have p1 := eq_true (show (0 : Int) ≤ (j : Int) by omega)
          have p2 := eq_true (show (j : Int) < (k : Int) by omega)
          have p3 := eq_true hjk
          have HRW := Aside0.mk (Kd.C_below (HR.out j hjk) HB.out)
          have HCJ := Aside0.mk (HC.out j hjk)
          go_wp2_with (first | (at_builtin; refine Kd.R_append_row (Value.int .i64) (0 : Int) (h1 := fun _ => rfl) (w0 := w) w.heap.size rfl (.tmp 31) (.tmp 32) 22 3 (.int .i64 0) 8 rfl Tryz.underlying22 info_int rfl (by decide) u6 (cat L j) (L j) (A j) (L j).length (c j) (fun _ => True) rfl rfl (fun _ _ => trivial) ?aO ?aR ?aB ?aS ?aL ?_; (case aO => exact HO.out); (case aR => exact HRW.out); (case aB => exact HB.out); (case aS => exact HB.out.size); (case aL => omega); intro v1 w1 ho hb hg hat; have HO1 := Aside0.mk ho; have HB1 := Aside0.mk hb; clear ho hb hg hat))
          go_roundg (k - (j + 1))
          case measure => have := HG2.out; omega
          case rel => exact ⟨j + 1, by omega, by first | rfl | (simp; done), ⟨rfl⟩, HO1, HB1⟩
        · have t2 : decide ((j : Int) < (k : Int)) = false := decide_eq_false (by omega)
          obtain rfl : j = k := by omega
          go_wp2
          go_ret
          exact ⟨_, rfl, HO.out, HB.out⟩
theorem info_int_size : (Tryz.prog.info? 3).map (·.size) = some 1 := by kernel_rfl
/-- a row of six, the first n of which are -1 -/
def six (n : Nat) : List Value := List.replicate n (.int .i64 (-1)) ++ List.replicate (6 - n) (.int .i64 0)
theorem made6 : madeCells #[Value.int .i64 0] 6 = (six 0).toArray := by kernel_rfl
theorem bits_mul_6 : bits_Mul.f 1 6 = some (0, 6) := by decide +kernel
theorem copy_src {w : World} {g n m : Nat} (h : w.heap[g]? = some (.cells (six n).toArray 3 (0, 0))) (hm : m ≤ n) : ∀ j v, (List.replicate m (Value.int .i64 (-1)))[j]? = some v → w.cell? (Addr.add ⟨g, 0, none⟩ j) = some v := by
  intro j v hj
  obtain ⟨hj1, rfl⟩ := List.getElem?_eq_some_iff.1 hj
  rw [List.length_replicate] at hj1
  rw [List.getElem_replicate]
  have : (six n).toArray[j]? = some (Value.int .i64 (-1)) := by
    unfold six
    rw [List.getElem?_toArray, List.getElem?_append_left (by simp; omega), List.getElem?_replicate, if_pos (by omega)]
  rw [Addr.add_lit, Nat.zero_add]
  unfold World.cell?
  rw [h]
  exact this
set_option maxHeartbeats 4000000 in
set_option maxRecDepth 100000 in
theorem repeat_calls (p : Nat) (w : World) (hp : w.cell? ⟨p, 0, none⟩ = some (.int .i64 (-1))) :
    Calls Tryz.prog 147 #[.slice (some ⟨p, 0, none⟩) 1 1, .int .i64 6] w fun e w' => ∃ v, e = .returned v ∧ Kd.R (Kd.int .i64) 3 w' w.heap.size (fun _ => True) v [-1, -1, -1, -1, -1, -1] ∧ Below w.heap.size w w' := by
  have HP := Aside0.mk hp
  have hplt := World.block_lt_of_cell? w _ hp
  clear hp
  have hmk : ∀ W : World, (Instr.makeSlice 22 (.int .i64 6) (.int .i64 6)).run Tryz.prog W = .ok (.slice (some ⟨W.heap.size, 0, none⟩) 6 6) (W.alloc (.cells (madeCells #[.int .i64 0] 6) 3)) := fun W => run_make_row' (P := Tryz.prog) 22 3 (.int .i64 0) 8 Tryz.underlying22 info_int rfl .i64 .i64 6 (by omega) (by omega) W
  have HB0 : Aside0 (Below w.heap.size w (w.alloc (.cells (madeCells #[.int .i64 0] 6) 3))) := ⟨below_alloc (Below.refl _ _) _⟩
  have HH0 : Aside0 ((w.alloc (.cells (madeCells #[.int .i64 0] 6) 3)).heap[w.heap.size]? = some (.cells (six 0).toArray 3 (0, 0))) := ⟨by rw [← made6]; exact heap_alloc_new _ _⟩
  have HP0 : Aside0 ((w.alloc (.cells (madeCells #[.int .i64 0] 6) 3)).cell? ⟨p, 0, none⟩ = some (.int .i64 (-1))) := ⟨(HB0.out.cell hplt).trans HP.out⟩
  go_enter Tryz.func147, Tryz.ntmps147
  go_wp2_with (first | (go_at_call 182; refine (bits_Mul.calls 1 6 0 6 _ bits_mul_6).mono ?_; rintro e w1 ⟨rfl, rfl⟩) | ((with_reducible refine gate_builtin (b := .copy) (xs := #[.tmp 31, .tmp 32]) rfl ?_); (refine wpList_copy_splice rfl (.tmp 31) (.tmp 32) 22 22 rfl 3 Tryz.underlying22 info_int_size (some ⟨w.heap.size, 0, none⟩) (some ⟨p, 0, none⟩) 6 6 1 1 rfl rfl w.heap.size 0 (six 0) 3 HH0.out [.int .i64 (-1)] rfl ?aP (by simp [six]) (by simp [Value.oneCell']) w.heap.size w HB0.out (Nat.le_refl _) ?_; (case aP => exact fun _ => ⟨rfl, _, rfl, fun j v hj => by rcases j with _ | j <;> simp at hj; subst hj; exact HP0.out⟩); intro w1 hh hb; have HH1 := Aside0.mk hh; have HB1 := Aside0.mk hb; clear hh hb)))
  have HH2 : Aside0 (w1.heap[w.heap.size]? = some (.cells (six 1).toArray 3 (0, 0))) := ⟨HH1.out⟩
  clear HH1 HP0 HH0 HB0 hmk
  go_loopg [8] 5 (fun g v8 wx => ∃ (n : Nat) (m : Int), ((n = 1 ∧ m = 1) ∨ (n = 2 ∧ m = 2) ∨ (n = 4 ∧ m = 4) ∨ (n = 6 ∧ m = 6)) ∧ v8 = .int .i64 m ∧ Aside0 (g = 6 - n) ∧ Aside0 (wx.heap[w.heap.size]? = some (.cells (six n).toArray 3 (0, 0))) ∧ Aside0 (Below w.heap.size w wx))
  case atStart => exact ⟨1, 1, .inl ⟨rfl, rfl⟩, rfl, ⟨rfl⟩, HH2, HB1⟩
  case round =>
    clear HH2 HB1
    obtain ⟨n, m, hn, rfl, HG, HH, HB⟩ := hrel
    rcases hn with ⟨rfl, rfl⟩ | ⟨rfl, rfl⟩ | ⟨rfl, rfl⟩ | ⟨rfl, rfl⟩
    · go_wp2
      go_region_law (refine step_copy_splice rfl (.tmp 41) (.tmp 44) 22 22 rfl 3 Tryz.underlying22 info_int_size (some ⟨w.heap.size, 1, none⟩) (some ⟨w.heap.size, 0, none⟩) 5 5 1 6 (by kernel_rfl) (by kernel_rfl) w.heap.size 1 (six 1) 3 HH.out (List.replicate 1 (.int .i64 (-1))) rfl ?aP (by simp [six]) (by simp [Value.oneCell']) w.heap.size w (below_drew HB.out) (Nat.le_refl _) ?_; (case aP => exact fun _ => ⟨rfl, _, rfl, copy_src HH.out (by omega)⟩); intro w1 hh hb; have HH1 := Aside0.mk hh; have HB1 := Aside0.mk hb; clear hh hb)
      go_wp2
      go_roundg 4
      case measure => have := HG.out; omega
      case rel => exact ⟨2, 2, .inr (.inl ⟨rfl, rfl⟩), by first | rfl | (simp; done) | kernel_rfl, ⟨rfl⟩, ⟨HH1.out⟩, HB1⟩
    · go_wp2
      go_region_law (refine step_copy_splice rfl (.tmp 41) (.tmp 44) 22 22 rfl 3 Tryz.underlying22 info_int_size (some ⟨w.heap.size, 2, none⟩) (some ⟨w.heap.size, 0, none⟩) 4 4 2 6 (by kernel_rfl) (by kernel_rfl) w.heap.size 2 (six 2) 3 HH.out (List.replicate 2 (.int .i64 (-1))) rfl ?aP (by simp [six]) (by simp [Value.oneCell']) w.heap.size w (below_drew HB.out) (Nat.le_refl _) ?_; (case aP => exact fun _ => ⟨rfl, _, rfl, copy_src HH.out (by omega)⟩); intro w1 hh hb; have HH1 := Aside0.mk hh; have HB1 := Aside0.mk hb; clear hh hb)
      go_wp2
      go_roundg 2
      case measure => have := HG.out; omega
      case rel => exact ⟨4, 4, .inr (.inr (.inl ⟨rfl, rfl⟩)), by first | rfl | (simp; done) | kernel_rfl, ⟨rfl⟩, ⟨HH1.out⟩, HB1⟩
    · go_wp2
      go_region_law (refine step_copy_splice rfl (.tmp 41) (.tmp 44) 22 22 rfl 3 Tryz.underlying22 info_int_size (some ⟨w.heap.size, 4, none⟩) (some ⟨w.heap.size, 0, none⟩) 2 2 4 6 (by kernel_rfl) (by kernel_rfl) w.heap.size 4 (six 4) 3 HH.out (List.replicate 2 (.int .i64 (-1))) rfl ?aP (by simp [six]) (by simp [Value.oneCell']) w.heap.size w (below_drew HB.out) (Nat.le_refl _) ?_; (case aP => exact fun _ => ⟨rfl, _, rfl, copy_src HH.out (by omega)⟩); intro w1 hh hb; have HH1 := Aside0.mk hh; have HB1 := Aside0.mk hb; clear hh hb)
      go_wp2
      go_roundg 0
      case measure => have := HG.out; omega
      case rel => exact ⟨6, 6, .inr (.inr (.inr ⟨rfl, rfl⟩)), by first | rfl | (simp; done) | kernel_rfl, ⟨rfl⟩, ⟨HH1.out⟩, HB1⟩
    · go_wp2
      go_ret
      refine ⟨_, rfl, Kd.R_of_own (enc := Value.int .i64) (h1 := fun _ => rfl) (ok := fun _ => True) (xs := [-1, -1, -1, -1, -1, -1]) ⟨rfl, .inr ⟨w.heap.size, 6, _, rfl, Nat.le_refl _, HH.out, by decide, by decide, rfl, rfl⟩⟩ (fun _ _ => trivial), HB.out⟩
end Go.Proofs.YtcpmgkedmmiioaaGreatDoor.H
end

section
set_option linter.unusedVariables false
namespace Go.Proofs.YtcpmgkedmmiioaaGreatDoor.H
open Go.RowKit Go.Proofs.YtcpmgkedmmiioaaGreatDoorW.PrintWords Go.Proofs.YtcpmgkedmmiioaaGreatDoorW.PrintLast Go.Proofs.YtcpmgkedmmiioaaGreatDoorW.PrintMore Go.Proofs.YtcpmgkedmmiioaaGreatDoor.B Go.Proofs.YtcpmgkedmmiioaaGreatDoor.Gf
theorem index_l (l : List Int) (x : Int) (hl : l.length < 1000000) : ∀ k i, i ≤ l.length → l.length - i < k → ∃ r : Int, slices_Index_int_int.l0 k l x (l.length : Int) (i : Int) = some r ∧ decide (r ≥ 0) = (l.drop i).contains x := by
  intro k
  induction k with
  | zero => intro i _ h; omega
  | succ k ih =>
    intro i hi hk
    unfold slices_Index_int_int.l0
    by_cases h : i < l.length
    · rw [if_pos (by omega), if_pos (by omega), if_pos (by omega)]
      have e : rd l (i : Int) = l[i] := by simp [rd, h]
      rw [List.drop_eq_getElem_cons h, List.contains_cons, e]
      by_cases hx : x = l[i]
      · rw [if_pos hx]
        exact ⟨_, rfl, by rw [decide_eq_true (by omega)]; simp [hx]⟩
      · rw [if_neg hx]
        obtain ⟨r, h1, h2⟩ := ih (i + 1) (by omega) (by omega)
        refine ⟨r, ?_, ?_⟩
        · rw [← h1]; congr 1; unfold wrap64; omega
        · rw [h2]; simp [hx]
    · rw [if_neg (by omega)]
      exact ⟨_, rfl, by rw [List.drop_eq_nil_of_le (by omega)]; rfl⟩
theorem contains_f (l : List Int) (x : Int) (hl : l.length < 1000000) : slices_Contains_int_int.f (l.length + 1) l x = some (l.contains x) := by
  obtain ⟨r, h1, h2⟩ := index_l l x hl (l.length + 1) 0 (Nat.zero_le _) (by omega)
  unfold slices_Contains_int_int.f slices_Index_int_int.f
  rw [show (0 : Int) = ((0 : Nat) : Int) from rfl, h1]
  simp only [Option.bind_some]
  rw [← List.drop_zero (l := l), ← h2]; rfl
theorem contains_calls (A : Option Addr) (c : Nat) (l : List Int) (x : Int) (w : World) (hr : Kd.C (Kd.int .i64) w A l.length l) (hc : l.length ≤ c) (hl : l.length < 1000000) :
    Calls Tryz.prog 158 #[.slice A l.length c, .int .i64 x] w fun e w' => e = .returned (.bool (l.contains x)) ∧ w = w' :=
  slices_Contains_int_int.calls (l.length + 1) A c l x _ w hr hc (contains_f l x hl)
/-- what fill gives -/
def fillf (t lp : List Int) : List Int := match solve 6 lp.length (fillM t.length (val t) (pl lp)) with
  | none => []
  | some y => filled t lp y lp.length
theorem fillf_length (t lp : List Int) : fillf t lp = [] ∨ (fillf t lp).length = t.length := by
  unfold fillf; split
  · exact .inl rfl
  · exact .inr (filled_length _ _ _ _)
theorem fillf_calls (A : Option Addr) (c : Nat) (l : List Int) (Ap : Option Addr) (cp : Nat) (lp : List Int) (w : World) (hr : Kd.C (Kd.int .i64) w A l.length l) (hc : l.length ≤ c) (hrp : Kd.C (Kd.int .i64) w Ap lp.length lp) (hcp : lp.length ≤ cp)
    (hl : l.length ≤ 15) (hl0 : 0 < l.length) (hv : ∀ i, i < l.length → -1 ≤ l.getD i 0 ∧ l.getD i 0 ≤ 31) (hp : ∀ q, q < lp.length → 0 ≤ lp.getD q 0 ∧ lp.getD q 0 < l.length) (hp6 : lp.length ≤ 6) :
    Calls Tryz.prog 124 #[.slice A l.length c, .slice Ap lp.length cp] w fun e w' => ∃ a c', e = .returned (.slice a (fillf l lp).length c') ∧ (a = none → fillf l lp = []) ∧ (fillf l lp = [] → a = none ∧ c' = 0) ∧ Kd.R (Kd.int .i64) 3 w' w.heap.size (fun _ => True) (.slice a (fillf l lp).length c') (fillf l lp) ∧ Below w.heap.size w w' := by
  refine (fill_calls A c l Ap cp lp w hr hc hrp hcp hl hv hp hp6).mono ?_
  rintro e w1 ⟨v, rfl, hb, ⟨hs, rfl⟩ | ⟨y, hs, ho⟩⟩
  · have e : fillf l lp = [] := by unfold fillf; rw [hs]
    rw [e]
    exact ⟨none, 0, rfl, fun _ => rfl, fun _ => ⟨rfl, rfl⟩, Kd.R_nil _ _ _ _ _, hb⟩
  · have e : fillf l lp = filled l lp y lp.length := by unfold fillf; rw [hs]
    rw [e]
    obtain ⟨g, cap, rfl, _⟩ := (Kd.own_of_R ho).form (by rw [filled_length]; exact hl0)
    refine ⟨some ⟨g, 0, none⟩, cap, rfl, (fun h => by cases h), (fun h => ?_), ho, hb⟩
    have := filled_length l lp y lp.length
    rw [h] at this
    simp only [List.length_nil] at this
    omega
theorem bad_false {s : Int} (h : bad (-1) s = false) : -1 ≤ s ∧ s ≤ 31 := by
  unfold bad at h
  rw [Bool.or_eq_false_iff, decide_eq_false_iff_not, decide_eq_false_iff_not] at h
  omega
theorem wordf_true {l : List Int} {x : Int} (h : wordf l x = true) : 7 ≤ l.length ∧ l.length ≤ 15 ∧ l.any (bad x) = false := by
  unfold wordf at h
  simp only [Bool.and_eq_true, decide_eq_true_eq, Bool.not_eq_true'] at h
  exact ⟨h.1.1, h.1.2, h.2⟩
theorem wordf_range {l : List Int} (h : wordf l (-1) = true) : ∀ i, i < l.length → -1 ≤ l.getD i 0 ∧ l.getD i 0 ≤ 31 := by
  intro i hi
  have := (wordf_true h).2.2
  rw [List.any_eq_false] at this
  have e : l.getD i 0 = l[i] := by rw [List.getD_eq_getElem?_getD, List.getElem?_eq_getElem hi]; rfl
  rw [e]
  exact bad_false (by simpa using this l[i] (List.getElem_mem hi))
def m6 : List Int := [-1, -1, -1, -1, -1, -1]
/-- the check symbols' places, the first i written -/
def eps (n i : Nat) : List Int := (List.range 6).map fun q => if q < i then ((n + q : Nat) : Int) else 0
theorem eps_length (n i : Nat) : (eps n i).length = 6 := by simp [eps]
theorem eps_getD (n i q : Nat) (h : q < 6) : (eps n i).getD q 0 = if q < i then ((n + q : Nat) : Int) else 0 := by
  unfold eps; rw [List.getD_eq_getElem?_getD, List.getElem?_map, List.getElem?_range h]; rfl
theorem eps_zero (n : Nat) : eps n 0 = List.replicate 6 0 := by
  unfold eps; rfl
theorem eps_set (n i : Nat) (h : i < 6) : (eps n i).set i ((n + i : Nat) : Int) = eps n (i + 1) := by
  apply List.ext_getElem (by simp [eps])
  intro q h1 h2
  have hq : q < 6 := by simpa [eps] using h2
  have e1 : ∀ k (hk : q < (eps n k).length), (eps n k)[q] = if q < k then ((n + q : Nat) : Int) else 0 := by
    intro k hk
    have := eps_getD n k q hq
    rw [List.getD_eq_getElem?_getD, List.getElem?_eq_getElem hk] at this
    exact this
  rw [List.getElem_set, e1, e1]
  by_cases e : i = q
  · subst e; rw [if_pos rfl, if_pos (by omega)]
  · rw [if_neg e]
    by_cases e2 : q < i
    · rw [if_pos e2, if_pos (by omega)]
    · rw [if_neg e2, if_neg (by omega)]
def encf (l : List Int) : List Int × Int := if wordf (l ++ m6) (-1) = true ∧ l.contains (-1) = false then (fillf (l ++ m6) (eps l.length 6), 0) else ([], 2)
theorem cell_two0 (w : World) (a b : Value) (t : TypeId) : (w.alloc (.cells #[a, b] t)).cell? ⟨w.heap.size, 0, none⟩ = some a := by unfold World.cell?; rw [heap_alloc_new]; rfl
theorem cell_two1 (w : World) (a b : Value) (t : TypeId) : (w.alloc (.cells #[a, b] t)).cell? ⟨w.heap.size, 1, none⟩ = some b := by unfold World.cell?; rw [heap_alloc_new]; rfl
theorem concat2_calls (A1 A2 : Option Addr) (c1 c2 : Nat) (l1 l2 : List Int) (w : World) (h1 : Kd.C (Kd.int .i64) w A1 l1.length l1) (h2 : Kd.C (Kd.int .i64) w A2 l2.length l2) (hc1 : l1.length ≤ c1) (hc2 : l2.length ≤ c2) (hl1 : l1.length ≤ 100) (hl2 : l2.length ≤ 100) :
    Calls Tryz.prog 125 #[.slice (some ⟨w.heap.size, 0, none⟩) 2 2] (w.alloc (.cells #[.slice A1 l1.length c1, .slice A2 l2.length c2] 22)) fun e w' => ∃ A c, e = .returned (.slice A (l1 ++ l2).length c) ∧ (l1 ++ l2).length ≤ c ∧ Kd.C (Kd.int .i64) w' A (l1 ++ l2).length (l1 ++ l2) ∧ Below w.heap.size w w' := by
  have hb := below_alloc (Below.refl w.heap.size w) (.cells #[.slice A1 l1.length c1, .slice A2 l2.length c2] 22)
  have H := concat_calls w.heap.size 2 (fun k => if k = 0 then A1 else A2) (fun k => if k = 0 then c1 else c2) (fun k => if k = 0 then l1 else l2) (w.alloc (.cells #[.slice A1 l1.length c1, .slice A2 l2.length c2] 22)) (by omega)
    (fun k hk => by
      by_cases e : k = 0
      · subst e; exact Kd.C_below h1 hb
      · simp only [e, if_false]; exact Kd.C_below h2 hb)
    (fun k hk => by
      rcases (show k = 0 ∨ k = 1 by omega) with rfl | rfl
      · exact hc1
      · exact hc2)
    (fun k hk => by
      rcases (show k = 0 ∨ k = 1 by omega) with rfl | rfl
      · exact hl1
      · exact hl2)
    (fun k hk => by
      rcases (show k = 0 ∨ k = 1 by omega) with rfl | rfl
      · exact cell_two0 _ _ _ _
      · exact cell_two1 _ _ _ _)
  refine H.mono ?_
  rintro e w1 ⟨v, rfl, ho, hb2⟩
  have e : cat (fun k => if k = 0 then l1 else l2) 2 = l1 ++ l2 := by simp [cat]
  rw [e] at ho
  obtain ⟨A, c, rfl, hc, hC⟩ := Kd.R_reads ho
  exact ⟨A, c, rfl, hc, hC, hb.trans (hb2.mono (by simp))⟩
set_option maxHeartbeats 4000000 in
set_option maxRecDepth 100000 in
theorem encode_calls (A : Option Addr) (c : Nat) (l : List Int) (w : World) (hr : Kd.C (Kd.int .i64) w A l.length l) (hc : l.length ≤ c) (hl : l.length ≤ 60) :
    Calls Tryz.prog 128 #[.slice A l.length c] w fun e w' => ∃ v, e = .returned (.tuple #[v, .int .i64 (encf l).2]) ∧ Kd.R (Kd.int .i64) 3 w' w.heap.size (fun _ => True) v (encf l).1 ∧ Below w.heap.size w w' := by
  have HR := Aside0.mk hr
  have HC1 : Aside0 ((w.alloc (.cells #[.int .i64 (-1)] 3)).cell? ⟨w.heap.size, 0, none⟩ = some (.int .i64 (-1))) := ⟨by unfold World.cell?; rw [heap_alloc_new]; rfl⟩
  have HB1 : Aside0 (Below w.heap.size w (w.alloc (.cells #[.int .i64 (-1)] 3))) := ⟨below_alloc (Below.refl _ _) _⟩
  clear hr
  have hmk : ∀ W : World, (Instr.makeSlice 22 (.int .i64 6) (.int .i64 6)).run Tryz.prog W = .ok (.slice (some ⟨W.heap.size, 0, none⟩) 6 6) (W.alloc (.cells (madeCells #[.int .i64 0] 6) 3)) := fun W => run_make_row' (P := Tryz.prog) 22 3 (.int .i64 0) 8 Tryz.underlying22 info_int rfl .i64 .i64 6 (by omega) (by omega) W
  obtain ⟨t, ht⟩ : ∃ t, l ++ [-1, -1, -1, -1, -1, -1] = t := ⟨_, rfl⟩
  have htl : t.length ≤ 66 := by rw [← ht]; simp; omega
  have HTL : Aside0 (t.length = l.length + 6) := ⟨by rw [← ht]; simp⟩
  have HT := Aside0.mk ht
  have HE : Aside0 (encf l = if wordf t (-1) = true ∧ l.contains (-1) = false then (fillf t (eps l.length 6), 0) else ([], 2)) := ⟨by unfold encf m6; rw [ht]⟩
  clear ht
  cases hw : wordf t (-1) with
  | false =>
    rw [hw, if_neg (by simp)] at HE
    have HW := Aside0.mk hw
    have HN : Aside0 (True) := ⟨trivial⟩
    clear hw
    go_enter Tryz.func128, Tryz.ntmps128
    go_wp2_with (first
    | (go_at_call 147; refine (repeat_calls w.heap.size _ HC1.out).mono ?_; rintro e w1 ⟨v, rfl, ho, hb⟩; obtain ⟨A1, c1, rfl, hc1, hC⟩ := Kd.R_reads ho; have HC2 := Aside0.mk hC; have HB2 := Aside0.mk (HB1.out.trans (hb.mono (by simp))); clear ho hb hC)
    | (go_at_call 125; refine (concat2_calls A A1 c c1 l [-1, -1, -1, -1, -1, -1] _ (Kd.C_below HR.out HB2.out) HC2.out hc hc1 (by omega) (by simp)).mono ?_; rintro e w2 ⟨A2, c2, rfl, hc2, hC, hb⟩; rw [HT.out] at hC hc2; rw [HT.out]; have HC3 := Aside0.mk hC; have HB3 := Aside0.mk (HB2.out.trans (hb.mono HB2.out.size)); clear hC hb)
    | (go_at_call 122; refine (word_calls A2 c2 t (-1) _ HC3.out hc2 (by omega)).mono ?_; rintro e w3 ⟨rfl, hb⟩; rw [HW.out]; have HC4 := Aside0.mk (Kd.C_below HC3.out hb); have HB4 := Aside0.mk (HB3.out.trans (hb.mono HB3.out.size)); clear hb)
    | (go_at_call 158; refine (contains_calls A c l (-1) _ (Kd.C_below HR.out HB4.out) hc (by omega)).mono ?_; rintro e w5 ⟨rfl, rfl⟩; rw [HN.out]))
    go_ret2
    exact ⟨.slice none 0 0, by rw [HE.out]; rfl, by rw [HE.out]; exact Kd.R_nil _ _ _ _ _, HB4.out⟩
  | true =>
    cases hn : l.contains (-1) with
    | true =>
      rw [hw, hn, if_neg (by simp)] at HE
      have HW := Aside0.mk hw
      have HN := Aside0.mk hn
      clear hw hn
      go_enter Tryz.func128, Tryz.ntmps128
      go_wp2_with (first
    | (go_at_call 147; refine (repeat_calls w.heap.size _ HC1.out).mono ?_; rintro e w1 ⟨v, rfl, ho, hb⟩; obtain ⟨A1, c1, rfl, hc1, hC⟩ := Kd.R_reads ho; have HC2 := Aside0.mk hC; have HB2 := Aside0.mk (HB1.out.trans (hb.mono (by simp))); clear ho hb hC)
    | (go_at_call 125; refine (concat2_calls A A1 c c1 l [-1, -1, -1, -1, -1, -1] _ (Kd.C_below HR.out HB2.out) HC2.out hc hc1 (by omega) (by simp)).mono ?_; rintro e w2 ⟨A2, c2, rfl, hc2, hC, hb⟩; rw [HT.out] at hC hc2; rw [HT.out]; have HC3 := Aside0.mk hC; have HB3 := Aside0.mk (HB2.out.trans (hb.mono HB2.out.size)); clear hC hb)
    | (go_at_call 122; refine (word_calls A2 c2 t (-1) _ HC3.out hc2 (by omega)).mono ?_; rintro e w3 ⟨rfl, hb⟩; rw [HW.out]; have HC4 := Aside0.mk (Kd.C_below HC3.out hb); have HB4 := Aside0.mk (HB3.out.trans (hb.mono HB3.out.size)); clear hb)
    | (go_at_call 158; refine (contains_calls A c l (-1) _ (Kd.C_below HR.out HB4.out) hc (by omega)).mono ?_; rintro e w5 ⟨rfl, rfl⟩; rw [HN.out]))
      go_ret2
      exact ⟨.slice none 0 0, by rw [HE.out]; rfl, by rw [HE.out]; exact Kd.R_nil _ _ _ _ _, HB4.out⟩
    | false =>
      rw [hw, hn, if_pos ⟨rfl, rfl⟩] at HE
      have HV := Aside0.mk (wordf_range hw)
      have HL := Aside0.mk (wordf_true hw)
      have HW := Aside0.mk hw
      have HN := Aside0.mk hn
      clear hw hn
      go_enter Tryz.func128, Tryz.ntmps128
      go_wp2_with (first
    | (go_at_call 147; refine (repeat_calls w.heap.size _ HC1.out).mono ?_; rintro e w1 ⟨v, rfl, ho, hb⟩; obtain ⟨A1, c1, rfl, hc1, hC⟩ := Kd.R_reads ho; have HC2 := Aside0.mk hC; have HB2 := Aside0.mk (HB1.out.trans (hb.mono (by simp))); clear ho hb hC)
    | (go_at_call 125; refine (concat2_calls A A1 c c1 l [-1, -1, -1, -1, -1, -1] _ (Kd.C_below HR.out HB2.out) HC2.out hc hc1 (by omega) (by simp)).mono ?_; rintro e w2 ⟨A2, c2, rfl, hc2, hC, hb⟩; rw [HT.out] at hC hc2; rw [HT.out]; have HC3 := Aside0.mk hC; have HB3 := Aside0.mk (HB2.out.trans (hb.mono HB2.out.size)); clear hC hb)
    | (go_at_call 122; refine (word_calls A2 c2 t (-1) _ HC3.out hc2 (by omega)).mono ?_; rintro e w3 ⟨rfl, hb⟩; rw [HW.out]; have HC4 := Aside0.mk (Kd.C_below HC3.out hb); have HB4 := Aside0.mk (HB3.out.trans (hb.mono HB3.out.size)); clear hb)
    | (go_at_call 158; refine (contains_calls A c l (-1) _ (Kd.C_below HR.out HB4.out) hc (by omega)).mono ?_; rintro e w5 ⟨rfl, rfl⟩; rw [HN.out]))
      have HK : Aside0 (Kd.R (Kd.int .i64) 3 (w3.alloc (.cells (madeCells #[.int .i64 0] 6) 3)) w3.heap.size (fun _ => True) (.slice (some ⟨w3.heap.size, 0, none⟩) 6 6) (eps l.length 0)) := ⟨by
        rw [eps_zero]
        exact Kd.R_of_own (enc := Value.int .i64) (h1 := fun _ => rfl) (ok := fun _ => True) (own_made w3 w3.heap.size 3 .i64 6 (Nat.le_refl _) (by omega)) (fun _ _ => trivial)⟩
      have HB5 : Aside0 (Below w3.heap.size w3 (w3.alloc (.cells (madeCells #[.int .i64 0] 6) 3))) := ⟨below_alloc (Below.refl _ _) _⟩
      go_loopg [22] 6 (fun g v22 wx => ∃ i : Nat, i ≤ 6 ∧ v22 = .int .i64 i ∧ Aside0 (g = 6 - i) ∧ Aside0 (Kd.R (Kd.int .i64) 3 wx w3.heap.size (fun _ => True) (.slice (some ⟨w3.heap.size, 0, none⟩) 6 6) (eps l.length i)) ∧ Aside0 (Below w3.heap.size w3 wx))
      case atStart => exact ⟨0, Nat.zero_le _, rfl, ⟨rfl⟩, HK, HB5⟩
      case round =>
        clear HK HB5
        obtain ⟨i, hi, rfl, HG, HK, HB5⟩ := hrel
        by_cases hi6 : i < 6
        · have t1 : decide ((i : Int) < 6) = true := decide_eq_true (by omega)
          have p1 := eq_true (show (0 : Int) ≤ (i : Int) by omega)
          have p2 := eq_true (show (i : Int) < 6 by omega)
          have p3 := eq_true hi6
          obtain ⟨d1, d2⟩ := Kd.R_celln (0 : Int) HK.out (i : Int) (by omega) (by omega)
          simp only [Int.toNat_natCast] at d1 d2
          go_wp2
          go_roundg (6 - (i + 1))
          case measure => have := HG.out; omega
          case rel =>
            refine ⟨i + 1, by omega, by first | rfl | (simp; done), ⟨rfl⟩, ⟨?_⟩, ⟨HB5.out.setCell (by simp) _⟩⟩
            have h1 := Kd.R_putn HK.out (i : Int) ((l.length + i : Nat) : Int)
            simp only [Int.toNat_natCast] at h1
            rw [eps_set _ _ hi6] at h1
            exact h1
        · have t1 : decide ((i : Int) < 6) = false := decide_eq_false (by omega)
          obtain rfl : i = 6 := by omega
          clear hmk hi hi6 HC1 HB1 HC2 HB2 hc1 htl hl
          obtain ⟨hk1, _, hk2⟩ := Kd.R_reads' HK.out
          have HK2 := Aside0.mk hk2
          have HB6 := Aside0.mk (HB4.out.trans (HB5.out.mono HB4.out.size))
          clear hk2 hk1
          have HP : Aside0 (∀ q, q < (eps l.length 6).length → 0 ≤ (eps l.length 6).getD q 0 ∧ (eps l.length 6).getD q 0 < t.length) := ⟨by
            intro q hq
            rw [eps_length] at hq
            rw [eps_getD _ _ _ hq, if_pos hq, HTL.out]; omega⟩
          have HEL : Aside0 ((eps l.length 6).length = 6) := ⟨eps_length _ _⟩
          go_wp2_with (first | (go_at_call 124; refine (fillf_calls A2 c2 t (some ⟨w3.heap.size, 0, none⟩) 6 (eps l.length 6) _ (Kd.C_below HC4.out HB5.out) hc2 HK2.out (by rw [HEL.out]; exact Nat.le_refl _) HL.out.2.1 (by have := HL.out.1; omega) HV.out HP.out (by rw [HEL.out]; exact Nat.le_refl _)).mono ?_; rintro e w5 ⟨a5, c5, rfl, _, _, ho, hb⟩; have HO5 := Aside0.mk ho; have HB7 := Aside0.mk hb; clear ho hb))
          go_ret2
          refine ⟨.slice a5 (fillf t (eps l.length 6)).length c5, by rw [HE.out]; rfl, ?_, HB6.out.trans (HB7.out.mono HB6.out.size)⟩
          rw [HE.out]
          exact Kd.R_lower HO5.out HB6.out.size
end Go.Proofs.YtcpmgkedmmiioaaGreatDoor.H
end

section
set_option linter.unusedVariables false
namespace Go.Proofs.YtcpmgkedmmiioaaGreatDoor.H
open Go.RowKit Go.Proofs.YtcpmgkedmmiioaaGreatDoorW.PrintWords Go.Proofs.YtcpmgkedmmiioaaGreatDoorW.PrintLast Go.Proofs.YtcpmgkedmmiioaaGreatDoorW.PrintMore Go.Proofs.YtcpmgkedmmiioaaGreatDoor.B Go.Proofs.YtcpmgkedmmiioaaGreatDoor.Gf
/-- the places among the first i whose symbol is erased -/
def ert (l : List Int) (i : Nat) : List Int := ((List.range i).filter fun i => decide (l.getD i 0 = -1)).map Int.ofNat
theorem ert_length (l : List Int) (i : Nat) : (ert l i).length ≤ i := by
  unfold ert; rw [List.length_map]
  exact Nat.le_trans (List.length_filter_le _ _) (by simp)
theorem ert_yes (l : List Int) (i : Nat) (h : l.getD i 0 = -1) : ert l (i + 1) = ert l i ++ [(i : Int)] := by
  unfold ert; rw [List.range_succ, List.filter_append, List.map_append]
  congr 1
  rw [List.filter_cons_of_pos (by simp only [decide_eq_true_eq]; exact h)]; rfl
theorem ert_no (l : List Int) (i : Nat) (h : ¬ l.getD i 0 = -1) : ert l (i + 1) = ert l i := by
  unfold ert; rw [List.range_succ, List.filter_append, List.map_append]
  rw [List.filter_cons_of_neg (by simp only [decide_eq_true_eq]; exact h)]; simp
theorem ert_range (l : List Int) (i : Nat) : ∀ q, q < (ert l i).length → 0 ≤ (ert l i).getD q 0 ∧ (ert l i).getD q 0 < i := by
  intro q hq
  have e : (ert l i).getD q 0 = (ert l i)[q] := by rw [List.getD_eq_getElem?_getD, List.getElem?_eq_getElem hq]; rfl
  have := List.getElem_mem hq
  rw [← e] at this
  unfold ert at this
  obtain ⟨a, ha, h2⟩ := List.mem_map.1 this
  have := List.mem_range.1 (List.mem_filter.1 ha).1
  unfold ert; rw [← h2]; simp; omega
theorem loc_places (l lp : List Int) (n : Nat) : ∀ x, x ∈ (loc l lp n).1 → 0 ≤ x ∧ x < l.length := by
  intro x hx
  unfold loc at hx
  split at hx
  · cases hx
  · split at hx
    · cases hx
    · obtain ⟨a, ha, rfl⟩ := List.mem_map.1 hx
      have := List.mem_range.1 (List.mem_filter.1 ha).1
      simp; omega
theorem loc_count (l lp : List Int) (n : Nat) (h : (loc l lp n).2 = true) : (loc l lp n).1.length = n := by
  unfold loc at h ⊢
  split
  · next h0 => simp [h0]
  · next h0 =>
    rw [if_neg h0] at h
    split at h
    · cases h
    · simpa using h
/-- the loop of Decode -/
def decl (l lp : List Int) : Nat → Nat → List Int × Int × Int
  | 0, _ => ([], 0, 25)
  | k + 1, n => if 2 * n + lp.length ≤ 6 then (if (loc l lp n).2 = true ∧ fillf l (lp ++ (loc l lp n).1) ≠ [] then ((fillf l (lp ++ (loc l lp n).1)).take (l.length - 6), (n : Int), 0) else decl l lp k (n + 1)) else ([], 0, 25)
def decf (l : List Int) : List Int × Int × Int := if wordf l (-1) = true then decl l (ert l l.length) 5 0 else ([], 0, 2)
set_option maxHeartbeats 4000000 in
set_option maxRecDepth 100000 in
theorem decode_calls (A : Option Addr) (c : Nat) (l : List Int) (w : World) (hr : Kd.C (Kd.int .i64) w A l.length l) (hc : l.length ≤ c) (hl : l.length ≤ 60) :
    Calls Tryz.prog 57 #[.slice A l.length c] w fun e w' => ∃ v, e = .returned (.tuple #[v, .int .i64 (decf l).2.1, .int .i64 (decf l).2.2]) ∧ Kd.R (Kd.int .i64) 3 w' w.heap.size (fun _ => True) v (decf l).1 ∧ Below w.heap.size w w' := by
  have HR := Aside0.mk hr
  clear hr
  cases hw : wordf l (-1) with
  | false =>
    have HE : Aside0 (decf l = ([], 0, 2)) := ⟨by unfold decf; rw [hw, if_neg (by simp)]⟩
    have HW := Aside0.mk hw
    clear hw
    go_enter Tryz.func57, Tryz.ntmps57
    go_wp2_with (first | (go_at_call 122; refine (word_calls A c l (-1) _ HR.out hc (by omega)).mono ?_; rintro e w3 ⟨rfl, hb⟩; rw [HW.out]; have HB4 := Aside0.mk hb; clear hb))
    go_ret3
    exact ⟨.slice none 0 0, by rw [HE.out]; rfl, by rw [HE.out]; exact Kd.R_nil _ _ _ _ _, HB4.out⟩
  | true =>
    have HE : Aside0 (decf l = decl l (ert l l.length) 5 0) := ⟨by unfold decf; rw [hw, if_pos rfl]⟩
    have HV := Aside0.mk (wordf_range hw)
    have HL := Aside0.mk (wordf_true hw)
    have HW := Aside0.mk hw
    clear hw
    go_enter Tryz.func57, Tryz.ntmps57
    go_wp2_with (first | (go_at_call 122; refine (word_calls A c l (-1) _ HR.out hc (by omega)).mono ?_; rintro e w3 ⟨rfl, hb⟩; rw [HW.out]; have HB4 := Aside0.mk hb; clear hb))
    have HN0 : Aside0 (NRow w3 w3.heap.size (.slice none 0 0) (ert l 0)) := ⟨own_nil _ _ _ _⟩
    have HBR : Aside0 (Below w3.heap.size w3 w3) := ⟨Below.refl _ _⟩
    go_loopg [5, 17] l.length (fun g v5 v17 wx => ∃ i : Nat, i ≤ l.length ∧ v17 = .int .i64 i ∧ Aside0 (g = l.length - i) ∧ Aside0 (NRow wx w3.heap.size v5 (ert l i)) ∧ Aside0 (Below w3.heap.size w3 wx))
    case atStart => exact ⟨0, Nat.zero_le _, rfl, ⟨rfl⟩, HN0, HBR⟩
    case round =>
      clear HN0 HBR
      obtain ⟨i, hi, rfl, HG, HP5, HB5⟩ := hrel
      by_cases hiN : i < l.length
      · have t2 : decide ((i : Int) < (l.length : Int)) = true := decide_eq_true (by omega)
        obtain ⟨ad, e, hx⟩ := Kd.at_int HR.out (i : Int) (by omega) (by omega)
        cases e
        replace hx := (HB5.out.cell (World.block_lt_of_cell? _ _ ((HB4.out.cell (World.block_lt_of_cell? w _ hx)).trans hx))).trans ((HB4.out.cell (World.block_lt_of_cell? w _ hx)).trans hx)
        simp only [Int.toNat_natCast] at hx
        have p1 := eq_true (show (0 : Int) ≤ (i : Int) by omega)
        have q1 := eq_true (show (i : Int) < (l.length : Int) by omega)
        have HEE : Aside0 (rd l (i : Int) = l.getD i 0) := ⟨by simp [rd]⟩
        by_cases hm : rd l (i : Int) = -1
        · have HX : Aside0 (ert l (i + 1) = ert l i ++ [(i : Int)]) := ⟨ert_yes _ _ (HEE.out.symm.trans hm)⟩
          have t4 : (rd l (i : Int) == -1) = true := by simp [hm]
          have HL2 := Aside0.mk (ert_length l i)
          clear hm
          obtain ⟨xs, hxs⟩ : ∃ xs, ert l i = xs := ⟨_, rfl⟩
          rw [hxs] at HX HP5 HL2
          clear hxs
          go_wp2_with (first | (at_builtin; refine print_append_num (w0 := w3) w3.heap.size rfl (.tmp 24) (.tmp 26) 22 3 .i64 8 rfl Tryz.underlying22 info_int (by decide) u5 xs (i : Int) rfl rfl ?aO ?aB ?aS ?aL ?_; (case aO => exact HP5.out); (case aB => exact HB5.out); (case aS => exact HB5.out.size); (case aL => have := HL2.out; omega); intro v1 w1 ho hb hg hat; have HO2 := Aside0.mk ho; have HB2 := Aside0.mk hb; clear ho hb hg hat))
          go_roundg (l.length - (i + 1))
          case measure => have := HG.out; omega
          case rel => exact ⟨i + 1, by omega, by first | rfl | (simp; done), ⟨rfl⟩, ⟨by rw [HX.out]; exact HO2.out⟩, HB2⟩
        · have HX : Aside0 (ert l (i + 1) = ert l i) := ⟨ert_no _ _ (fun h => hm (HEE.out.trans h))⟩
          have t4 : (rd l (i : Int) == -1) = false := by simp [hm]
          clear hm
          go_wp2
          go_roundg (l.length - (i + 1))
          case measure => have := HG.out; omega
          case rel => exact ⟨i + 1, by omega, by first | rfl | (simp; done), ⟨rfl⟩, ⟨by rw [HX.out]; exact HP5.out⟩, HB5⟩
      · have t2 : decide ((i : Int) < (l.length : Int)) = false := decide_eq_false (by omega)
        obtain rfl : i = l.length := by omega
        obtain ⟨w4, hw4⟩ : ∃ w4, w4 = wr := ⟨_, rfl⟩
        rw [← hw4] at HP5 HB5 ⊢
        clear hw4
        have HRng := Aside0.mk (ert_range l l.length)
        have HEL := Aside0.mk (ert_length l l.length)
        obtain ⟨lp, hlp⟩ : ∃ lp, ert l l.length = lp := ⟨_, rfl⟩
        rw [hlp] at HP5 HE HRng HEL
        clear hlp
        obtain ⟨A5, c5, rfl, hc5, hC5⟩ := Kd.R_reads (Kd.R_of_own (enc := Value.int .i64) (h1 := fun _ => rfl) (ok := fun _ => True) HP5.out (fun _ _ => trivial))
        have HC5 := Aside0.mk hC5
        have HB6 : Aside0 (Below w.heap.size w w4) := ⟨HB4.out.trans (HB5.out.mono HB4.out.size)⟩
        have HBR : Aside0 (Below w4.heap.size w4 w4) := ⟨Below.refl _ _⟩
        have HLL : Aside0 (lp.length ≤ 60) := ⟨by have := HEL.out; omega⟩
        clear hC5 HB5 HP5 HB4
        go_wp2
        go_loopg [8] 5 (fun g v8 wx => ∃ n k : Nat, n + k = 5 ∧ v8 = .int .i64 n ∧ Aside0 (g = k) ∧ Aside0 (decf l = decl l lp k n) ∧ Aside0 (2 * n ≤ 8) ∧ Aside0 (Below w4.heap.size w4 wx))
        case atStart => exact ⟨0, 5, rfl, rfl, ⟨rfl⟩, HE, ⟨by omega⟩, HBR⟩
        case round =>
          clear HE HBR t2
          obtain ⟨n, k, hnk, rfl, HG2, HE, HN8, HB5⟩ := hrel
          have hn4 : n ≤ 4 := by have := HN8.out; omega
          obtain ⟨k, rfl⟩ : ∃ k', k = k' + 1 := ⟨k - 1, by omega⟩
          by_cases hb : 2 * n + lp.length ≤ 6
          · have t3 : decide (2 * (n : Int) + (lp.length : Int) ≤ 6) = true := decide_eq_true (by omega)
            rcases hloc : loc l lp n with ⟨es, ok⟩
            have HLOC := Aside0.mk hloc
            have HPL := loc_places l lp n
            have HCN := loc_count l lp n
            rw [hloc] at HPL HCN
            replace HPL := Aside0.mk HPL
            replace HCN := Aside0.mk HCN
            cases ok with
            | false =>
              have HE2 : Aside0 (decf l = decl l lp k (n + 1)) := ⟨by rw [HE.out, decl, if_pos hb, HLOC.out, if_neg (by simp)]⟩
              clear hloc
              go_wp2_with (first | (go_at_call 123; refine (locate_calls A c l A5 c5 lp n _ (Kd.C_below (Kd.C_below HR.out HB6.out) HB5.out) hc (Kd.C_below HC5.out HB5.out) hc5 HL.out.2.1 HV.out HRng.out hb).mono ?_; rintro e w6 ⟨v, rfl, ho, hb1⟩; rw [HLOC.out]; have HB7 := Aside0.mk (HB5.out.trans (hb1.mono HB5.out.size)); clear ho hb1))
              go_roundg k
              case measure => have := HG2.out; omega
              case rel => exact ⟨n + 1, k, by omega, by first | rfl | (simp; done), ⟨rfl⟩, HE2, ⟨by omega⟩, HB7⟩
            | true =>
              have HEN : Aside0 (es.length = n) := ⟨HCN.out rfl⟩
              have HQ : Aside0 (∀ q, q < (lp ++ es).length → 0 ≤ (lp ++ es).getD q 0 ∧ (lp ++ es).getD q 0 < l.length) := ⟨by
                intro q hq
                have e : (lp ++ es).getD q 0 = (lp ++ es)[q] := by rw [List.getD_eq_getElem?_getD, List.getElem?_eq_getElem hq]; rfl
                have hmem := List.getElem_mem hq
                rw [← e] at hmem
                rcases List.mem_append.1 hmem with h | h
                · obtain ⟨j, hj, ej⟩ := List.getElem_of_mem h
                  have := HRng.out j hj
                  rw [List.getD_eq_getElem?_getD, List.getElem?_eq_getElem hj] at this
                  rw [← ej]; exact this
                · exact HPL.out _ h⟩
              have HQL : Aside0 ((lp ++ es).length ≤ 6) := ⟨by rw [List.length_append, HEN.out]; omega⟩
              obtain ⟨q, hq⟩ : ∃ q, lp ++ es = q := ⟨_, rfl⟩
              have HQE := Aside0.mk hq
              rw [hq] at HQ HQL
              by_cases hr0 : fillf l q = []
              · have HE2 : Aside0 (decf l = decl l lp k (n + 1)) := ⟨by rw [HE.out, decl, if_pos hb, HLOC.out, if_neg (fun h => h.2 (by rw [HQE.out]; exact hr0))]⟩
                have HR0 := Aside0.mk hr0
                clear hr0 hloc hq
                have hneq := fun (W : World) (a : Option Addr) (n c : Nat) => run_neq_slice_nil (P := Tryz.prog) W 22 3 a n c Tryz.underlying22
                go_wp2_with (first
                  | (go_at_call 123; refine (locate_calls A c l A5 c5 lp n _ (Kd.C_below (Kd.C_below HR.out HB6.out) HB5.out) hc (Kd.C_below HC5.out HB5.out) hc5 HL.out.2.1 HV.out HRng.out hb).mono ?_; rintro e w6 ⟨v, rfl, ho, hb1⟩; rw [HLOC.out] at ho; rw [HLOC.out]; have HB7 := Aside0.mk (HB5.out.trans (hb1.mono HB5.out.size)); obtain ⟨A6, c6, rfl, hc6, hC6⟩ := Kd.R_reads ho; have HC6 := Aside0.mk hC6; have HC6' := Aside0.mk hc6; clear ho hb1 hC6 hc6)
                  | (go_at_call 125; refine (concat2_calls A5 A6 c5 c6 lp es _ (Kd.C_below HC5.out HB7.out) HC6.out hc5 HC6'.out (by have := HLL.out; omega) (by rw [HEN.out]; omega)).mono ?_; rintro e w7 ⟨A7, c7, rfl, hc7, hC7, hb7⟩; rw [HQE.out] at hC7 hc7; rw [HQE.out]; have HC7 := Aside0.mk hC7; have HC7' := Aside0.mk hc7; have HB8 := Aside0.mk (HB7.out.trans (hb7.mono HB7.out.size)); clear hC7 hc7 hb7)
                  | (go_at_call 124; refine (fillf_calls A c l A7 c7 q _ (Kd.C_below (Kd.C_below HR.out HB6.out) HB8.out) hc HC7.out HC7'.out HL.out.2.1 (by have := HL.out.1; omega) HV.out HQ.out HQL.out).mono ?_; rintro e w8 ⟨a8, c8, rfl, _, h8, ho, hb8⟩; obtain ⟨rfl, rfl⟩ := h8 HR0.out; rw [HR0.out]; have HB9 := Aside0.mk (HB8.out.trans (hb8.mono HB8.out.size)); clear ho hb8 h8))
                go_roundg k
                case measure => have := HG2.out; omega
                case rel => exact ⟨n + 1, k, by omega, by first | rfl | (simp; done), ⟨rfl⟩, HE2, ⟨by omega⟩, HB9⟩
              · have HE2 : Aside0 (decf l = ((fillf l q).take (l.length - 6), (n : Int), 0)) := ⟨by rw [HE.out, decl, if_pos hb, HLOC.out, if_pos ⟨rfl, by rw [HQE.out]; exact hr0⟩, HQE.out]⟩
                have HR0 := Aside0.mk hr0
                have HRL : Aside0 ((fillf l q).length = l.length) := ⟨(fillf_length l q).resolve_left hr0⟩
                clear hr0 hloc hq
                obtain ⟨m, hm⟩ : ∃ m, m + 6 = l.length := ⟨l.length - 6, by have := HL.out.1; omega⟩
                have hm2 : (l.length : Int) - 6 = (m : Int) := by omega
                have HM := Aside0.mk hm
                clear hm
                have p1 := eq_true (show (0 : Int) ≤ (m : Int) by omega)
                have hneq := fun (W : World) (a : Option Addr) (n c : Nat) => run_neq_slice_nil (P := Tryz.prog) W 22 3 a n c Tryz.underlying22
                go_wp2_with (first
                  | (go_at_call 123; refine (locate_calls A c l A5 c5 lp n _ (Kd.C_below (Kd.C_below HR.out HB6.out) HB5.out) hc (Kd.C_below HC5.out HB5.out) hc5 HL.out.2.1 HV.out HRng.out hb).mono ?_; rintro e w6 ⟨v, rfl, ho, hb1⟩; rw [HLOC.out] at ho; rw [HLOC.out]; have HB7 := Aside0.mk (HB5.out.trans (hb1.mono HB5.out.size)); obtain ⟨A6, c6, rfl, hc6, hC6⟩ := Kd.R_reads ho; have HC6 := Aside0.mk hC6; have HC6' := Aside0.mk hc6; clear ho hb1 hC6 hc6)
                  | (go_at_call 125; refine (concat2_calls A5 A6 c5 c6 lp es _ (Kd.C_below HC5.out HB7.out) HC6.out hc5 HC6'.out (by have := HLL.out; omega) (by rw [HEN.out]; omega)).mono ?_; rintro e w7 ⟨A7, c7, rfl, hc7, hC7, hb7⟩; rw [HQE.out] at hC7 hc7; rw [HQE.out]; have HC7 := Aside0.mk hC7; have HC7' := Aside0.mk hc7; have HB8 := Aside0.mk (HB7.out.trans (hb7.mono HB7.out.size)); clear hC7 hc7 hb7)
                  | (go_at_call 124; refine (fillf_calls A c l A7 c7 q _ (Kd.C_below (Kd.C_below HR.out HB6.out) HB8.out) hc HC7.out HC7'.out HL.out.2.1 (by have := HL.out.1; omega) HV.out HQ.out HQL.out).mono ?_; rintro e w8 ⟨a8, c8, rfl, h8, _, ho, hb8⟩; obtain ⟨ad8, rfl⟩ : ∃ ad, a8 = some ad := (match a8, h8 with | some ad, _ => ⟨ad, rfl⟩ | none, h => absurd (h rfl) HR0.out); have HO8 := Aside0.mk ho; obtain ⟨_, hle8, _⟩ := Kd.R_reads' ho; rw [HRL.out] at hle8 HO8; rw [HRL.out]; have p2 := eq_true (show (m : Int) ≤ (c8 : Int) by have := HM.out; omega); have HB9 := Aside0.mk (HB8.out.trans (hb8.mono HB8.out.size)); have HB9' := Aside0.mk HB8.out.size; clear ho hb8 h8 hle8))
                go_ret3
                refine ⟨.slice (some ad8) m c8, by rw [HE2.out]; rfl, ?_, HB6.out.trans (HB9.out.mono HB6.out.size)⟩
                rw [HE2.out, show l.length - 6 = m by have := HM.out; omega]
                exact Kd.R_lower (Kd.R_take HO8.out (by rw [HRL.out]; have := HM.out; omega)) (Nat.le_trans HB6.out.size HB9'.out)
          · have t3 : decide (2 * (n : Int) + (lp.length : Int) ≤ 6) = false := decide_eq_false (by omega)
            have HE2 : Aside0 (decf l = ([], 0, 25)) := ⟨by rw [HE.out, decl, if_neg hb]⟩
            have hLL := HLL.out
            go_wp2
            go_ret3
            exact ⟨.slice none 0 0, by rw [HE2.out]; rfl, by rw [HE2.out]; exact Kd.R_nil _ _ _ _ _, HB6.out.trans (HB5.out.mono HB6.out.size)⟩
end Go.Proofs.YtcpmgkedmmiioaaGreatDoor.H
end
