/- stripTurns_card, part 14: what the row's proof needs: words of the print, contracts of functions, the plain law. -/
import Derived.Lib.ConvBytes
import Derived.Test.YtcpmgkedmmiioaaGreatDoorKa12
import Derived.Test.YtcpmgkedmmiioaaGreatDoorKa13
import Derived.Test.YtcpmgkedmmiioaaGreatDoorKa1
section
set_option linter.unusedVariables false
namespace Go.Proofs.YtcpmgkedmmiioaaGreatDoor.H
open Go.RowKit Go.Proofs.YtcpmgkedmmiioaaGreatDoorW.PrintWords Go.Proofs.YtcpmgkedmmiioaaGreatDoorW.PrintLast Go.Proofs.YtcpmgkedmmiioaaGreatDoorW.PrintMore Go.Proofs.YtcpmgkedmmiioaaGreatDoor.B Go.Proofs.YtcpmgkedmmiioaaGreatDoor.Gf
/-- Block b is a row of cells of type t, the first n of which hold f, and none of these is frozen. -/
def BRow (w : World) (b : Nat) (t : TypeId) (n : Nat) (f : Nat → Value) : Prop := ∃ (c : Array Value) (fr : Nat × Nat), w.heap[b]? = some (.cells c t fr) ∧ n ≤ fr.1 ∧ ∀ i, i < n → c[i]? = some (f i)
namespace BRow
variable {w : World} {b : Nat} {t : TypeId} {n : Nat} {f g : Nat → Value}
theorem cell (h : BRow w b t n f) {i : Nat} (hi : i < n) : w.cell? ⟨b, i, none⟩ = some (f i) := by
  obtain ⟨c, fr, hb, _, hc⟩ := h
  simp [World.cell?, hb, hc i hi]
theorem frozen (h : BRow w b t n f) {i : Nat} (hi : i < n) : w.frozen? ⟨b, i, none⟩ = false := by
  obtain ⟨c, fr, hb, hf, _⟩ := h
  simp [World.frozen?, hb]
  omega
theorem lt (h : BRow w b t n f) : b < w.heap.size := by
  obtain ⟨c, fr, hb, _⟩ := h
  exact (Array.getElem?_eq_some_iff.1 hb).1
theorem congr (h : BRow w b t n f) (e : ∀ i, i < n → f i = g i) : BRow w b t n g := by
  obtain ⟨c, fr, hb, hf, hc⟩ := h
  exact ⟨c, fr, hb, hf, fun i hi => by rw [hc i hi, e i hi]⟩
theorem of_block {w' : World} (h : BRow w b t n f) (e : w'.heap[b]? = w.heap[b]?) : BRow w' b t n f := by
  obtain ⟨c, fr, hb, hc⟩ := h
  exact ⟨c, fr, e.trans hb, hc⟩
theorem set (h : BRow w b t n f) (i : Nat) (v : Value) : BRow (w.setCell ⟨b, i, none⟩ v) b t n (fun j => if j = i then v else f j) := by
  obtain ⟨c, fr, hb, hf, hc⟩ := h
  refine ⟨c.setIfInBounds i v, fr, ?_, hf, fun j hj => ?_⟩
  · simp [World.setCell, Array.getElem?_modify, hb]
  · rw [Array.getElem?_setIfInBounds]
    have hlt : j < c.size := (Array.getElem?_eq_some_iff.1 (hc j hj)).1
    by_cases e : j = i
    · subst e; simp [hlt]
    · rw [if_neg (fun h => e h.symm)]
      simp only [e, if_false]
      exact hc j hj
theorem setOther (h : BRow w b t n f) {a : Addr} (ha : b ≠ a.block) (v : Value) : BRow (w.setCell a v) b t n f := h.of_block (Deep.blk_setCell_other _ _ _ _ ha)
theorem alloc (h : BRow w b t n f) (o : Obj) : BRow (w.alloc o) b t n f := h.of_block (Deep.blk_alloc_lt _ _ _ h.lt)
theorem drew (h : BRow w b t n f) : BRow w.drew b t n f := h
theorem reads (h : BRow w b t n f) (k : IntKind) (xs : List Int) (hl : xs.length = n) (hx : ∀ i, i < n → f i = .int k (xs.getD i 0)) : ∀ j v, (nums k xs)[j]? = some v → w.cell? (Addr.add ⟨b, 0, none⟩ j) = some v := by
  intro j v hj
  have hj1 : j < n := by have := (List.getElem?_eq_some_iff.1 hj).1; simpa [nums, hl] using this
  rw [Addr.add_lit, Nat.zero_add, h.cell hj1, hx j hj1]
  rw [← hj]
  unfold nums
  rw [List.getElem?_map, List.getElem?_eq_getElem (by omega), Option.map_some, List.getD_eq_getElem?_getD, List.getElem?_eq_getElem (by omega)]; rfl
end BRow
/-- a byte of a list as a value -/
def bv (l : List UInt8) (i : Nat) : Value := .int .u8 ((l.getD i 0).toNat : Int)
/-- the list while it is reversed: i at each end are done -/
def half (l : List UInt8) (i q : Nat) : Value := if q < i ∨ l.length ≤ q + i then bv l (l.length - 1 - q) else bv l q
set_option maxHeartbeats 4000000 in
set_option maxRecDepth 100000 in
theorem reverse_calls (g : Nat) (l : List UInt8) (c base : Nat) (w : World) (hr : BRow w g 5 l.length (bv l)) (hbg : base ≤ g) (hl : l.length ≤ 4611686018427387904) :
    Calls Tryz.prog 59 #[.slice (some ⟨g, 0, none⟩) l.length c] w fun e w' => e = .returned (.tuple #[]) ∧ BRow w' g 5 l.length (fun q => bv l (l.length - 1 - q)) ∧ Below base w w' := by
  have HR : Aside0 (BRow w g 5 l.length (half l 0)) := ⟨hr.congr fun i hi => by unfold half; rw [if_neg (by omega)]⟩
  clear hr
  go_enter Tryz.func59, Tryz.ntmps59
  go_wp2
  go_loopg [2, 3] (l.length + 1) (fun gg v2 v3 wx => ∃ (i : Nat) (m : Int), (i : Int) + m + 1 = l.length ∧ 2 * i ≤ l.length + 1 ∧ v2 = .int .i64 i ∧ v3 = .int .i64 m ∧ Aside0 (gg = l.length + 1 - i) ∧ Aside0 (BRow wx g 5 l.length (half l i)) ∧ Aside0 (Below base w wx))
  case atStart => exact ⟨0, (l.length : Int) - 1, by omega, by omega, rfl, by first | rfl | (simp; done), ⟨rfl⟩, HR, ⟨Below.refl _ _⟩⟩
  case round =>
    clear HR
    obtain ⟨i, m, him, h2i, rfl, rfl, HG, HR, HB⟩ := hrel
    by_cases hlt : (i : Int) < m
    · have t1 : decide ((i : Int) < m) = true := decide_eq_true hlt
      obtain ⟨j, rfl⟩ : ∃ j : Nat, m = j := ⟨m.toNat, by omega⟩
      have hij : i < j := by omega
      have hjl : j < l.length := by omega
      have hil : i < l.length := by omega
      have c1 := HR.out.cell hil
      have c2 := HR.out.cell hjl
      have e1 : half l i i = bv l i := by unfold half; rw [if_neg (by omega)]
      have e2 : half l i j = bv l j := by unfold half; rw [if_neg (by omega)]
      rw [e1] at c1
      rw [e2] at c2
      unfold bv at c1 c2
      have d2 := HR.out.frozen hil
      have d3 := HR.out.frozen hjl
      have d4 := (HR.out.set i (bv l j)).cell hjl
      have e3 : (if j = i then bv l j else half l i j) = bv l j := by rw [if_neg (by omega), e2]
      simp only [e3] at d4
      unfold bv at d4
      have p1 := eq_true (show (0 : Int) ≤ (i : Int) by omega)
      have p2 := eq_true (show (i : Int) < (l.length : Int) by omega)
      have p3 := eq_true (show (0 : Int) ≤ (j : Int) by omega)
      have p4 := eq_true (show (j : Int) < (l.length : Int) by omega)
      have p5 := eq_true hil
      have p6 := eq_true hjl
      have HE : Aside0 ((i : Int) + (j : Int) + 1 = l.length) := ⟨him⟩
      clear him e1 e2 e3
      have HIJ : Aside0 (hij = hij) := ⟨rfl⟩
      have b1 : bv l j = .int .u8 (l[j].toNat : Int) := by unfold bv; rw [List.getD_eq_getElem?_getD, List.getElem?_eq_getElem hjl]; rfl
      have b2 : bv l i = .int .u8 (l[i].toNat : Int) := by unfold bv; rw [List.getD_eq_getElem?_getD, List.getElem?_eq_getElem hil]; rfl
      have B1 := Aside0.mk b1
      have B2 := Aside0.mk b2
      clear b1 b2
      go_wp2
      go_big_region
      go_wp2
      go_roundg (l.length + 1 - (i + 1))
      case measure => have := HG.out; omega
      case rel =>
        have he := HE.out
        refine ⟨i + 1, (j : Int) - 1, by omega, by omega, by first | rfl | (simp; done), by first | rfl | (simp; done), ⟨rfl⟩, ⟨?_⟩, ⟨below_drew ((HB.out.setCell (by simpa using hbg) _).setCell (by simpa using hbg) _)⟩⟩
        have h1 := ((HR.out.set i (bv l j)).set j (bv l i)).drew
        rw [B1.out, B2.out] at h1
        refine h1.congr fun q hq => ?_
        rw [← B1.out, ← B2.out]
        unfold half
        by_cases e : q = j
        · subst e
          rw [if_pos rfl, if_pos (by omega), show l.length - 1 - q = i from by omega]
        · rw [if_neg e]
          by_cases e2 : q = i
          · subst e2
            rw [if_pos rfl, if_pos (by omega), show l.length - 1 - q = j from by omega]
          · rw [if_neg e2]
            by_cases e3 : q < i ∨ l.length ≤ q + i
            · rw [if_pos e3, if_pos (by omega)]
            · rw [if_neg e3, if_neg (by omega)]
    · have t1 : decide ((i : Int) < m) = false := decide_eq_false hlt
      go_wp2
      go_end0
      refine ⟨rfl, HR.out.congr fun q hq => ?_, HB.out⟩
      unfold half
      by_cases e : q < i ∨ l.length ≤ q + i
      · rw [if_pos e]
      · rw [if_neg e, show l.length - 1 - q = q from by omega]
theorem bytes_row (w : World) (s : ByteArray) : BRow (Lib.bytesWorld w 5 s) w.heap.size 5 s.data.toList.length (bv s.data.toList) := by
  refine ⟨_, _, Lib.bytesWorld_at_new w 5 s, ?_, fun i hi => ?_⟩
  · simp [Lib.bytesCells]
  · simp only [Array.length_toList] at hi
    unfold Lib.bytesCells bv
    rw [Array.getElem?_append_left (by simpa using hi), Array.getElem?_map, Array.getElem?_eq_getElem hi, Option.map_some]
    simp only [List.getD_eq_getElem?_getD, Array.getElem?_toList]
    rw [Array.getElem?_eq_getElem hi]; rfl
theorem bytes_below (w : World) (s : ByteArray) : Below w.heap.size w (Lib.bytesWorld w 5 s) := by
  refine ⟨rfl, rfl, rfl, by rw [Lib.bytesWorld_size]; omega, fun i hi => Lib.bytesWorld_at_old w 5 s i hi⟩
set_option maxHeartbeats 4000000 in
set_option maxRecDepth 100000 in
theorem flip_calls (s : ByteArray) (w : World) (hs : s.size ≤ 4611686018427387904) :
    Calls Tryz.prog 16 #[.string s] w fun e w' => e = .returned (.string ⟨s.data.toList.reverse.toArray⟩) ∧ Below w.heap.size w w' := by
  obtain ⟨l, hl⟩ : ∃ l, s.data.toList = l := ⟨_, rfl⟩
  have hll : l.length = s.size := by rw [← hl]; rfl
  have hcv : (convert 9 118 (.string s)).run Tryz.prog w = .ok (.slice (some ⟨w.heap.size, 0, none⟩) l.length (grownCap w s.size 0 5)) (Lib.bytesWorld w 5 s) := by
    rw [hll]; exact Lib.run_convert_string_bytes w 9 118 5 s Tryz.underlying9 Tryz.underlying118 Tryz.underlying5
  have HR := Aside0.mk (bytes_row w s)
  have HB := Aside0.mk (bytes_below w s)
  rw [hl] at HR
  have HL := Aside0.mk hll
  generalize grownCap w s.size 0 5 = G at hcv
  generalize Lib.bytesWorld w 5 s = W at hcv HR HB
  have HLE := Aside0.mk hl
  clear hll hl
  have hback : ∀ W2 : World, BRow W2 w.heap.size 5 l.length (fun q => bv l (l.length - 1 - q)) → (convert 118 9 (.slice (some ⟨w.heap.size, 0, none⟩) l.length G)).run Tryz.prog W2 = .ok (.string ⟨l.reverse.toArray⟩) W2 := by
    intro W2 h
    have := run_convert_bytes_back (P := Tryz.prog) W2 118 9 5 ⟨w.heap.size, 0, none⟩ G l.reverse Tryz.underlying118 Tryz.underlying5 Tryz.underlying9 (fun j hj => by
      rw [List.length_reverse] at hj
      rw [Addr.add_lit, Nat.zero_add, h.cell hj]
      unfold bv
      rw [List.getElem_reverse, List.getD_eq_getElem?_getD, List.getElem?_eq_getElem (by omega)]; rfl)
    rw [List.length_reverse] at this
    exact this
  go_enter Tryz.func16, Tryz.ntmps16
  go_wp2_with (first | (go_at_call 59; refine (reverse_calls w.heap.size l G w.heap.size _ HR.out (Nat.le_refl _) (by rw [HL.out]; exact hs)).mono ?_; rintro e w1 ⟨rfl, hr, hb⟩; have hcv2 := hback w1 hr; have HB1 := Aside0.mk (HB.out.trans hb); clear hr hb))
  go_ret
  exact ⟨by rw [HLE.out]; rfl, HB1.out⟩
end Go.Proofs.YtcpmgkedmmiioaaGreatDoor.H
end

section
set_option linter.unusedVariables false
namespace Go.Proofs.YtcpmgkedmmiioaaGreatDoor.H
open Go.RowKit Go.Proofs.YtcpmgkedmmiioaaGreatDoorW.PrintWords Go.Proofs.YtcpmgkedmmiioaaGreatDoorW.PrintLast Go.Proofs.YtcpmgkedmmiioaaGreatDoorW.PrintMore Go.Proofs.YtcpmgkedmmiioaaGreatDoor.B Go.Proofs.YtcpmgkedmmiioaaGreatDoor.Gf
/-- one of the three isMods -/
def isMod (b : UInt8) : Bool := b == 48 || (b == 49 || b == 63)
def isStrip (s : ByteArray) : Bool := decide (s.size = 74) && s.data.toList.all isMod
theorem trim_calls (s : ByteArray) (w : World) (hs : s.size ≤ 9223372036854775807) :
    Calls Tryz.prog 171 #[.string s, .string ⟨#[48, 49, 63]⟩] w fun e w' => e = .returned (.string ⟨(Lib.trimS s.data.toList [48, 49, 63]).toArray⟩) ∧ Below w.heap.size w w' :=
  Any.strings_Trim_laid Tryz.lays160 (by kernel_rfl) s ⟨#[48, 49, 63]⟩ w hs (by decide) (ascii_of_all (by decide))
theorem dropWhile_nil (p : UInt8 → Bool) : ∀ l : List UInt8, l.dropWhile p = [] ↔ ∀ x, x ∈ l → p x = true := by
  intro l
  induction l with
  | nil => simp
  | cons a l ih =>
    rw [List.dropWhile_cons]
    by_cases h : p a = true
    · rw [if_pos h, ih]; simp [h]
    · rw [if_neg h]; simp [h]
theorem mem_dropWhile (p : UInt8 → Bool) (x : UInt8) : ∀ l : List UInt8, x ∈ l → p x = false → x ∈ l.dropWhile p := by
  intro l
  induction l with
  | nil => intro h; cases h
  | cons a l ih =>
    intro h hp
    rw [List.dropWhile_cons]
    by_cases ha : p a = true
    · rw [if_pos ha]
      rcases List.mem_cons.1 h with rfl | h
      · rw [ha] at hp; cases hp
      · exact ih h hp
    · rw [if_neg ha]; exact h
theorem trim_nil (l : List UInt8) : (Lib.trimS l [48, 49, 63] = []) ↔ l.all isMod = true := by
  have hm : ∀ b : UInt8, ([48, 49, 63] : List UInt8).contains b = isMod b := by
    intro b; unfold isMod
    rw [List.contains_cons, List.contains_cons, List.contains_cons]
    rw [show ([] : List UInt8).contains b = false from rfl, Bool.or_false]
  unfold Lib.trimS Lib.trimLeftS Lib.trimRightS
  simp only [hm]
  rw [dropWhile_nil, List.all_eq_true]
  constructor
  · intro h x hx
    by_cases hp : isMod x = true
    · exact hp
    · exact h x (List.mem_reverse.2 (mem_dropWhile _ x _ (List.mem_reverse.2 hx) (by simpa using hp)))
  · intro h x hx
    exact h x (List.mem_reverse.1 ((List.dropWhile_sublist _).subset (List.mem_reverse.1 hx)))
set_option maxHeartbeats 4000000 in
set_option maxRecDepth 100000 in
theorem strip_valid_calls (s : ByteArray) (w : World) (hs : s.size ≤ 9223372036854775807) :
    Calls Tryz.prog 119 #[.string s] w fun e w' => e = .returned (.bool (isStrip s)) ∧ Below w.heap.size w w' := by
  by_cases h74 : s.size = 74
  · have t1 : ((s.size : Int) == 74) = true := by rw [h74]; rfl
    have HE : Aside0 (isStrip s = s.data.toList.all isMod) := ⟨by unfold isStrip; rw [decide_eq_true h74]; rfl⟩
    have H74 := Aside0.mk h74
    clear h74
    obtain ⟨l, hl⟩ : ∃ l, (Lib.trimS s.data.toList [48, 49, 63]) = l := ⟨_, rfl⟩
    have HT := Aside0.mk (trim_nil s.data.toList)
    rw [hl] at HT
    have HL := Aside0.mk hl
    clear hl
    go_enter Tryz.func119, Tryz.ntmps119
    go_wp2_with (first | (go_at_call 171; refine (trim_calls s _ hs).mono ?_; rintro e w1 ⟨rfl, hb⟩; rw [HL.out]; have HB1 := Aside0.mk hb; clear hb))
    go_ret
    refine ⟨?_, HB1.out⟩
    rw [HE.out]
    have : s.data.toList.all isMod = l.isEmpty := by
      rw [Bool.eq_iff_iff, ← HT.out, List.isEmpty_iff]
    rw [this]; rfl
  · have t1 : ((s.size : Int) == 74) = false := by rw [beq_eq_false_iff_ne]; omega
    have HE : Aside0 (isStrip s = false) := ⟨by unfold isStrip; rw [decide_eq_false h74]; rfl⟩
    clear h74
    go_enter Tryz.func119, Tryz.ntmps119
    go_wp2
    go_ret
    exact ⟨by rw [HE.out]; rfl, Below.refl _ _⟩
theorem count_calls (s : ByteArray) (c : UInt8) (w : World) :
    Calls Tryz.prog 172 #[.string s, .string ⟨#[c]⟩] w fun e w' => e = .returned (.int .i64 (Lib.countByte s.data.toList c)) ∧ w' = w := Any.strings_Count_one Tryz.lays138 s c w
def beginsf (s : ByteArray) : Bool := decide (4 ≤ Lib.countByte (s.data.toList.take 7) 49) && decide (4 ≤ Lib.countByte ((s.data.toList.drop 67).take 7) 48)
set_option maxHeartbeats 4000000 in
set_option maxRecDepth 100000 in
theorem begins_calls (s : ByteArray) (w : World) (h74 : s.size = 74) :
    Calls Tryz.prog 120 #[.string s] w fun e w' => e = .returned (.bool (beginsf s)) ∧ w' = w := by
  have p1 : (7 : Int) ≤ (s.size : Int) := by omega
  have p2 : (67 : Int) ≤ (s.size : Int) := by omega
  have HX : Aside0 (decide (4 ≤ ((Lib.countByte ((s.data.toList.drop 67).take 7) 48 : Nat) : Int)) = decide (4 ≤ Lib.countByte ((s.data.toList.drop 67).take 7) 48)) := ⟨decide_eq_decide.2 (by omega)⟩
  by_cases h1 : 4 ≤ Lib.countByte (s.data.toList.take 7) 49
  · have HE : Aside0 (beginsf s = decide (4 ≤ Lib.countByte ((s.data.toList.drop 67).take 7) 48)) := ⟨by unfold beginsf; rw [decide_eq_true h1, Bool.true_and]⟩
    have t1 : decide (4 ≤ ((Lib.countByte (s.data.toList.take 7) 49 : Nat) : Int)) = true := decide_eq_true (by omega)
    go_enter Tryz.func120, Tryz.ntmps120
    go_wp2_with (first | (go_at_call 172; refine (count_calls _ _ _).mono ?_; rintro e w1 ⟨rfl, rfl⟩))
    go_ret
    exact ⟨by rw [HE.out, ← HX.out]; rfl, rfl⟩
  · have HE : Aside0 (beginsf s = false) := ⟨by unfold beginsf; rw [decide_eq_false h1, Bool.false_and]⟩
    have t1 : decide (4 ≤ ((Lib.countByte (s.data.toList.take 7) 49 : Nat) : Int)) = false := decide_eq_false (by omega)
    go_enter Tryz.func120, Tryz.ntmps120
    go_wp2_with (first | (go_at_call 172; refine (count_calls _ _ _).mono ?_; rintro e w1 ⟨rfl, rfl⟩))
    go_ret
    exact ⟨by rw [HE.out]; rfl, rfl⟩
theorem contains1_calls (s : ByteArray) (c : UInt8) (w : World) :
    Calls Tryz.prog 121 #[.string s, .string ⟨#[c]⟩] w fun e w' => e = .returned (.bool (decide (0 ≤ Lib.indexByte s.data.toList c))) ∧ w' = w := Any.strings_Contains_one Tryz.lays144 s c w
theorem indexByte_mem (l : List UInt8) (c : UInt8) : decide (0 ≤ Lib.indexByte l c) = l.contains c := by
  induction l with
  | nil => rfl
  | cons b l ih =>
    unfold Lib.indexByte
    rw [List.contains_cons]
    by_cases h : b = c
    · subst h; simp
    · have h1 : (b == c) = false := by simp [h]
      have h2 : (c == b) = false := beq_eq_false_iff_ne.2 (fun e => h e.symm)
      rw [h1, h2]
      simp only [Bool.false_eq_true, if_false, Bool.false_or]
      rw [← ih]
      have := Lib.indexByte_ge l c
      by_cases h3 : Lib.indexByte l c = -1
      · rw [h3]; rfl
      · rw [if_neg (by simpa using h3)]
        rw [decide_eq_decide.2]; omega
/-- five modules of a strip -/
def chunk (s : ByteArray) (i : Nat) : List UInt8 := (s.data.toList.drop (7 + i * 5)).take 5
/-- the number that the first k of them write -/
def accu (l : List UInt8) : Nat → Int
  | 0 => 0
  | k + 1 => accu l k * 2 + ((((l.getD k 0).toNat : Nat) : Int) - 48)
def symb (s : ByteArray) (i : Nat) : Int := if (chunk s i).contains 63 = true then -1 else accu (chunk s i) 5
/-- the word while it is read: i symbols, the next one at v -/
def wlist (s : ByteArray) (i : Nat) (v : Int) : List Int := (List.range 12).map fun q => if q < i then symb s q else if q = i then v else 0
def wordl (s : ByteArray) : List Int := (List.range 12).map fun q => symb s q
theorem wlist_length (s : ByteArray) (i : Nat) (v : Int) : (wlist s i v).length = 12 := by simp [wlist]
theorem wlist_getD (s : ByteArray) (i : Nat) (v : Int) (q : Nat) (h : q < 12) : (wlist s i v).getD q 0 = if q < i then symb s q else if q = i then v else 0 := by
  unfold wlist; rw [List.getD_eq_getElem?_getD, List.getElem?_map, List.getElem?_range h]; rfl
theorem ints_ext {xs ys : List Int} (hl : xs.length = ys.length) (h : ∀ i, i < xs.length → xs.getD i 0 = ys.getD i 0) : xs = ys := by
  apply List.ext_getElem hl
  intro i h1 h2
  have := h i h1
  rw [List.getD_eq_getElem?_getD, List.getD_eq_getElem?_getD, List.getElem?_eq_getElem h1, List.getElem?_eq_getElem h2] at this
  exact this
theorem ints_set_getD (xs : List Int) (i q : Nat) (v : Int) (h : q < xs.length) : (xs.set i v).getD q 0 = if q = i then v else xs.getD q 0 := by
  rw [List.getD_eq_getElem?_getD, List.getElem?_set]
  by_cases e : i = q
  · subst e; rw [if_pos rfl, if_pos h, if_pos rfl]; rfl
  · rw [if_neg e, if_neg (fun h => e h.symm), List.getD_eq_getElem?_getD]
theorem wlist_set (s : ByteArray) (i : Nat) (u v : Int) (h : i < 12) : (wlist s i u).set i v = wlist s i v := by
  apply ints_ext (by simp [wlist])
  intro q hq
  rw [List.length_set] at hq
  have hq' : q < 12 := by rw [wlist_length] at hq; exact hq
  rw [ints_set_getD _ _ _ _ hq, wlist_getD _ _ _ _ hq', wlist_getD _ _ _ _ hq']
  by_cases e : q = i
  · subst e; rw [if_pos rfl, if_neg (by omega), if_pos rfl]
  · rw [if_neg e]; split
    · rfl
    · first | rfl | rw [if_neg e, if_neg e]
theorem wlist_next (s : ByteArray) (i : Nat) (h : i < 12) : wlist s i (symb s i) = wlist s (i + 1) 0 := by
  apply ints_ext (by simp [wlist])
  intro q hq
  have hq' : q < 12 := by rw [wlist_length] at hq; exact hq
  rw [wlist_getD _ _ _ _ hq', wlist_getD _ _ _ _ hq']
  by_cases e : q = i
  · subst e; rw [if_neg (by omega), if_pos rfl, if_pos (by omega)]
  · by_cases e2 : q < i
    · rw [if_pos e2, if_pos (by omega)]
    · rw [if_neg e2, if_neg e, if_neg (by omega)]; split <;> rfl
theorem wlist_end (s : ByteArray) : wlist s 12 0 = wordl s := by
  unfold wlist wordl
  apply List.map_congr_left
  intro q hq
  rw [if_pos (List.mem_range.1 hq)]
theorem wlist_start (s : ByteArray) : wlist s 0 0 = List.replicate 12 0 := by
  apply ints_ext (by simp [wlist])
  intro q hq
  have hq' : q < 12 := by rw [wlist_length] at hq; exact hq
  rw [wlist_getD _ _ _ _ hq', if_neg (by omega), List.getD_eq_getElem?_getD, List.getElem?_replicate, if_pos hq']
  split <;> rfl
end Go.Proofs.YtcpmgkedmmiioaaGreatDoor.H
end

section
set_option linter.unusedVariables false
namespace Go.Proofs.YtcpmgkedmmiioaaGreatDoor.H
open Go.RowKit Go.Proofs.YtcpmgkedmmiioaaGreatDoorW.PrintWords Go.Proofs.YtcpmgkedmmiioaaGreatDoorW.PrintLast Go.Proofs.YtcpmgkedmmiioaaGreatDoorW.PrintMore Go.Proofs.YtcpmgkedmmiioaaGreatDoor.B Go.Proofs.YtcpmgkedmmiioaaGreatDoor.Gf
theorem chunk_length (s : ByteArray) (h : s.size = 74) (i : Nat) (hi : i < 12) : (chunk s i).length = 5 := by
  unfold chunk
  rw [List.length_take, List.length_drop]
  have : s.data.toList.length = s.size := rfl
  omega
theorem chunk_mod (s : ByteArray) (h : isStrip s = true) (i k : Nat) (hk : k < (chunk s i).length) : isMod ((chunk s i).getD k 0) = true := by
  unfold isStrip at h
  simp only [Bool.and_eq_true, decide_eq_true_eq] at h
  have e : (chunk s i).getD k 0 = (chunk s i)[k] := by rw [List.getD_eq_getElem?_getD, List.getElem?_eq_getElem hk]; rfl
  rw [e]
  have hm := List.getElem_mem hk
  have : (chunk s i)[k] ∈ s.data.toList := by
    unfold chunk at hm
    exact List.mem_of_mem_drop (List.mem_of_mem_take hm)
  exact List.all_eq_true.1 h.2 _ this
theorem mod_range {b : UInt8} (h : isMod b = true) : 48 ≤ (b.toNat : Int) ∧ (b.toNat : Int) ≤ 63 := by
  unfold isMod at h
  simp only [Bool.or_eq_true, beq_iff_eq] at h
  rcases h with rfl | rfl | rfl <;> decide
theorem accu_range (l : List UInt8) (h : ∀ k, k < l.length → isMod (l.getD k 0) = true) : ∀ k, k ≤ l.length → k ≤ 5 → 0 ≤ accu l k ∧ accu l k ≤ 15 * (2 ^ k - 1) := by
  intro k
  induction k with
  | zero => intro _ _; simp [accu]
  | succ k ih =>
    intro hk h5
    have h1 := ih (by omega) (by omega)
    have h2 := mod_range (h k (by omega))
    simp only [accu]
    have : (2 : Int) ^ (k + 1) = 2 * 2 ^ k := by rw [Int.pow_succ, Int.mul_comm]
    rw [this]
    omega
theorem accu_bound (l : List UInt8) (hl : l.length = 5) (h : ∀ k, k < l.length → isMod (l.getD k 0) = true) (k : Nat) (hk : k ≤ 5) : 0 ≤ accu l k ∧ accu l k ≤ 465 := by
  have h1 := accu_range l h k (by omega) hk
  refine ⟨h1.1, Int.le_trans h1.2 ?_⟩
  rcases (show k = 0 ∨ k = 1 ∨ k = 2 ∨ k = 3 ∨ k = 4 ∨ k = 5 by omega) with rfl | rfl | rfl | rfl | rfl | rfl <;> decide
theorem wlist_rd (s : ByteArray) (i : Nat) (v : Int) (h : i < 12) : rdOf 0 (wlist s i v) (i : Int) = v := by
  have := wlist_getD s i v i h
  rw [if_neg (by omega), if_pos rfl] at this
  simpa [rdOf] using this
theorem chunk_bytes (s : ByteArray) (i m : Nat) (hm : 7 + i * 5 = m) : ((s.extract m s.size).extract 0 5).data.toList = chunk s i := by
  unfold chunk
  simp only [ByteArray.data_extract, Array.toList_extract, List.extract_eq_take_drop]
  rw [hm]
  simp only [Nat.sub_zero, List.drop_zero]
  rw [List.take_of_length_le (l := List.drop m s.data.toList) (by rw [List.length_drop]; exact Nat.le_refl _)]
def wordr (s : ByteArray) : List Int × Int := if isStrip s = true then (wordl s, 0) else ([], 7)
set_option maxHeartbeats 4000000 in
set_option maxRecDepth 100000 in
theorem stripword_calls (s : ByteArray) (w : World) (hs : s.size ≤ 9223372036854775807) :
    Calls Tryz.prog 56 #[.string s] w fun e w' => ∃ v, e = .returned (.tuple #[v, .int .i64 (wordr s).2]) ∧ Kd.R (Kd.int .i64) 3 w' w.heap.size (fun _ => True) v (wordr s).1 ∧ Below w.heap.size w w' := by
  cases hv : isStrip s with
  | false =>
    have HE : Aside0 (wordr s = ([], 7)) := ⟨by unfold wordr; rw [hv]; rfl⟩
    have HV := Aside0.mk hv
    clear hv
    go_enter Tryz.func56, Tryz.ntmps56
    go_wp2_with (first | (go_at_call 119; refine (strip_valid_calls s _ hs).mono ?_; rintro e w1 ⟨rfl, hb⟩; rw [HV.out]; have HB1 := Aside0.mk hb; clear hb))
    go_ret2
    exact ⟨.slice none 0 0, by rw [HE.out]; rfl, by rw [HE.out]; exact Kd.R_nil _ _ _ _ _, HB1.out⟩
  | true =>
    have HE : Aside0 (wordr s = (wordl s, 0)) := ⟨by unfold wordr; rw [hv]; rfl⟩
    have HV := Aside0.mk hv
    have h74 : s.size = 74 := by unfold isStrip at hv; simp only [Bool.and_eq_true, decide_eq_true_eq] at hv; exact hv.1
    have H74 := Aside0.mk h74
    have HCL := Aside0.mk (chunk_length s h74)
    have HCM := Aside0.mk (chunk_mod s hv)
    have hs74 : (s.size : Int) = 74 := by rw [h74]; rfl
    clear hv h74
    have hmk : ∀ W : World, (Instr.makeSlice 22 (.int .i64 12) (.int .i64 12)).run Tryz.prog W = .ok (.slice (some ⟨W.heap.size, 0, none⟩) 12 12) (W.alloc (.cells (madeCells #[.int .i64 0] 12) 3)) := fun W => run_make_row' (P := Tryz.prog) 22 3 (.int .i64 0) 8 Tryz.underlying22 info_int rfl .i64 .i64 12 (by omega) (by omega) W
    go_enter Tryz.func56, Tryz.ntmps56
    go_wp2_with (first | (go_at_call 119; refine (strip_valid_calls s _ hs).mono ?_; rintro e w1 ⟨rfl, hb⟩; rw [HV.out]; have HB1 := Aside0.mk hb; clear hb))
    have HK : Aside0 (Kd.R (Kd.int .i64) 3 (w1.alloc (.cells (madeCells #[.int .i64 0] 12) 3)) w1.heap.size (fun _ => True) (.slice (some ⟨w1.heap.size, 0, none⟩) 12 12) (wlist s 0 0)) := ⟨by
      rw [wlist_start]
      exact Kd.R_of_own (enc := Value.int .i64) (h1 := fun _ => rfl) (ok := fun _ => True) (own_made w1 w1.heap.size 3 .i64 12 (Nat.le_refl _) (by omega)) (fun _ _ => trivial)⟩
    have HB5 : Aside0 (Below w1.heap.size w1 (w1.alloc (.cells (madeCells #[.int .i64 0] 12) 3))) := ⟨below_alloc (Below.refl _ _) _⟩
    have HSZ : Aside0 (w1.heap.size < (w1.alloc (.cells (madeCells #[.int .i64 0] 12) 3)).heap.size) := ⟨by simp⟩
    clear hmk
    go_loopg [15] 12 (fun g v15 wx => ∃ i : Nat, i ≤ 12 ∧ v15 = .int .i64 i ∧ Aside0 (g = 12 - i) ∧ Aside0 (Kd.R (Kd.int .i64) 3 wx w1.heap.size (fun _ => True) (.slice (some ⟨w1.heap.size, 0, none⟩) 12 12) (wlist s i 0)) ∧ Aside0 (Below w1.heap.size w1 wx) ∧ Aside0 (w1.heap.size < wx.heap.size))
    case atStart => exact ⟨0, Nat.zero_le _, rfl, ⟨rfl⟩, HK, HB5, HSZ⟩
    case round =>
      clear HK HB5 HSZ
      obtain ⟨i, hi, rfl, HG, HK, HB5, HSZ⟩ := hrel
      by_cases hi12 : i < 12
      · have t1 : decide ((i : Int) < 12) = true := decide_eq_true (by omega)
        obtain ⟨m, hm⟩ : ∃ m, 7 + i * 5 = m := ⟨_, rfl⟩
        have hm2 : (7 : Int) + (i : Int) * 5 = (m : Int) := by omega
        have p1 := eq_true (show (0 : Int) ≤ (m : Int) by omega)
        have p2 := eq_true (show (m : Int) ≤ 74 by omega)
        obtain ⟨x, hx⟩ : ∃ x, (s.extract m s.size).extract 0 5 = x := ⟨_, rfl⟩
        have hxl : x.data.toList = chunk s i := by rw [← hx]; exact chunk_bytes s i m hm
        obtain ⟨l, hl⟩ : ∃ l, chunk s i = l := ⟨_, rfl⟩
        have hl5 : l.length = 5 := by rw [← hl]; exact HCL.out i hi12
        have hlm : ∀ k, k < l.length → isMod (l.getD k 0) = true := by rw [← hl]; exact HCM.out i
        rw [hl] at hxl
        have hxs : x.size = 5 := by
          have : x.data.toList.length = x.size := rfl
          rw [← this, hxl, hl5]
        have hcv : (convert 9 118 (.string x)).run Tryz.prog wr = .ok (.slice (some ⟨wr.heap.size, 0, none⟩) 5 (grownCap wr x.size 0 5)) (Lib.bytesWorld wr 5 x) := by
          have := Lib.run_convert_string_bytes (P := Tryz.prog) wr 9 118 5 x Tryz.underlying9 Tryz.underlying118 Tryz.underlying5
          rw [hxs] at this ⊢
          exact this
        have hBR := bytes_row wr x
        have hBB := bytes_below wr x
        rw [hxl, hl5] at hBR
        have HBR := Aside0.mk hBR
        have HBW : Aside0 (Below w1.heap.size w1 (Lib.bytesWorld wr 5 x)) := ⟨HB5.out.trans (hBB.mono HB5.out.size)⟩
        have HKW : Aside0 (Kd.R (Kd.int .i64) 3 (Lib.bytesWorld wr 5 x) w1.heap.size (fun _ => True) (.slice (some ⟨w1.heap.size, 0, none⟩) 12 12) (wlist s i (accu l 0))) := ⟨Kd.R_below HK.out hBB⟩
        have HNE : Aside0 (w1.heap.size ≠ wr.heap.size ∧ w1.heap.size < (Lib.bytesWorld wr 5 x).heap.size) := ⟨⟨by have := HSZ.out; omega, by have := HSZ.out; rw [Lib.bytesWorld_size]; omega⟩⟩
        have HLL := Aside0.mk hl
        have HLM := Aside0.mk hlm
        have HL5 := Aside0.mk hl5
        have HXL := Aside0.mk hxl
        generalize grownCap wr x.size 0 5 = G at hcv
        generalize Lib.bytesWorld wr 5 x = W at hcv HBR HBW HKW HNE
        clear hBR hBB hl hlm hl5 hxl hxs hm
        obtain ⟨b, hb⟩ : ∃ b, b = wr.heap.size := ⟨_, rfl⟩
        rw [← hb] at hcv HBR HNE
        clear hb
        go_wp2
        clear hcv
        go_loopg [27] 5 (fun g v27 wx => ∃ k : Nat, k ≤ 5 ∧ v27 = .int .i64 k ∧ Aside0 (g = 5 - k) ∧ Aside0 (Kd.R (Kd.int .i64) 3 wx w1.heap.size (fun _ => True) (.slice (some ⟨w1.heap.size, 0, none⟩) 12 12) (wlist s i (accu l k))) ∧ Aside0 (BRow wx b 5 5 (bv l)) ∧ Aside0 (Below w1.heap.size w1 wx) ∧ Aside0 (w1.heap.size < wx.heap.size))
        case atStart => exact ⟨0, Nat.zero_le _, rfl, ⟨rfl⟩, HKW, HBR, HBW, ⟨HNE.out.2⟩⟩
        case round =>
          clear HKW HBR HBW HK HB5 HSZ
          obtain ⟨k, hk, rfl, HG2, HK, HBR, HB5, HSZ⟩ := hrel
          by_cases hk5 : k < 5
          · have t2 : decide ((k : Int) < 5) = true := decide_eq_true (by omega)
            have d1 := HBR.out.cell hk5
            unfold bv at d1
            have hr := mod_range (HLM.out k (by rw [HL5.out]; exact hk5))
            have ha := accu_bound l HL5.out HLM.out k hk
            obtain ⟨c, hc⟩ : ∃ c : Int, ((l.getD k 0).toNat : Int) = c := ⟨_, rfl⟩
            rw [hc] at d1 hr
            have HC := Aside0.mk hc
            obtain ⟨d2, d3⟩ := Kd.R_celln (0 : Int) HK.out (i : Int) (by omega) (by omega)
            rw [wlist_rd s i _ hi12] at d2
            simp only [Int.toNat_natCast] at d2 d3
            obtain ⟨a, hac⟩ : ∃ a : Int, accu l k = a := ⟨_, rfl⟩
            rw [hac] at d2 ha
            have HAC := Aside0.mk hac
            obtain ⟨hr1, hr2⟩ := hr
            obtain ⟨ha1, ha2⟩ := ha
            clear hc hac
            have u1 : IntKind.u8.wrap (c - 48) = c - 48 := by rw [IntKind.wrap_u8]; omega
            have r1 := eq_true (show (0 : Int) ≤ (k : Int) by omega)
            have r2 := eq_true (show (k : Int) < 5 by omega)
            have r3 := eq_true hk5
            have r4 := eq_true (show (0 : Int) ≤ (i : Int) by omega)
            have r5 := eq_true (show (i : Int) < 12 by omega)
            have r6 := eq_true hi12
            go_wp2
            go_roundg (5 - (k + 1))
            case measure => have := HG2.out; omega
            case rel =>
              refine ⟨k + 1, by omega, by first | rfl | (simp; done), ⟨rfl⟩, ⟨?_⟩, ⟨HBR.out.setOther (fun e => HNE.out.1 e.symm) _⟩, ⟨HB5.out.setCell (by simp) _⟩, ⟨by have := HSZ.out; simpa using this⟩⟩
              have h1 := Kd.R_putn HK.out (i : Int) (a * 2 + (c - 48))
              simp only [Int.toNat_natCast] at h1
              rw [wlist_set _ _ _ _ hi12] at h1
              simp only [accu]
              rw [HAC.out, HC.out]
              exact h1
          · have t2 : decide ((k : Int) < 5) = false := decide_eq_false (by omega)
            obtain rfl : k = 5 := by omega
            obtain ⟨d2, d3⟩ := Kd.R_celln (0 : Int) HK.out (i : Int) (by omega) (by omega)
            rw [wlist_rd s i _ hi12] at d2
            simp only [Int.toNat_natCast] at d2 d3
            have r4 := eq_true (show (0 : Int) ≤ (i : Int) by omega)
            have r5 := eq_true (show (i : Int) < 12 by omega)
            have r6 := eq_true hi12
            have HCI := Aside0.mk (indexByte_mem l 63)
            cases hq : l.contains 63 with
            | true =>
              have HQ := Aside0.mk hq
              have HSY : Aside0 (symb s i = -1) := ⟨by unfold symb; rw [HLL.out, hq]; rfl⟩
              clear hq
              go_wp2_with (first | (go_at_call 121; refine (contains1_calls _ _ _).mono ?_; rintro e w3 ⟨rfl, rfl⟩; rw [HXL.out, HCI.out, HQ.out]))
              go_roundg (12 - (i + 1))
              case measure => have := HG.out; omega
              case rel =>
                refine ⟨i + 1, by omega, by first | rfl | (simp; done), ⟨rfl⟩, ⟨?_⟩, ⟨HB5.out.setCell (by simp) _⟩, ⟨by have := HSZ.out; simpa using this⟩⟩
                have h1 := Kd.R_putn HK.out (i : Int) (-1)
                simp only [Int.toNat_natCast] at h1
                rw [wlist_set _ _ _ _ hi12, ← HSY.out, wlist_next _ _ hi12, HSY.out] at h1
                exact h1
            | false =>
              have HQ := Aside0.mk hq
              have HSY : Aside0 (symb s i = accu l 5) := ⟨by unfold symb; rw [HLL.out, hq]; rfl⟩
              clear hq
              go_wp2_with (first | (go_at_call 121; refine (contains1_calls _ _ _).mono ?_; rintro e w3 ⟨rfl, rfl⟩; rw [HXL.out, HCI.out, HQ.out]))
              go_roundg (12 - (i + 1))
              case measure => have := HG.out; omega
              case rel =>
                refine ⟨i + 1, by omega, by first | rfl | (simp; done), ⟨rfl⟩, ⟨?_⟩, HB5, HSZ⟩
                rw [← wlist_next _ _ hi12, HSY.out]
                exact HK.out
      · have t1 : decide ((i : Int) < 12) = false := decide_eq_false (by omega)
        obtain rfl : i = 12 := by omega
        rw [wlist_end] at HK
        clear hi hi12
        go_wp2
        go_ret2
        refine ⟨.slice (some ⟨w1.heap.size, 0, none⟩) 12 12, by rw [HE.out]; rfl, ?_, HB1.out.trans (HB5.out.mono HB1.out.size)⟩
        rw [HE.out]
        exact Kd.R_lower HK.out HB1.out.size
end Go.Proofs.YtcpmgkedmmiioaaGreatDoor.H
end

section
set_option linter.unusedVariables false
namespace Go.Proofs.YtcpmgkedmmiioaaGreatDoor.H
open Go.RowKit Go.Proofs.YtcpmgkedmmiioaaGreatDoorW.PrintWords Go.Proofs.YtcpmgkedmmiioaaGreatDoorW.PrintLast Go.Proofs.YtcpmgkedmmiioaaGreatDoorW.PrintMore Go.Proofs.YtcpmgkedmmiioaaGreatDoor.B Go.Proofs.YtcpmgkedmmiioaaGreatDoor.Gf
/-- a builder at block b, above base B, that holds the bytes l -/
def Buf (B b : Nat) (l : List UInt8) (w : World) : Prop := Lib.IsBuilder 189 5 B b (Lib.byteCells l) w
theorem Buf.below {B b : Nat} {l : List UInt8} {w w1 : World} (h : Buf B b l w) (hb : Below w.heap.size w w1) : Buf B b l w1 := by
  have key : ∀ p, Lib.BuilderAt 189 5 B b p (Lib.byteCells l) w → Lib.BuilderAt 189 5 B b p (Lib.byteCells l) w1 := by
    rintro p ⟨hB, v, hh, ho, hn⟩
    have hlt : b < w.heap.size := (Array.getElem?_eq_some_iff.1 hh).1
    exact ⟨hB, v, (hb.block b hlt).trans hh, pw_own_below ho hb, hn⟩
  rcases h with h | h
  · exact .inl (key _ h)
  · exact .inr (key _ h)
theorem strCells_eq (l : List UInt8) : Lib.strCells ⟨l.toArray⟩ = Lib.byteCells l := by unfold Lib.strCells Lib.byteCells; simp
theorem byteCells_append (l m : List UInt8) : Lib.byteCells (l ++ m) = Lib.byteCells l ++ Lib.byteCells m := by unfold Lib.byteCells; rw [List.map_append]
theorem buf_string_calls (B b : Nat) (l : List UInt8) (s : List UInt8) (w : World) (h : Buf B b l w) (hl : l.length + s.length ≤ 1000) (hBw : B ≤ w.heap.size) :
    Calls Tryz.prog 129 #[.pointer (some ⟨b, 0, none⟩), .string ⟨s.toArray⟩] w fun e w' => ∃ v, e = .returned v ∧ Buf B b (l ++ s) w' ∧ Below B w w' := by
  have hs : (⟨s.toArray⟩ : ByteArray).size = s.length := by simp [ByteArray.size]
  refine (Any.Builder_WriteString Tryz.lays166 Tryz.extra166 B b (Lib.byteCells l) ⟨s.toArray⟩ w h (by rw [Lib.byteCells_length, hs]; omega) hBw).mono ?_
  rintro e w1 ⟨rfl, h1, h2⟩
  refine ⟨_, rfl, .inr ?_, h2⟩
  rw [byteCells_append, ← strCells_eq s]
  exact h1
theorem buf_byte_calls (B b : Nat) (l : List UInt8) (x : UInt8) (w : World) (h : Buf B b l w) (hl : l.length ≤ 1000) (hBw : B ≤ w.heap.size) :
    Calls Tryz.prog 131 #[.pointer (some ⟨b, 0, none⟩), .int .u8 (x.toNat : Int)] w fun e w' => ∃ v, e = .returned v ∧ Buf B b (l ++ [x]) w' ∧ Below B w w' := by
  refine (Any.Builder_WriteByte Tryz.lays167 Tryz.extra167 B b (Lib.byteCells l) x.toNat w h (by rw [Lib.byteCells_length]; omega) hBw).mono ?_
  rintro e w1 ⟨rfl, h1, h2⟩
  refine ⟨_, rfl, .inr ?_, h2⟩
  rw [byteCells_append]
  exact h1
theorem buf_out_calls (B b : Nat) (l : List UInt8) (w : World) (h : Buf B b l w) (hBw : B ≤ w.heap.size) :
    Calls Tryz.prog 132 #[.pointer (some ⟨b, 0, none⟩)] w fun e w' => e = .returned (.string ⟨l.toArray⟩) ∧ Below B w w' := Any.Builder_String_any Tryz.lays169 Tryz.extra169 B b l w h hBw
theorem repeat7_calls (x : UInt8) (w : World) :
    Calls Tryz.prog 130 #[.string ⟨#[x]⟩, .int .i64 7] w fun e w' => e = .returned (.string ⟨[x, x, x, x, x, x, x].toArray⟩) ∧ Below w.heap.size w w' :=
  Any.strings_Repeat Tryz.lays105 Tryz.extra105 ⟨#[x]⟩ 7 w (by omega) (by simp [ByteArray.size])
/-- module i of a symbol -/
def modb (x : Int) (i : Nat) : UInt8 := UInt8.ofNat ((48 + Go.bits .and .i64 (x / 2 ^ (4 - i)) 1) % 256).toNat
theorem modb_toNat (x : Int) (i : Nat) : ((modb x i).toNat : Int) = (48 + Go.bits .and .i64 (x / 2 ^ (4 - i)) 1) % 256 := by
  unfold modb
  generalize 48 + Go.bits .and .i64 (x / 2 ^ (4 - i)) 1 = r
  have h0 : 0 ≤ r % 256 := Int.emod_nonneg _ (by decide)
  have h1 : r % 256 < 256 := Int.emod_lt_of_pos _ (by decide)
  simp only [UInt8.toNat_ofNat']
  omega
def mods (x : Int) : List UInt8 := [modb x 0, modb x 1, modb x 2, modb x 3, modb x 4]
theorem mods_take (x : Int) (i : Nat) (h : i < 5) : (mods x).take (i + 1) = (mods x).take i ++ [modb x i] := by
  rcases (show i = 0 ∨ i = 1 ∨ i = 2 ∨ i = 3 ∨ i = 4 by omega) with rfl | rfl | rfl | rfl | rfl <;> rfl
def ones : List UInt8 := [49, 49, 49, 49, 49, 49, 49]
def zeros : List UInt8 := [48, 48, 48, 48, 48, 48, 48]
/-- the modules of the first k symbols -/
def body (ws : List Int) : Nat → List UInt8
  | 0 => ones
  | k + 1 => body ws k ++ mods (ws.getD k 0)
theorem body_length (ws : List Int) (k : Nat) : (body ws k).length = 7 + 5 * k := by
  induction k with
  | zero => rfl
  | succ k ih => simp only [body, List.length_append, ih]; simp [mods]; omega
def stripl (ws : List Int) : List UInt8 := body ws ws.length ++ zeros
def drawr (a b c d : Int) : ByteArray × Int := if labelf a b c d = true then (⟨(stripl (encf (symf a b c d)).1).toArray⟩, 0) else (⟨#[]⟩, 2)
theorem encf_length (l : List Int) : (encf l).1.length ≤ l.length + 6 := by
  unfold encf
  split
  · rcases fillf_length (l ++ m6) (eps l.length 6) with h | h
    · rw [h]; simp
    · simp only [h]; simp [m6]
  · simp
set_option maxHeartbeats 4000000 in
set_option maxRecDepth 100000 in
theorem draw_calls (a b c d : Int) (w : World) :
    Calls Tryz.prog 60 #[.agg #[.int .i64 a, .int .i64 b, .int .i64 c, .int .i64 d]] w fun e w' => e = .returned (.tuple #[.string (drawr a b c d).1, .int .i64 (drawr a b c d).2]) ∧ Below w.heap.size w w' := by
  have HB0 : Aside0 (Below w.heap.size w (w.alloc (.cells #[.int .i64 a, .int .i64 b, .int .i64 c, .int .i64 d] 29))) := ⟨below_alloc (Below.refl _ _) _⟩
  cases hl : labelf a b c d with
  | false =>
    have HE : Aside0 (drawr a b c d = (⟨#[]⟩, 2)) := ⟨by unfold drawr; rw [hl]; rfl⟩
    have HL : Aside0 (¬ labelf a b c d = true) := ⟨by rw [hl]; simp⟩
    clear hl
    go_enter Tryz.func60, Tryz.ntmps60
    go_wp2_with (first | (go_at_call 127; refine (symbols_calls a b c d _).mono ?_; rintro e w1 ⟨hb, ⟨_, rfl⟩ | ⟨h1, _⟩⟩; rotate_left; exact absurd h1 HL.out; have HB1 := Aside0.mk hb; clear hb))
    go_ret2
    exact ⟨by rw [HE.out]; rfl, HB0.out.trans (HB1.out.mono HB0.out.size)⟩
  | true =>
    have HL := Aside0.mk hl
    obtain ⟨ws, hws⟩ : ∃ ws, (encf (symf a b c d)).1 = ws := ⟨_, rfl⟩
    have hwl : ws.length ≤ 12 := by rw [← hws]; exact encf_length (symf a b c d)
    have HWS := Aside0.mk hws
    have HE : Aside0 (drawr a b c d = (⟨(stripl ws).toArray⟩, 0)) := ⟨by unfold drawr; rw [hl, hws]; rfl⟩
    have hsl : (symf a b c d).length = 6 := rfl
    clear hl hws hsl
    go_enter Tryz.func60, Tryz.ntmps60
    go_wp2_with (first
      | (go_at_call 127; refine (symbols_calls a b c d _).mono ?_; rintro e w1 ⟨hb, ⟨h1, _⟩ | ⟨_, A1, rfl, hC⟩⟩; rw [HL.out] at h1; cases h1; have HB1 := Aside0.mk (HB0.out.trans (hb.mono HB0.out.size)); have HC1 := Aside0.mk hC; clear hb hC)
      | (go_at_call 128; refine (encode_calls A1 6 (symf a b c d) _ HC1.out (show 6 ≤ 6 from Nat.le_refl 6) (show 6 ≤ 60 by omega)).mono ?_; rintro e w2 ⟨v2, rfl, ho, hb⟩; rw [HWS.out] at ho; obtain ⟨A2, c2, rfl, hc2, hC⟩ := Kd.R_reads ho; have HB2 := Aside0.mk (HB1.out.trans (hb.mono HB1.out.size)); have HC2 := Aside0.mk hC; have HBF : Aside0 (Buf w2.heap.size w2.heap.size [] (w2.alloc (.cells #[.pointer none, .slice none 0 0] 189))) := ⟨Lib.fresh_isBuilder _ _ w2⟩; have HBG : Aside0 (Below w2.heap.size w2 (w2.alloc (.cells #[.pointer none, .slice none 0 0] 189))) := ⟨below_alloc (Below.refl _ _) _⟩; clear ho hb hC)
      | (go_at_call 130; refine (repeat7_calls 49 _).mono ?_; rintro e w3 ⟨rfl, hb⟩; have HBF3 := Aside0.mk (HBF.out.below hb); have HBG3 := Aside0.mk (HBG.out.trans (hb.mono HBG.out.size)); clear hb)
      | (go_at_call 129; refine (buf_string_calls w2.heap.size w2.heap.size [] ones _ HBF3.out (by decide) HBG3.out.size).mono ?_; rintro e w4 ⟨v4, rfl, hf, hb⟩; have HBF4 := Aside0.mk hf; have HBG4 := Aside0.mk (HBG3.out.trans hb); clear hf hb))
    go_loopg [29] ws.length (fun g v29 wx => ∃ k : Nat, k ≤ ws.length ∧ v29 = .int .i64 k ∧ Aside0 (g = ws.length - k) ∧ Aside0 (Buf w2.heap.size w2.heap.size (body ws k) wx) ∧ Aside0 (Below w2.heap.size w2 wx))
    case atStart => exact ⟨0, Nat.zero_le _, rfl, ⟨rfl⟩, HBF4, HBG4⟩
    case round =>
      clear HBF HBG HBF3 HBG3 HBF4 HBG4
      obtain ⟨k, hk, rfl, HG, HBF, HBG⟩ := hrel
      by_cases hkl : k < ws.length
      · have t1 : decide ((k : Int) < (ws.length : Int)) = true := decide_eq_true (by omega)
        obtain ⟨ad, e, hc1⟩ := Kd.at_int HC2.out (k : Int) (by omega) (by omega)
        cases e
        replace hc1 := (HBG.out.cell (World.block_lt_of_cell? _ _ hc1)).trans hc1
        simp only [Int.toNat_natCast] at hc1
        have p1 := eq_true (show (0 : Int) ≤ (k : Int) by omega)
        have q1 := eq_true (show (k : Int) < (ws.length : Int) by omega)
        have HRD : Aside0 (rd ws (k : Int) = ws.getD k 0) := ⟨by simp [rd]⟩
        obtain ⟨x, hx⟩ : ∃ x, rd ws (k : Int) = x := ⟨_, rfl⟩
        rw [hx] at hc1 HRD
        clear hx
        have HS0 : Aside0 (Buf w2.heap.size w2.heap.size (body ws k ++ (mods x).take 0) wr) := ⟨by rw [List.take_zero, List.append_nil]; exact HBF.out⟩
        have HBL := Aside0.mk (body_length ws k)
        go_wp2
        clear hc1
        go_loopg [33] 5 (fun g v33 wx => ∃ i : Nat, i ≤ 5 ∧ v33 = .int .i64 i ∧ Aside0 (g = 5 - i) ∧ Aside0 (Buf w2.heap.size w2.heap.size (body ws k ++ (mods x).take i) wx) ∧ Aside0 (Below w2.heap.size w2 wx))
        case atStart => exact ⟨0, Nat.zero_le _, rfl, ⟨rfl⟩, HS0, HBG⟩
        case round =>
          clear HBF HBG HS0
          obtain ⟨i, hi, rfl, HG2, HBF, HBG⟩ := hrel
          by_cases hi5 : i < 5
          · have t2 : decide ((i : Int) < 5) = true := decide_eq_true (by omega)
            have p2 := eq_true (show (0 : Int) ≤ 4 - (i : Int) by omega)
            have HMO := Aside0.mk (modb_toNat x i)
            go_wp2_with (first | (go_at_call 131; rw [← HMO.out]; refine (buf_byte_calls w2.heap.size w2.heap.size (body ws k ++ (mods x).take i) (modb x i) _ HBF.out (by rw [List.length_append, HBL.out, List.length_take]; omega) HBG.out.size).mono ?_; rintro e w4 ⟨v4, rfl, hf, hb⟩; have HBF4 := Aside0.mk hf; have HBG4 := Aside0.mk (HBG.out.trans hb); clear hf hb))
            go_roundg (5 - (i + 1))
            case measure => have := HG2.out; omega
            case rel =>
              refine ⟨i + 1, by omega, by first | rfl | (simp; done), ⟨rfl⟩, ⟨?_⟩, HBG4⟩
              rw [mods_take x i hi5, ← List.append_assoc]
              exact HBF4.out
          · have t2 : decide ((i : Int) < 5) = false := decide_eq_false (by omega)
            obtain rfl : i = 5 := by omega
            have HBF5 : Aside0 (Buf w2.heap.size w2.heap.size (body ws (k + 1)) wr) := ⟨by
              have := HBF.out
              simp only [body]
              rw [← HRD.out]; exact this⟩
            clear HBF
            go_wp2
            go_roundg (ws.length - (k + 1))
            case measure => have := HG.out; omega
            case rel => exact ⟨k + 1, by omega, by first | rfl | (simp; done), ⟨rfl⟩, HBF5, HBG⟩
      · have t1 : decide ((k : Int) < (ws.length : Int)) = false := decide_eq_false (by omega)
        obtain rfl : k = ws.length := by omega
        have HBL := Aside0.mk (body_length ws ws.length)
        go_wp2_with (first
          | (go_at_call 130; refine (repeat7_calls 48 _).mono ?_; rintro e w3 ⟨rfl, hb⟩; have HBF3 := Aside0.mk (HBF.out.below hb); have HBG3 := Aside0.mk (HBG.out.trans (hb.mono HBG.out.size)); clear hb)
          | (go_at_call 129; refine (buf_string_calls w2.heap.size w2.heap.size (body ws ws.length) zeros _ HBF3.out (by rw [HBL.out]; simp [zeros]; omega) HBG3.out.size).mono ?_; rintro e w4 ⟨v4, rfl, hf, hb⟩; have HBF4 := Aside0.mk hf; have HBG4 := Aside0.mk (HBG3.out.trans hb); clear hf hb)
          | (go_at_call 132; refine (buf_out_calls w2.heap.size w2.heap.size (body ws ws.length ++ zeros) _ HBF4.out HBG4.out.size).mono ?_; rintro e w5 ⟨rfl, hb⟩; have HBG5 := Aside0.mk (HBG4.out.trans hb); clear hb))
        go_ret2
        exact ⟨by rw [HE.out]; rfl, HB2.out.trans (HBG5.out.mono HB2.out.size)⟩
end Go.Proofs.YtcpmgkedmmiioaaGreatDoor.H
end

section
set_option linter.unusedVariables false
namespace Go.Proofs.YtcpmgkedmmiioaaGreatDoor.H
open Go.RowKit Go.Proofs.YtcpmgkedmmiioaaGreatDoorW.PrintWords Go.Proofs.YtcpmgkedmmiioaaGreatDoorW.PrintLast Go.Proofs.YtcpmgkedmmiioaaGreatDoorW.PrintMore Go.Proofs.YtcpmgkedmmiioaaGreatDoor.B Go.Proofs.YtcpmgkedmmiioaaGreatDoor.Gf
/-- module at i turned to b -/
def putb (s : ByteArray) (i : Nat) (b : UInt8) : ByteArray := (s.extract 0 i ++ ⟨#[b]⟩) ++ s.extract (i + 1) s.size
def newb (s : ByteArray) (i : Nat) (how : Int) : UInt8 := if how = 1 then 63 else if s.data.toList.getD i 0 = 48 then 49 else 48
def changef (s : ByteArray) (at_ how : Int) : ByteArray := if 0 ≤ at_ ∧ at_ < s.size then putb s at_.toNat (newb s at_.toNat how) else s
set_option maxHeartbeats 4000000 in
set_option maxRecDepth 100000 in
theorem change_calls (s : ByteArray) (at_ how : Int) (w : World) (hs : s.size ≤ 1000000) :
    Calls Tryz.prog 118 #[.string s, .int .i64 at_, .int .i64 how] w fun e w' => e = .returned (.string (changef s at_ how)) ∧ Drawn0 w w' := by
  by_cases h0 : at_ < 0
  · have t1 : decide (at_ < 0) = true := decide_eq_true h0
    have HE : Aside0 (changef s at_ how = s) := ⟨by unfold changef; rw [if_neg (by omega)]⟩
    go_enter Tryz.func118, Tryz.ntmps118
    go_wp2
    go_ret
    exact ⟨by rw [HE.out]; rfl, Drawn0.refl _⟩
  · have t1 : decide (at_ < 0) = false := decide_eq_false h0
    by_cases h1 : at_ < s.size
    · have t2 : decide ((s.size : Int) ≤ at_) = false := decide_eq_false (by omega)
      obtain ⟨i, rfl⟩ : ∃ i : Nat, at_ = i := ⟨at_.toNat, by omega⟩
      have HE : Aside0 (changef s (i : Int) how = putb s i (newb s i how)) := ⟨by unfold changef; rw [if_pos ⟨by omega, h1⟩, Int.toNat_natCast]⟩
      have p1 := eq_true (show (0 : Int) ≤ (i : Int) by omega)
      have p2 := eq_true (show (i : Int) < (s.size : Int) by omega)
      have p3 := eq_true (show i < s.size by omega)
      have p4 := eq_true (show (i : Int) ≤ (s.size : Int) by omega)
      have p5 := eq_true (show (0 : Int) ≤ (i : Int) + 1 by omega)
      have p6 := eq_true (show (i : Int) + 1 ≤ (s.size : Int) by omega)
      obtain ⟨a, ha⟩ : ∃ a, s.extract 0 i = a := ⟨_, rfl⟩
      obtain ⟨z, hz⟩ : ∃ z, s.extract (i + 1) s.size = z := ⟨_, rfl⟩
      have HPB : Aside0 (∀ b, putb s i b = (a ++ ⟨#[b]⟩) ++ z) := ⟨fun b => by unfold putb; rw [ha, hz]⟩
      have hal : a.size ≤ s.size := by rw [← ha, ByteArray.size_extract]; omega
      have hzl : z.size ≤ s.size := by rw [← hz, ByteArray.size_extract]; omega
      have p7 := eq_false (show ¬ 9223372036854775807 < a.size + 1 by omega)
      have p8 := eq_false (show ¬ 9223372036854775807 ≤ a.size by omega)
      have p9 := eq_false (show ¬ 9223372036854775807 < a.size + 1 + z.size by omega)
      by_cases hh : how = 1
      · have t3 : (how == 1) = true := by simp [hh]
        have HN : Aside0 (newb s i how = 63) := ⟨by unfold newb; rw [if_pos hh]⟩
        go_enter Tryz.func118, Tryz.ntmps118
        go_wp2
        all_goals (
          refine wp_region_still_lit (by kernel_rfl) (by kernel_rfl) ?_
          repeat still_step
          rw [IntWalk.i64_in ((i : Int) + 1) (by omega)]
          repeat still_step
          refine wpStill_nil ?_
          go_wp2
          go_ret
          exact ⟨by rw [HE.out, HN.out, HPB.out]; rfl, (Drawn0.refl w).step 1⟩)
      · have t3 : (how == 1) = false := by simp [hh]
        have hgd : s.data.toList.getD i 0 = s[i] := by
          rw [List.getD_eq_getElem?_getD, Array.getElem?_toList, Array.getElem?_eq_getElem (show i < s.data.size by have : s.size = s.data.size := rfl; omega)]; rfl
        by_cases h48 : s[i] = 48
        · have HN : Aside0 (newb s i how = 49) := ⟨by unfold newb; rw [if_neg hh, if_pos (hgd.trans h48)]⟩
          have t4 : ((s[i].toNat : Int) == 48) = true := by rw [h48]; rfl
          go_enter Tryz.func118, Tryz.ntmps118
          go_wp2
          refine wp_region_still_lit (by kernel_rfl) (by kernel_rfl) ?_
          repeat still_step
          rw [IntWalk.i64_in ((i : Int) + 1) (by omega)]
          repeat still_step
          refine wpStill_nil ?_
          go_wp2
          go_ret
          exact ⟨by rw [HE.out, HN.out, HPB.out]; rfl, (Drawn0.refl w).step 1⟩
        · have HN : Aside0 (newb s i how = 48) := ⟨by unfold newb; rw [if_neg hh, if_neg (fun e => h48 (hgd.symm.trans e))]⟩
          have t4 : ((s[i].toNat : Int) == 48) = false := by
            rw [beq_eq_false_iff_ne]; intro e; apply h48; apply UInt8.toNat_inj.1; show s[i].toNat = 48; omega
          go_enter Tryz.func118, Tryz.ntmps118
          go_wp2
          refine wp_region_still_lit (by kernel_rfl) (by kernel_rfl) ?_
          repeat still_step
          rw [IntWalk.i64_in ((i : Int) + 1) (by omega)]
          repeat still_step
          refine wpStill_nil ?_
          go_wp2
          go_ret
          exact ⟨by rw [HE.out, HN.out, HPB.out]; rfl, (Drawn0.refl w).step 1⟩
    · have t2 : decide ((s.size : Int) ≤ at_) = true := decide_eq_true (by omega)
      have HE : Aside0 (changef s at_ how = s) := ⟨by unfold changef; rw [if_neg (by omega)]⟩
      go_enter Tryz.func118, Tryz.ntmps118
      go_wp2
      go_ret
      exact ⟨by rw [HE.out]; rfl, Drawn0.refl _⟩
end Go.Proofs.YtcpmgkedmmiioaaGreatDoor.H
end

section
set_option linter.unusedVariables false
namespace Go.Proofs.YtcpmgkedmmiioaaGreatDoor.P
open Go.RowKit Go.Proofs.YtcpmgkedmmiioaaGreatDoorW.PrintWords Go.Proofs.YtcpmgkedmmiioaaGreatDoorW.PrintLast Go.Proofs.YtcpmgkedmmiioaaGreatDoorW.PrintMore
def rscode_Decode.f (l0 : List Int) : Option (List Int × Int × Int) := if l0.length ≤ 60 then some (H.decf l0) else none
theorem rscode_Decode.calls (A0 : Option Addr) (c0 : Nat) (l0 : List Int) (r1 : List Int) (r2 : Int) (r3 : Int) (w : World) (hr0 : Kd.C (Kd.int .i64) w A0 l0.length l0) (hc0 : l0.length ≤ c0) (h : rscode_Decode.f l0 = some (r1, r2, r3)) :
    Calls Tryz.prog 57 #[.slice A0 l0.length c0] w fun e w' => ∃ v0_ : Value, e = .returned (.tuple #[v0_, .int .i64 r2, .int .i64 r3]) ∧ Kd.R (Kd.int .i64) 3 w' w.heap.size (fun _ => True) v0_ r1 ∧ Below w.heap.size w w' := by
  unfold rscode_Decode.f at h
  split at h
  · next hl =>
    have e := Option.some.inj h
    have := H.decode_calls A0 c0 l0 w hr0 hc0 hl
    rw [e] at this
    exact this
  · cases h
def strip_Word.f (a0 : ByteArray) : Option (List Int × Int) := if a0.size ≤ 4611686018427387904 then some (H.wordr a0) else none
theorem strip_Word.calls (a0 : ByteArray) (r1 : List Int) (r2 : Int) (w : World) (h : strip_Word.f a0 = some (r1, r2)) :
    Calls Tryz.prog 56 #[.string a0] w fun e w' => ∃ v0_ : Value, e = .returned (.tuple #[v0_, .int .i64 r2]) ∧ Kd.R (Kd.int .i64) 3 w' w.heap.size (fun _ => True) v0_ r1 ∧ Below w.heap.size w w' := by
  unfold strip_Word.f at h
  split at h
  · next hl =>
    have e := Option.some.inj h
    have := H.stripword_calls a0 w (by omega)
    rw [e] at this
    exact this
  · cases h
def strip_Flip.f (a0 : ByteArray) : Option (ByteArray) := if a0.size ≤ 4611686018427387904 then some ⟨a0.data.toList.reverse.toArray⟩ else none
theorem strip_Flip.calls (a0 : ByteArray) (r : ByteArray) (w : World) (h : strip_Flip.f a0 = some r) :
    Calls Tryz.prog 16 #[.string a0] w fun e w' => e = .returned (.string r) ∧ Below w.heap.size w w' := by
  unfold strip_Flip.f at h
  split at h
  · next hl =>
    have e := Option.some.inj h
    have := H.flip_calls a0 w hl
    rw [e] at this
    exact this
  · cases h
def strip_valid.f (a0 : ByteArray) : Option (Bool) := if a0.size ≤ 9223372036854775807 then some (H.isStrip a0) else none
theorem strip_valid.calls (a0 : ByteArray) (r : Bool) (w : World) (h : strip_valid.f a0 = some r) :
    Calls Tryz.prog 119 #[.string a0] w fun e w' => e = .returned (.bool r) ∧ Below w.heap.size w w' := by
  unfold strip_valid.f at h
  split at h
  · next hl =>
    have e := Option.some.inj h
    have := H.strip_valid_calls a0 w hl
    rw [e] at this
    exact this
  · cases h
def strip_begins.f (a0 : ByteArray) : Option (Bool) := if a0.size = 74 then some (H.beginsf a0) else none
theorem strip_begins.calls (a0 : ByteArray) (r : Bool) (w : World) (h : strip_begins.f a0 = some r) :
    Calls Tryz.prog 120 #[.string a0] w fun e w' => e = .returned (.bool r) ∧ Below w.heap.size w w' := by
  unfold strip_begins.f at h
  split at h
  · next hl =>
    have e := Option.some.inj h
    have := H.begins_calls a0 w hl
    rw [e] at this
    exact this.mono fun e w' ⟨h1, h2⟩ => ⟨h1, by rw [h2]; exact Below.refl _ _⟩
  · cases h
def strip_Valid.f (a0_0 : Int) (a0_1 : Int) (a0_2 : Int) (a0_3 : Int) : Option (Bool) := some (H.labelf a0_0 a0_1 a0_2 a0_3)
theorem strip_Valid.calls (a0_0 : Int) (a0_1 : Int) (a0_2 : Int) (a0_3 : Int) (r : Bool) (w : World) (h : strip_Valid.f a0_0 a0_1 a0_2 a0_3 = some r) :
    Calls Tryz.prog 58 #[.agg #[.int .i64 a0_0, .int .i64 a0_1, .int .i64 a0_2, .int .i64 a0_3]] w fun e w' => e = .returned (.bool r) ∧ Below w.heap.size w w' := by
  have e := Option.some.inj h
  have := H.valid_calls a0_0 a0_1 a0_2 a0_3 w
  rw [e] at this
  exact this
def strip_Draw.f (a0_0 : Int) (a0_1 : Int) (a0_2 : Int) (a0_3 : Int) : Option (ByteArray × Int) := some (H.drawr a0_0 a0_1 a0_2 a0_3)
theorem strip_Draw.calls (a0_0 : Int) (a0_1 : Int) (a0_2 : Int) (a0_3 : Int) (r1 : ByteArray) (r2 : Int) (w : World) (h : strip_Draw.f a0_0 a0_1 a0_2 a0_3 = some (r1, r2)) :
    Calls Tryz.prog 60 #[.agg #[.int .i64 a0_0, .int .i64 a0_1, .int .i64 a0_2, .int .i64 a0_3]] w fun e w' => e = .returned (.tuple #[.string r1, .int .i64 r2]) ∧ Below w.heap.size w w' := by
  have e := Option.some.inj h
  have := H.draw_calls a0_0 a0_1 a0_2 a0_3 w
  rw [e] at this
  exact this
def awardingbodymake_Change.f (a0 : ByteArray) (a1 : Int) (a2 : Int) : Option (ByteArray) := if a0.size ≤ 1000000 then some (H.changef a0 a1 a2) else none
theorem awardingbodymake_Change.calls (a0 : ByteArray) (a1 : Int) (a2 : Int) (r : ByteArray) (w : World) (h : awardingbodymake_Change.f a0 a1 a2 = some r) :
    Calls Tryz.prog 118 #[.string a0, .int .i64 a1, .int .i64 a2] w fun e w' => e = .returned (.string r) ∧ Drawn0 w w' := by
  unfold awardingbodymake_Change.f at h
  split at h
  · next hl =>
    have e := Option.some.inj h
    have := H.change_calls a0 a1 a2 w hl
    rw [e] at this
    exact this
  · cases h
end Go.Proofs.YtcpmgkedmmiioaaGreatDoor.P
end
