/- stripTurns_card, part 7: what the row's proof needs: words of the print, contracts of functions, the plain law. -/
section
namespace Go.Proofs.YtcpmgkedmmiioaaGreatDoor.Gf
abbrev F := BitVec 5
def expsL : List Nat := [1, 2, 4, 8, 16, 5, 10, 20, 13, 26, 17, 7, 14, 28, 29, 31, 27, 19, 3, 6, 12, 24, 21, 15, 30, 25, 23, 11, 22, 9, 18]
def logsL : List Nat := [0, 0, 1, 18, 2, 5, 19, 11, 3, 29, 6, 27, 20, 8, 12, 23, 4, 10, 30, 17, 7, 22, 28, 26, 21, 25, 9, 16, 13, 14, 24, 15]
def gpow (n : Nat) : Nat := expsL.getD (n % 31) 0
def glog (a : Nat) : Nat := logsL.getD a 0
def gmulN (a b : Nat) : Nat := if a = 0 ∨ b = 0 then 0 else gpow (glog a + glog b)
theorem gpow_glog : ∀ a : Fin 32, a.val ≠ 0 → gpow (glog a.val) = a.val := by decide +kernel
theorem glog_gpow : ∀ n : Fin 31, glog (gpow n.val) = n.val ∧ gpow n.val ≠ 0 ∧ gpow n.val < 32 := by decide +kernel
theorem glog_lt : ∀ a : Fin 32, glog a.val < 31 := by decide +kernel
theorem gpow_mod (n : Nat) : gpow (n % 31) = gpow n := by unfold gpow; rw [Nat.mod_mod]
theorem gpow_lt (n : Nat) : gpow n < 32 := by rw [← gpow_mod]; exact (glog_gpow ⟨n % 31, by omega⟩).2.2
theorem gpow_ne (n : Nat) : gpow n ≠ 0 := by rw [← gpow_mod]; exact (glog_gpow ⟨n % 31, by omega⟩).2.1
theorem glog_gpow' (n : Nat) : glog (gpow n) = n % 31 := by rw [← gpow_mod]; exact (glog_gpow ⟨n % 31, by omega⟩).1
theorem gpow_glog' {a : Nat} (h : a < 32) (h0 : a ≠ 0) : gpow (glog a) = a := gpow_glog ⟨a, h⟩ h0
theorem gpow_congr {m n : Nat} (h : m % 31 = n % 31) : gpow m = gpow n := by rw [← gpow_mod m, ← gpow_mod n, h]
theorem gmulN_lt (a b : Nat) : gmulN a b < 32 := by
  unfold gmulN; split
  · omega
  · exact gpow_lt _
theorem gmulN_comm (a b : Nat) : gmulN a b = gmulN b a := by
  unfold gmulN; rw [Nat.add_comm]; simp only [or_comm]
theorem gmulN_zero (a : Nat) : gmulN a 0 = 0 := by simp [gmulN]
theorem gmulN_one {a : Nat} (h : a < 32) : gmulN a 1 = a := by
  unfold gmulN
  by_cases h0 : a = 0
  · simp [h0]
  · rw [if_neg (by simp [h0])]; exact gpow_glog' h h0
theorem gmulN_ne {a b : Nat} (ha : a ≠ 0) (hb : b ≠ 0) : gmulN a b = gpow (glog a + glog b) := by
  unfold gmulN; rw [if_neg (by simp [ha, hb])]
theorem gmulN_assoc (a b c : Nat) : gmulN (gmulN a b) c = gmulN a (gmulN b c) := by
  by_cases ha : a = 0
  · simp [gmulN, ha]
  by_cases hb : b = 0
  · simp [gmulN, hb]
  by_cases hc : c = 0
  · simp [gmulN, hc]
  rw [gmulN_ne ha hb, gmulN_ne hb hc, gmulN_ne (gpow_ne _) hc, gmulN_ne ha (gpow_ne _), glog_gpow', glog_gpow']
  apply gpow_congr; omega
theorem gmulN_eq_zero {a b : Nat} : gmulN a b = 0 ↔ a = 0 ∨ b = 0 := by
  constructor
  · intro h
    by_cases ha : a = 0
    · exact .inl ha
    by_cases hb : b = 0
    · exact .inr hb
    rw [gmulN_ne ha hb] at h
    exact absurd h (gpow_ne _)
  · rintro (h | h) <;> simp [gmulN, h]
theorem distrib_dec : ∀ a b c : Fin 32, gmulN a.val (b.val ^^^ c.val) = gmulN a.val b.val ^^^ gmulN a.val c.val := by decide +kernel
def mul (a b : F) : F := BitVec.ofNat 5 (gmulN a.toNat b.toNat)
def pow (n : Nat) : F := BitVec.ofNat 5 (gpow n)
def inv (a : F) : F := if a = 0 then 0 else BitVec.ofNat 5 (gpow (31 - glog a.toNat))
theorem toNat_mul (a b : F) : (mul a b).toNat = gmulN a.toNat b.toNat := by
  unfold mul; rw [BitVec.toNat_ofNat]; exact Nat.mod_eq_of_lt (gmulN_lt _ _)
theorem toNat_pow (n : Nat) : (pow n).toNat = gpow n := by
  unfold pow; rw [BitVec.toNat_ofNat]; exact Nat.mod_eq_of_lt (gpow_lt _)
theorem mul_comm (a b : F) : mul a b = mul b a := by unfold mul; rw [gmulN_comm]
theorem mul_assoc (a b c : F) : mul (mul a b) c = mul a (mul b c) := by
  apply BitVec.eq_of_toNat_eq; simp only [toNat_mul]; exact gmulN_assoc _ _ _
theorem mul_left_comm (a b c : F) : mul a (mul b c) = mul b (mul a c) := by
  rw [← mul_assoc, mul_comm a b, mul_assoc]
theorem mul_one (a : F) : mul a 1 = a := by
  apply BitVec.eq_of_toNat_eq; rw [toNat_mul]; exact gmulN_one a.isLt
theorem one_mul (a : F) : mul 1 a = a := by rw [mul_comm, mul_one]
theorem mul_zero (a : F) : mul a 0 = 0 := by
  apply BitVec.eq_of_toNat_eq; rw [toNat_mul]; exact gmulN_zero _
theorem zero_mul (a : F) : mul 0 a = 0 := by rw [mul_comm, mul_zero]
theorem mul_eq_zero {a b : F} : mul a b = 0 ↔ a = 0 ∨ b = 0 := by
  have e : ∀ x : F, x = 0 ↔ x.toNat = 0 := fun x => ⟨fun h => by rw [h]; rfl, fun h => BitVec.eq_of_toNat_eq h⟩
  rw [e, e a, e b, toNat_mul]; exact gmulN_eq_zero
theorem mul_add (a b c : F) : mul a (b ^^^ c) = mul a b ^^^ mul a c := by
  apply BitVec.eq_of_toNat_eq
  rw [BitVec.toNat_xor, toNat_mul, toNat_mul, toNat_mul, BitVec.toNat_xor]
  exact distrib_dec ⟨a.toNat, a.isLt⟩ ⟨b.toNat, b.isLt⟩ ⟨c.toNat, c.isLt⟩
theorem add_mul (a b c : F) : mul (a ^^^ b) c = mul a c ^^^ mul b c := by
  rw [mul_comm, mul_add, mul_comm c a, mul_comm c b]
theorem pow_add (m n : Nat) : pow (m + n) = mul (pow m) (pow n) := by
  apply BitVec.eq_of_toNat_eq
  rw [toNat_mul, toNat_pow, toNat_pow, toNat_pow, gmulN_ne (gpow_ne _) (gpow_ne _), glog_gpow', glog_gpow']
  apply gpow_congr; omega
theorem pow_ne (n : Nat) : pow n ≠ 0 := by
  intro h; have : (pow n).toNat = 0 := by rw [h]; rfl
  rw [toNat_pow] at this; exact gpow_ne n this
theorem pow_inj {m n : Nat} (hm : m < 31) (hn : n < 31) (h : pow m = pow n) : m = n := by
  have : gpow m = gpow n := by rw [← toNat_pow, ← toNat_pow, h]
  have := congrArg glog this
  rw [glog_gpow', glog_gpow'] at this; omega
theorem pow_zero : pow 0 = 1 := by decide
theorem toNat_inv {a : F} (h : a ≠ 0) : (inv a).toNat = gpow (31 - glog a.toNat) := by
  unfold inv; rw [if_neg h, BitVec.toNat_ofNat]; exact Nat.mod_eq_of_lt (gpow_lt _)
theorem mul_inv {a : F} (h : a ≠ 0) : mul a (inv a) = 1 := by
  apply BitVec.eq_of_toNat_eq
  have ha : a.toNat ≠ 0 := fun e => h (BitVec.eq_of_toNat_eq e)
  rw [toNat_mul, toNat_inv h, gmulN_ne ha (gpow_ne _), glog_gpow']
  have hl := glog_lt ⟨a.toNat, a.isLt⟩
  simp only at hl
  have : gpow (glog a.toNat + (31 - glog a.toNat) % 31) = gpow 0 := by apply gpow_congr; omega
  rw [this]; decide
theorem inv_ne {a : F} (h : a ≠ 0) : inv a ≠ 0 := by
  intro e; have := mul_inv h; rw [e, mul_zero] at this; exact absurd this (by decide)
theorem add_self (a : F) : a ^^^ a = 0 := BitVec.xor_self
theorem add_comm (a b : F) : a ^^^ b = b ^^^ a := BitVec.xor_comm a b
theorem add_assoc (a b c : F) : a ^^^ b ^^^ c = a ^^^ (b ^^^ c) := BitVec.xor_assoc a b c
theorem add_zero (a : F) : a ^^^ 0 = a := BitVec.xor_zero
theorem zero_add (a : F) : 0 ^^^ a = a := BitVec.zero_xor
theorem add_left_comm (a b c : F) : a ^^^ (b ^^^ c) = b ^^^ (a ^^^ c) := by
  rw [← add_assoc, add_comm a b, add_assoc]
theorem add_eq_zero {a b : F} : a ^^^ b = 0 ↔ a = b := by
  constructor
  · intro h
    have : a ^^^ b ^^^ b = 0 ^^^ b := by rw [h]
    rw [add_assoc, add_self, add_zero, zero_add] at this; exact this
  · rintro rfl; exact add_self a
def sum : Nat → (Nat → F) → F
  | 0, _ => 0
  | n + 1, f => sum n f ^^^ f n
theorem sum_congr {n : Nat} {f g : Nat → F} (h : ∀ i, i < n → f i = g i) : sum n f = sum n g := by
  induction n with
  | zero => rfl
  | succ n ih => simp only [sum]; rw [ih (fun i hi => h i (by omega)), h n (by omega)]
theorem sum_zero {n : Nat} {f : Nat → F} (h : ∀ i, i < n → f i = 0) : sum n f = 0 := by
  induction n with
  | zero => rfl
  | succ n ih => simp only [sum]; rw [ih (fun i hi => h i (by omega)), h n (by omega), add_zero]
theorem sum_add (n : Nat) (f g : Nat → F) : sum n (fun i => f i ^^^ g i) = sum n f ^^^ sum n g := by
  induction n with
  | zero => simp only [sum]; rw [add_zero]
  | succ n ih => simp only [sum]; rw [ih, add_assoc, add_assoc, add_left_comm (sum n g)]
theorem mul_sum (n : Nat) (a : F) (f : Nat → F) : mul a (sum n f) = sum n (fun i => mul a (f i)) := by
  induction n with
  | zero => exact mul_zero a
  | succ n ih => simp only [sum]; rw [mul_add, ih]
theorem sum_mul (n : Nat) (a : F) (f : Nat → F) : mul (sum n f) a = sum n (fun i => mul (f i) a) := by
  rw [mul_comm, mul_sum]; exact sum_congr fun i _ => mul_comm _ _
theorem sum_comm (m n : Nat) (f : Nat → Nat → F) : sum m (fun i => sum n (fun j => f i j)) = sum n (fun j => sum m (fun i => f i j)) := by
  induction m with
  | zero => simp only [sum]; exact (sum_zero fun _ _ => rfl).symm
  | succ m ih => simp only [sum]; rw [ih, sum_add]
theorem sum_single {n k : Nat} (hk : k < n) {f : Nat → F} (h : ∀ i, i < n → i ≠ k → f i = 0) : sum n f = f k := by
  induction n with
  | zero => omega
  | succ n ih =>
    simp only [sum]
    by_cases e : k = n
    · subst e; rw [sum_zero fun i hi => h i (by omega) (by omega), zero_add]
    · rw [ih (by omega) (fun i hi => h i (by omega)), h n (by omega) (by omega), add_zero]
/-- the sum from below, the first apart -/
theorem sum_head (n : Nat) (f : Nat → F) : sum (n + 1) f = f 0 ^^^ sum n (fun i => f (i + 1)) := by
  induction n with
  | zero => simp only [sum]; rw [zero_add, add_zero]
  | succ n ih => rw [sum, ih, add_assoc]; rfl
end Go.Proofs.YtcpmgkedmmiioaaGreatDoor.Gf
end

section
namespace Go.Proofs.YtcpmgkedmmiioaaGreatDoor.Gf
def fpow (x : F) : Nat → F
  | 0 => 1
  | n + 1 => mul (fpow x n) x
theorem fpow_add (x : F) (m n : Nat) : fpow x (m + n) = mul (fpow x m) (fpow x n) := by
  induction n with
  | zero => rw [fpow, mul_one]; rfl
  | succ n ih => rw [← Nat.add_assoc, fpow, ih, fpow, mul_assoc]
theorem fpow_ne {x : F} (h : x ≠ 0) (n : Nat) : fpow x n ≠ 0 := by
  induction n with
  | zero => exact (by decide : (1 : F) ≠ 0)
  | succ n ih => rw [fpow]; intro e; rcases mul_eq_zero.1 e with e | e <;> contradiction
theorem fpow_pow (a n : Nat) : fpow (pow a) n = pow (a * n) := by
  induction n with
  | zero => exact pow_zero.symm
  | succ n ih => rw [fpow, ih, ← pow_add, Nat.mul_succ]
theorem vander (m : Nat) : ∀ (X x : Nat → F), (∀ i j, i < m → j < m → X i = X j → i = j) → (∀ i, i < m → X i ≠ 0) → ∀ a : Nat,
    (∀ j, j < m → sum m (fun k => mul (x k) (fpow (X k) (a + j))) = 0) → ∀ k, k < m → x k = 0 := by
  induction m with
  | zero => intro X x _ _ a _ k hk; omega
  | succ m ih =>
    intro X x hd hn a h k hk
    have low : ∀ k, k < m → x k = 0 := by
      have h2 := ih X (fun k => mul (x k) (X k ^^^ X m)) (fun i j hi hj => hd i j (by omega) (by omega)) (fun i hi => hn i (by omega)) a ?_
      · intro k hk
        rcases mul_eq_zero.1 (h2 k hk) with e | e
        · exact e
        · exact absurd (hd k m (by omega) (by omega) (add_eq_zero.1 e)) (by omega)
      · intro j hj
        have e1 := h j (by omega)
        have e2 := h (j + 1) (by omega)
        have : sum (m + 1) (fun k => mul (x k) (fpow (X k) (a + (j + 1)))) ^^^ mul (X m) (sum (m + 1) (fun k => mul (x k) (fpow (X k) (a + j)))) = 0 := by
          rw [e1, e2, mul_zero, add_zero]
        rw [mul_sum, ← sum_add] at this
        simp only [sum] at this
        have last : mul (x m) (fpow (X m) (a + (j + 1))) ^^^ mul (X m) (mul (x m) (fpow (X m) (a + j))) = 0 := by
          rw [add_eq_zero, ← Nat.add_assoc, fpow, mul_left_comm (X m), mul_comm (X m)]
        rw [last, add_zero] at this
        rw [← this]
        apply sum_congr
        intro k hk
        rw [← Nat.add_assoc, fpow, mul_assoc, add_mul, mul_add]
        congr 1
        · rw [mul_comm (X k)]
        · rw [mul_left_comm]
    by_cases e : k < m
    · exact low k e
    · obtain rfl : k = m := by omega
      have e0 := h 0 (by omega)
      simp only [sum] at e0
      rw [sum_zero (fun i hi => by rw [low i hi, zero_mul]), zero_add, Nat.add_zero] at e0
      rcases mul_eq_zero.1 e0 with e | e
      · exact e
      · exact absurd e (fpow_ne (hn k (by omega)) a)
/-- a polynomial's value: d 0 + d 1 X + .. -/
def pev (n : Nat) (d : Nat → F) (X : F) : F := sum n (fun k => mul (d k) (fpow X k))
theorem pev_succ (n : Nat) (d : Nat → F) (X : F) : pev (n + 1) d X = d 0 ^^^ mul X (pev n (fun k => d (k + 1)) X) := by
  unfold pev
  rw [sum_head, mul_sum]
  congr 1
  · rw [fpow, mul_one]
  · apply sum_congr; intro k _; rw [fpow, mul_comm X, mul_assoc]
def quot (n : Nat) (d : Nat → F) (a : F) (j : Nat) : F := pev (n - 1 - j) (fun k => d (j + 1 + k)) a
theorem pev_div (n : Nat) : ∀ (d : Nat → F) (a X : F), pev (n + 1) d X = pev (n + 1) d a ^^^ mul (X ^^^ a) (pev n (quot (n + 1) d a) X) := by
  induction n with
  | zero => intro d a X; simp only [pev, sum, fpow]; rw [mul_zero, add_zero]
  | succ n ih =>
    intro d a X
    have q0 : quot (n + 1 + 1) d a 0 = pev (n + 1) (fun k => d (k + 1)) a := by
      unfold quot; congr 1; funext k; congr 1; omega
    have qs : (fun k => quot (n + 1 + 1) d a (k + 1)) = quot (n + 1) (fun k => d (k + 1)) a := by
      funext k; unfold quot
      rw [show n + 1 + 1 - 1 - (k + 1) = n + 1 - 1 - k from by omega]; congr 1; funext i; congr 1; omega
    rw [pev_succ (n + 1) d X, pev_succ (n + 1) d a, ih (fun k => d (k + 1)) a X, pev_succ n (quot (n + 1 + 1) d a) X, q0, qs]
    generalize pev (n + 1) (fun k => d (k + 1)) a = P
    generalize pev n (quot (n + 1) (fun k => d (k + 1)) a) X = Q
    rw [mul_add, mul_add, add_mul X a P, add_assoc, mul_left_comm X]
    congr 1
    rw [← add_assoc, add_comm (mul a P), add_assoc (mul X P), add_self, add_zero]
theorem roots_zero (n : Nat) : ∀ (d X : Nat → F), (∀ i j, i < n → j < n → X i = X j → i = j) → (∀ i, i < n → pev n d (X i) = 0) → ∀ k, k < n → d k = 0 := by
  induction n with
  | zero => intro d X _ _ k hk; omega
  | succ n ih =>
    intro d X hd h
    have q : ∀ k, k < n → quot (n + 1) d (X n) k = 0 := by
      apply ih _ X (fun i j hi hj => hd i j (by omega) (by omega))
      intro i hi
      have e := pev_div n d (X n) (X i)
      rw [h i (by omega), h n (by omega), zero_add] at e
      rcases mul_eq_zero.1 e.symm with e | e
      · exact absurd (hd i n (by omega) (by omega) (add_eq_zero.1 e)) (by omega)
      · exact e
    -- all suffixes vanish at X n
    have suf : ∀ k, k ≤ n → pev (n + 1 - k) (fun i => d (k + i)) (X n) = 0 := by
      intro k hk
      by_cases k0 : k = 0
      · subst k0; have := h n (by omega); simpa using this
      · have := q (k - 1) (by omega)
        unfold quot at this
        rw [show n + 1 - 1 - (k - 1) = n + 1 - k from by omega, show (fun i => d (k - 1 + 1 + i)) = (fun i => d (k + i)) from by funext i; congr 1; omega] at this
        exact this
    intro k hk
    have e := suf k (by omega)
    rw [show n + 1 - k = (n - k) + 1 from by omega, pev_succ] at e
    by_cases kn : k = n
    · subst kn; simp only [Nat.sub_self, pev, sum] at e; rw [mul_zero, add_zero] at e; simpa using e
    · have e2 := suf (k + 1) (by omega)
      rw [show n + 1 - (k + 1) = n - k from by omega, show (fun i => d (k + 1 + i)) = (fun i => d (k + (i + 1))) from by funext i; congr 1; omega] at e2
      rw [e2, mul_zero, add_zero] at e; simpa using e
def pcoef : List F → Nat → F
  | [], k => if k = 0 then 1 else 0
  | a :: l, k => pcoef l k ^^^ (if k = 0 then 0 else mul (pcoef l (k - 1)) a)
def pval : List F → F → F
  | [], _ => 1
  | a :: l, X => mul (X ^^^ a) (pval l X)
theorem pcoef_zero (l : List F) : pcoef l 0 = 1 := by
  induction l with
  | nil => rfl
  | cons a l ih => simp only [pcoef, if_true]; rw [ih, add_zero]
theorem pcoef_out (l : List F) : ∀ k, l.length < k → pcoef l k = 0 := by
  induction l with
  | nil => intro k hk; simp only [pcoef]; rw [if_neg (by simp at hk; omega)]
  | cons a l ih => intro k hk; simp only [List.length_cons] at hk; simp only [pcoef]; rw [ih k (by omega), if_neg (by omega), ih (k - 1) (by omega), zero_mul, add_zero]
theorem pval_eq (l : List F) (X : F) : sum (l.length + 1) (fun k => mul (pcoef l k) (fpow X (l.length - k))) = pval l X := by
  induction l with
  | nil => simp only [List.length_nil, sum, pcoef, pval, if_true]; rw [fpow, mul_one, zero_add]
  | cons a l ih =>
    simp only [List.length_cons, pval]
    rw [← ih]
    have : ∀ k, k < l.length + 1 + 1 → mul (pcoef (a :: l) k) (fpow X (l.length + 1 - k)) = mul (pcoef l k) (fpow X (l.length + 1 - k)) ^^^ mul (if k = 0 then 0 else mul (pcoef l (k - 1)) a) (fpow X (l.length + 1 - k)) := by
      intro k _; simp only [pcoef]; rw [add_mul]
    rw [sum_congr this, sum_add, add_mul]
    congr 1
    · simp only [sum]
      rw [pcoef_out l (l.length + 1) (by omega), zero_mul, add_zero, mul_add]
      congr 1
      · rw [mul_sum]; apply sum_congr; intro k hk
        rw [show l.length + 1 - k = (l.length - k) + 1 from by omega, fpow, mul_left_comm X, mul_comm X]
      · rw [Nat.sub_self, show l.length + 1 - l.length = 0 + 1 from by omega, show fpow X (0 + 1) = mul 1 X from rfl, show fpow X 0 = 1 from rfl, one_mul, mul_one, mul_comm]
    · rw [sum_head]
      simp only [if_true]
      rw [zero_mul, zero_add, mul_sum]
      apply sum_congr; intro k hk
      rw [if_neg (by omega), show l.length + 1 - (k + 1) = l.length - k from by omega, Nat.add_sub_cancel, mul_comm (pcoef l k) a, mul_assoc]
theorem pval_zero {l : List F} {X : F} : pval l X = 0 ↔ X ∈ l := by
  induction l with
  | nil => simp only [pval, List.not_mem_nil, iff_false]; decide
  | cons a l ih => simp only [pval, List.mem_cons]; rw [mul_eq_zero, ih, add_eq_zero]
/-- what is 0: row i of the matrix at x, the right side's column taken too -/
def lin (n : Nat) (m : Nat → Nat → F) (x : Nat → F) (i : Nat) : F := sum (n + 1) (fun k => mul (m i k) (x k))
def Zero (R n : Nat) (m : Nat → Nat → F) (x : Nat → F) : Prop := ∀ i, i < R → lin n m x i = 0
def swapR (m : Nat → Nat → F) (a b : Nat) : Nat → Nat → F := fun i => if i = a then m b else if i = b then m a else m i
def clearC (m : Nat → Nat → F) (c : Nat) : Nat → Nat → F :=
  fun i k => if i = c then mul (m c k) (inv (m c c)) else m i k ^^^ mul (m i c) (mul (m c k) (inv (m c c)))
theorem zero_swap {R n : Nat} {m : Nat → Nat → F} {x : Nat → F} {a b : Nat} (ha : a < R) (hb : b < R) : Zero R n (swapR m a b) x ↔ Zero R n m x := by
  have L : ∀ i, lin n (swapR m a b) x i = lin n m x (if i = a then b else if i = b then a else i) := by
    intro i; unfold lin swapR
    apply sum_congr; intro k _
    by_cases h1 : i = a
    · rw [if_pos h1, if_pos h1]
    · rw [if_neg h1, if_neg h1]
      by_cases h2 : i = b
      · rw [if_pos h2, if_pos h2]
      · rw [if_neg h2, if_neg h2]
  constructor
  · intro h i hi
    have := h (if i = a then b else if i = b then a else i) (by split <;> (try split) <;> omega)
    rw [L] at this
    have e : (if (if i = a then b else if i = b then a else i) = a then b else if (if i = a then b else if i = b then a else i) = b then a else (if i = a then b else if i = b then a else i)) = i := by
      by_cases h1 : i = a
      · simp only [h1, if_true]; by_cases h2 : b = a <;> simp [h2]
      · by_cases h2 : i = b
        · simp [h2]
        · simp [h1, h2]
    rw [e] at this; exact this
  · intro h i hi; rw [L]; exact h _ (by split <;> (try split) <;> omega)
theorem zero_clear {R n : Nat} {m : Nat → Nat → F} {x : Nat → F} {c : Nat} (hc : c < R) (hp : m c c ≠ 0) : Zero R n (clearC m c) x ↔ Zero R n m x := by
  have Lc : lin n (clearC m c) x c = mul (inv (m c c)) (lin n m x c) := by
    unfold lin clearC
    rw [mul_sum]; apply sum_congr; intro k _
    rw [if_pos rfl, mul_comm (m c k), mul_assoc]
  have Li : ∀ i, i ≠ c → lin n (clearC m c) x i = lin n m x i ^^^ mul (mul (m i c) (inv (m c c))) (lin n m x c) := by
    intro i hi; unfold lin clearC
    rw [mul_sum, ← sum_add]; apply sum_congr; intro k _
    rw [if_neg hi, add_mul]; congr 1
    rw [mul_assoc, mul_assoc, mul_assoc, mul_left_comm (inv (m c c))]
  constructor
  · intro h
    have hcz : lin n m x c = 0 := by
      have := h c hc; rw [Lc] at this
      rcases mul_eq_zero.1 this with e | e
      · exact absurd e (inv_ne hp)
      · exact e
    intro i hi
    by_cases e : i = c
    · subst e; exact hcz
    · have := h i hi; rw [Li i e, hcz, mul_zero, add_zero] at this; exact this
  · intro h i hi
    by_cases e : i = c
    · subst e; rw [Lc, h i hi, mul_zero]
    · rw [Li i e, h i hi, h c hc, mul_zero, add_zero]
/-- the first c columns are those of the unit matrix -/
def Units (R c : Nat) (m : Nat → Nat → F) : Prop := ∀ j, j < c → ∀ i, i < R → m i j = if i = j then 1 else 0
theorem units_step {R c p : Nat} {m : Nat → Nat → F} (hu : Units R c m) (hcp : c ≤ p) (hp : p < R) (hne : m p c ≠ 0) : Units R (c + 1) (clearC (swapR m c p) c) := by
  have s1 : ∀ k, swapR m c p c k = m p k := by intro k; simp [swapR]
  have s2 : ∀ j, j < c → ∀ i, i < R → swapR m c p i j = if i = j then 1 else 0 := by
    intro j hj i hi
    unfold swapR
    by_cases h1 : i = c
    · rw [if_pos h1, hu j hj p hp, if_neg (by omega), if_neg (by omega)]
    · rw [if_neg h1]
      by_cases h2 : i = p
      · rw [if_pos h2, hu j hj c (by omega), if_neg (by omega), if_neg (by omega)]
      · rw [if_neg h2, hu j hj i hi]
  intro j hj i hi
  unfold clearC
  by_cases hjc : j = c
  · subst hjc
    by_cases h : i = j
    · rw [if_pos h, if_pos h, mul_inv (by rw [s1]; exact hne)]
    · rw [if_neg h, if_neg h, mul_inv (by rw [s1]; exact hne), mul_one, add_self]
  · have z : swapR m c p c j = 0 := by rw [s2 j (by omega) c (by omega), if_neg (by omega)]
    rw [z, zero_mul, mul_zero, add_zero]
    by_cases h : i = c
    · rw [if_pos h, if_neg (by omega)]
    · rw [if_neg h]; exact s2 j (by omega) i hi
/-- the first row from c on (of R) that has no 0 in column c -/
def pivot (R : Nat) (m : Nat → Nat → F) (c : Nat) : Nat → Option Nat
  | 0 => none
  | d + 1 => if m (R - (d + 1)) c ≠ 0 then some (R - (d + 1)) else pivot R m c d
theorem pivot_some {R c p : Nat} {m : Nat → Nat → F} (d : Nat) (hd : d ≤ R) (h : pivot R m c d = some p) : R - d ≤ p ∧ p < R ∧ m p c ≠ 0 := by
  induction d with
  | zero => simp [pivot] at h
  | succ d ih =>
    unfold pivot at h
    by_cases e : m (R - (d + 1)) c ≠ 0
    · rw [if_pos e] at h; injection h with h; subst h; exact ⟨by omega, by omega, e⟩
    · rw [if_neg e] at h; have := ih (by omega) h; exact ⟨by omega, this.2⟩
theorem pivot_none {R c : Nat} {m : Nat → Nat → F} (d : Nat) (hd : d ≤ R) (h : pivot R m c d = none) : ∀ i, R - d ≤ i → i < R → m i c = 0 := by
  induction d with
  | zero => intro i h1 h2; omega
  | succ d ih =>
    unfold pivot at h
    by_cases e : m (R - (d + 1)) c ≠ 0
    · rw [if_pos e] at h; simp at h
    · rw [if_neg e] at h
      intro i h1 h2
      by_cases e2 : i = R - (d + 1)
      · subst e2; exact Decidable.not_not.1 e
      · exact ih (by omega) h i (by omega) h2
theorem pivot_none_of {R c : Nat} {m : Nat → Nat → F} (d : Nat) (hd : d ≤ R) (h : ∀ i, R - d ≤ i → i < R → m i c = 0) : pivot R m c d = none := by
  cases e : pivot R m c d with
  | none => rfl
  | some p => obtain ⟨h1, h2, h3⟩ := pivot_some d hd e; exact absurd (h p h1 h2) h3
theorem pivot_some_of {R c p : Nat} {m : Nat → Nat → F} (d : Nat) (hd : d ≤ R) (h1 : R - d ≤ p) (h2 : p < R) (h3 : m p c ≠ 0) (h : ∀ i, R - d ≤ i → i < p → m i c = 0) : pivot R m c d = some p := by
  induction d with
  | zero => omega
  | succ d ih =>
    unfold pivot
    by_cases e : R - (d + 1) = p
    · rw [e, if_pos h3]
    · rw [if_neg (by rw [h _ (Nat.le_refl _) (by omega)]; simp)]
      exact ih (by omega) (by omega) fun i h4 h5 => h i (by omega) h5
def elim (R : Nat) (m : Nat → Nat → F) : Nat → Option (Nat → Nat → F)
  | 0 => some m
  | c + 1 => (elim R m c).bind fun m1 => (pivot R m1 c (R - c)).map fun p => clearC (swapR m1 c p) c
theorem elim_some {R n : Nat} {m : Nat → Nat → F} : ∀ (c : Nat) (m1 : Nat → Nat → F), elim R m c = some m1 → c ≤ R ∧ Units R c m1 ∧ ∀ x, Zero R n m1 x ↔ Zero R n m x := by
  intro c
  induction c with
  | zero => intro m1 h; injection h with h; subst h; exact ⟨Nat.zero_le _, fun j hj => by omega, fun x => Iff.rfl⟩
  | succ c ih =>
    intro m1 h
    unfold elim at h
    obtain ⟨m2, h2, h⟩ := Option.bind_eq_some_iff.1 h
    obtain ⟨p, hp, rfl⟩ := Option.map_eq_some_iff.1 h
    obtain ⟨hcR, hu, hz⟩ := ih m2 h2
    obtain ⟨h1, hpR, hne⟩ := pivot_some (R - c) (by omega) hp
    refine ⟨by omega, units_step hu (by omega) hpR hne, fun x => ?_⟩
    rw [zero_clear (by omega) (by simpa [swapR] using hne), zero_swap (by omega) hpR]
    exact hz x
theorem elim_full {R n : Nat} {m : Nat → Nat → F} (hk : ∀ x, Zero R n m x → x n = 0 → ∀ k, k < n → x k = 0) : ∀ c, c ≤ n → ∃ m1, elim R m c = some m1 := by
  intro c
  induction c with
  | zero => exact fun _ => ⟨m, rfl⟩
  | succ c ih =>
    intro hc
    obtain ⟨m1, h1⟩ := ih (by omega)
    obtain ⟨hcR, hu, hz⟩ := elim_some (n := n) c m1 h1
    unfold elim
    rw [h1]
    simp only [Option.bind_some]
    cases hp : pivot R m1 c (R - c) with
    | some p => exact ⟨_, rfl⟩
    | none =>
      exfalso
      have z := pivot_none (R - c) (by omega) hp
      -- a vector of the kernel
      have := hk (fun k => if k = c then 1 else if k < c then m1 k c else 0) ?_ ?_ c (by omega)
      · simp at this
      · rw [← hz]
        intro i hi
        unfold lin
        by_cases ic : i < c
        · have : ∀ k, k < n + 1 → mul (m1 i k) (if k = c then 1 else if k < c then m1 k c else 0) = (if k = c then m1 i c else 0) ^^^ (if k = i then m1 i c else 0) := by
            intro k _
            by_cases e : k = c
            · subst e; rw [if_pos rfl, if_pos rfl, if_neg (by omega), mul_one, add_zero]
            · rw [if_neg e, if_neg e]
              by_cases e2 : k < c
              · rw [if_pos e2, hu k e2 i hi]
                by_cases e3 : k = i
                · subst e3; rw [if_pos rfl, if_pos rfl, one_mul, zero_add]
                · rw [if_neg (by omega), if_neg e3, zero_mul, add_zero]
              · rw [if_neg e2, if_neg (by omega), mul_zero, add_zero]
          rw [sum_congr this, sum_add, sum_single (k := c) (by omega) (fun j _ hj => if_neg hj), sum_single (k := i) (by omega) (fun j _ hj => if_neg hj), if_pos rfl, if_pos rfl, add_self]
        · apply sum_zero
          intro k _
          by_cases e : k = c
          · subst e; rw [z i (by omega) hi, zero_mul]
          · simp only []
            rw [if_neg e]
            by_cases e2 : k < c
            · rw [if_pos e2, hu k e2 i hi, if_neg (by omega), zero_mul]
            · rw [if_neg e2, mul_zero]
      · show (if n = c then (1 : F) else if n < c then m1 n c else 0) = 0
        rw [if_neg (by omega), if_neg (by omega)]
theorem elim_none {R : Nat} {m : Nat → Nat → F} {c : Nat} (h : elim R m c = none) : ∀ d, elim R m (c + d) = none
  | 0 => h
  | d + 1 => by show (elim R m (c + d)).bind _ = none; rw [elim_none h d]; rfl
/-- do the rows from n on have a 0 at the right? -/
def restZero (R n : Nat) (m : Nat → Nat → F) : Nat → Bool
  | 0 => true
  | d + 1 => decide (m (R - (d + 1)) n = 0) && restZero R n m d
theorem restZero_iff {R n : Nat} {m : Nat → Nat → F} (d : Nat) (hd : d ≤ R) : restZero R n m d = true ↔ ∀ i, R - d ≤ i → i < R → m i n = 0 := by
  induction d with
  | zero => simp only [restZero, true_iff]; intro i h1 h2; omega
  | succ d ih =>
    unfold restZero
    rw [Bool.and_eq_true, decide_eq_true_iff, ih (by omega)]
    constructor
    · rintro ⟨h1, h2⟩ i hi hi2
      by_cases e : i = R - (d + 1)
      · subst e; exact h1
      · exact h2 i (by omega) hi2
    · intro h; exact ⟨h _ (by omega) (by omega), fun i h1 h2 => h i (by omega) h2⟩
/-- the solution of the equations whose right sides stand in column n -/
def solve (R n : Nat) (m : Nat → Nat → F) : Option (Nat → F) :=
  (elim R m n).bind fun m1 => if restZero R n m1 (R - n) then some (fun i => m1 i n) else none
theorem solve_none {R n : Nat} {m m1 : Nat → Nat → F} {c : Nat} (hE : elim R m c = some m1) (hcn : c < n) (hcR : c ≤ R) (hz : ∀ i, c ≤ i → i < R → m1 i c = 0) : solve R n m = none := by
  have h1 : elim R m (c + 1) = none := by
    unfold elim; rw [hE]; simp only [Option.bind_some]; rw [pivot_none_of (R - c) (by omega) fun i h1 h2 => hz i (by omega) h2]; rfl
  have := elim_none h1 (n - (c + 1))
  rw [show c + 1 + (n - (c + 1)) = n from by omega] at this
  unfold solve; rw [this]; rfl
theorem elim_next {R : Nat} {m m1 : Nat → Nat → F} {c p : Nat} (hE : elim R m c = some m1) (hcp : c ≤ p) (hp : p < R) (hne : m1 p c ≠ 0) (hz : ∀ i, c ≤ i → i < p → m1 i c = 0) : elim R m (c + 1) = some (clearC (swapR m1 c p) c) := by
  unfold elim; rw [hE]; simp only [Option.bind_some]; rw [pivot_some_of (R - c) (by omega) (by omega) hp hne fun i h1 h2 => hz i (by omega) h2]; rfl
theorem solve_some {R n : Nat} {m m1 : Nat → Nat → F} (hE : elim R m n = some m1) (hn : n ≤ R) (hz : ∀ i, n ≤ i → i < R → m1 i n = 0) : solve R n m = some (fun i => m1 i n) := by
  unfold solve; rw [hE]; simp only [Option.bind_some]; rw [if_pos ((restZero_iff (R - n) (by omega)).2 fun i h1 h2 => hz i (by omega) h2)]
theorem solve_rest {R n i : Nat} {m m1 : Nat → Nat → F} (hE : elim R m n = some m1) (hi : n ≤ i) (hiR : i < R) (hz : m1 i n ≠ 0) : solve R n m = none := by
  unfold solve; rw [hE]; simp only [Option.bind_some]
  rw [if_neg]
  intro h
  exact hz ((restZero_iff (R - n) (by omega)).1 h i (by omega) hiR)
theorem units_zero {R n : Nat} {m : Nat → Nat → F} {x : Nat → F} (hn : n ≤ R) (hu : Units R n m) (hx : x n = 1) :
    Zero R n m x ↔ (∀ i, i < n → x i = m i n) ∧ ∀ i, n ≤ i → i < R → m i n = 0 := by
  have L : ∀ i, i < R → lin n m x i = (if i < n then x i else 0) ^^^ m i n := by
    intro i hi
    unfold lin; rw [sum, hx, mul_one]; congr 1
    by_cases h : i < n
    · rw [if_pos h, sum_single h (fun j hj hne => by rw [hu j hj i hi, if_neg (by omega), zero_mul]), hu i h i hi, if_pos rfl, one_mul]
    · rw [if_neg h]; exact sum_zero fun j hj => by rw [hu j hj i hi, if_neg (by omega), zero_mul]
  constructor
  · intro h
    refine ⟨fun i hi => ?_, fun i h1 h2 => ?_⟩
    · have := h i (by omega); rw [L i (by omega), if_pos hi, add_eq_zero] at this; exact this
    · have := h i h2; rw [L i h2, if_neg (by omega), zero_add] at this; exact this
  · rintro ⟨h1, h2⟩ i hi
    rw [L i hi]
    by_cases h : i < n
    · rw [if_pos h, h1 i h, add_self]
    · rw [if_neg h, zero_add, h2 i (by omega) hi]
theorem solve_sound {R n : Nat} {m : Nat → Nat → F} {y : Nat → F} (h : solve R n m = some y) : Zero R n m (fun k => if k = n then 1 else y k) := by
  unfold solve at h
  obtain ⟨m1, h1, h⟩ := Option.bind_eq_some_iff.1 h
  obtain ⟨hn, hu, hz⟩ := elim_some (n := n) n m1 h1
  by_cases e : restZero R n m1 (R - n) = true
  · rw [if_pos e] at h
    injection h with h; subst h
    rw [← hz, units_zero hn hu (by simp)]
    refine ⟨fun i hi => by simp only; rw [if_neg (by omega)], ?_⟩
    have := (restZero_iff (R - n) (by omega)).1 e
    intro i h1 h2; exact this i (by omega) h2
  · rw [if_neg e] at h; simp at h
theorem solve_complete {R n : Nat} {m : Nat → Nat → F} (hk : ∀ x, Zero R n m x → x n = 0 → ∀ k, k < n → x k = 0) {x : Nat → F} (hx : Zero R n m x) (h1 : x n = 1) :
    ∃ y, solve R n m = some y ∧ ∀ k, k < n → y k = x k := by
  obtain ⟨m1, hm⟩ := elim_full hk n (Nat.le_refl n)
  obtain ⟨hn, hu, hz⟩ := elim_some (n := n) n m1 hm
  have := (units_zero hn hu h1).1 ((hz x).2 hx)
  unfold solve
  rw [hm]
  simp only [Option.bind_some]
  rw [if_pos ((restZero_iff (R - n) (by omega)).2 fun i h1 h2 => this.2 i (by omega) h2)]
  exact ⟨_, rfl, fun k hk => (this.1 k hk).symm⟩
end Go.Proofs.YtcpmgkedmmiioaaGreatDoor.Gf
end

section
namespace Go.Proofs.YtcpmgkedmmiioaaGreatDoor.Gf
instance : Std.Associative (α := F) mul := ⟨mul_assoc⟩
instance : Std.Commutative (α := F) mul := ⟨mul_comm⟩
def lsum : List Nat → (Nat → F) → F
  | [], _ => 0
  | a :: l, f => f a ^^^ lsum l f
theorem lsum_congr {l : List Nat} {f g : Nat → F} (h : ∀ a, a ∈ l → f a = g a) : lsum l f = lsum l g := by
  induction l with
  | nil => rfl
  | cons a l ih => simp only [lsum]; rw [h a (by simp), ih fun b hb => h b (by simp [hb])]
theorem lsum_idx (l : List Nat) (f : Nat → F) : lsum l f = sum l.length (fun k => f (l.getD k 0)) := by
  induction l with
  | nil => rfl
  | cons a l ih => simp only [lsum, List.length_cons]; rw [sum_head, ih]; rfl
theorem sum_places {N : Nat} : ∀ (l : List Nat) (f : Nat → F), l.Nodup → (∀ a, a ∈ l → a < N) → (∀ i, i < N → i ∉ l → f i = 0) → sum N f = lsum l f := by
  intro l
  induction l with
  | nil => intro f _ _ h; exact sum_zero fun i hi => h i hi (by simp)
  | cons a l ih =>
    intro f hd hN h
    have hd' := List.nodup_cons.1 hd
    have e : sum N f = sum N (fun i => (if i = a then f a else 0) ^^^ (if i = a then 0 else f i)) := sum_congr fun i _ => by
      by_cases hi : i = a
      · rw [if_pos hi, if_pos hi, hi, add_zero]
      · rw [if_neg hi, if_neg hi, zero_add]
    rw [e, sum_add, sum_single (k := a) (hN a (by simp)) (fun j _ hj => if_neg hj), if_pos rfl, ih _ hd'.2 (fun b hb => hN b (by simp [hb]))]
    · simp only [lsum]; congr 1
      apply lsum_congr; intro b hb
      rw [if_neg (by rintro rfl; exact hd'.1 hb)]
    · intro i hi hil
      by_cases e : i = a
      · rw [if_pos e]
      · rw [if_neg e]; exact h i hi (by simp [e, hil])
theorem length_le_of_subset : ∀ {l m : List Nat}, l.Nodup → (∀ a, a ∈ l → a ∈ m) → l.length ≤ m.length := by
  intro l
  induction l with
  | nil => intro m _ _; exact Nat.zero_le _
  | cons a l ih =>
    intro m hd h
    have hd' := List.nodup_cons.1 hd
    have ha := h a (by simp)
    have := ih (m := m.erase a) hd'.2 (fun b hb => (List.mem_erase_of_ne (by rintro rfl; exact hd'.1 hb)).2 (h b (by simp [hb])))
    rw [List.length_erase_of_mem ha] at this
    have : 0 < m.length := List.length_pos_of_mem ha
    simp only [List.length_cons]; omega
theorem getD_inj {l : List Nat} (hd : l.Nodup) {i j : Nat} (hi : i < l.length) (hj : j < l.length) (h : l.getD i 0 = l.getD j 0) : i = j := by
  rw [List.getD_eq_getElem?_getD, List.getD_eq_getElem?_getD, List.getElem?_eq_getElem hi, List.getElem?_eq_getElem hj] at h
  have := List.Nodup.idxOf_getElem hd i hi
  have h2 := List.Nodup.idxOf_getElem hd j hj
  simp only [Option.getD_some] at h
  rw [h] at this; omega
theorem getD_mem {l : List Nat} {i : Nat} (hi : i < l.length) : l.getD i 0 ∈ l := by
  rw [List.getD_eq_getElem?_getD, List.getElem?_eq_getElem hi]; exact List.getElem_mem hi
/-- the element of place i in a word of length N -/
def px (N i : Nat) : F := pow (N - 1 - i)
theorem px_ne (N i : Nat) : px N i ≠ 0 := pow_ne _
theorem px_inj {N i j : Nat} (hN : N ≤ 31) (hi : i < N) (hj : j < N) (h : px N i = px N j) : i = j := by
  have := pow_inj (by omega) (by omega) h; omega
def syn (N : Nat) (v : Nat → F) (j : Nat) : F := sum N (fun i => mul (v i) (fpow (px N i) (1 + j)))
def Code (N : Nat) (c : Nat → F) : Prop := ∀ j, j < 6 → syn N c j = 0
theorem syn_add (N : Nat) (v u : Nat → F) (j : Nat) : syn N (fun i => v i ^^^ u i) j = syn N v j ^^^ syn N u j := by
  unfold syn; rw [← sum_add]; exact sum_congr fun i _ => add_mul _ _ _
/-- places D with at most six elements carry no codeword but 0 -/
theorem vander_places {N : Nat} (hN : N ≤ 31) {D : List Nat} (hd : D.Nodup) (hDN : ∀ a, a ∈ D → a < N) (h6 : D.length ≤ 6) (x : Nat → F)
    (h : ∀ j, j < 6 → sum D.length (fun k => mul (x k) (fpow (px N (D.getD k 0)) (1 + j))) = 0) : ∀ k, k < D.length → x k = 0 :=
  vander D.length (fun k => px N (D.getD k 0)) x
    (fun i j hi hj e => getD_inj hd hi hj (px_inj hN (hDN _ (getD_mem hi)) (hDN _ (getD_mem hj)) e)) (fun i _ => px_ne _ _) 1 (fun j hj => h j (by omega))
theorem code_apart {N : Nat} (hN : N ≤ 31) {c d : Nat → F} (hc : Code N c) (hd : Code N d) {D : List Nat} (h6 : D.length ≤ 6) (h : ∀ i, i < N → i ∉ D → c i = d i) : ∀ i, i < N → c i = d i := by
  let E := (List.range N).filter fun i => c i ≠ d i
  have hE : E.Nodup := List.nodup_range.filter _
  have hmem : ∀ a, a ∈ E ↔ a < N ∧ c a ≠ d a := by intro a; simp [E]
  have hlen : E.length ≤ 6 := Nat.le_trans (length_le_of_subset hE fun a ha => Decidable.byContradiction fun hn => ((hmem a).1 ha).2 (h a ((hmem a).1 ha).1 hn)) h6
  have key := vander_places hN hE (fun a ha => ((hmem a).1 ha).1) hlen (fun k => c (E.getD k 0) ^^^ d (E.getD k 0)) (by
    intro j hj
    have s : syn N (fun i => c i ^^^ d i) j = 0 := by rw [syn_add, hc j hj, hd j hj, add_zero]
    unfold syn at s
    rw [sum_places E _ hE (fun a ha => ((hmem a).1 ha).1) (fun i hi hn => by
      have : c i = d i := Decidable.byContradiction fun hne => hn ((hmem i).2 ⟨hi, hne⟩)
      show mul (c i ^^^ d i) _ = 0
      rw [this, add_self, zero_mul]), lsum_idx] at s
    exact s)
  intro i hi
  refine Decidable.byContradiction fun hne => ?_
  have hm := (hmem i).2 ⟨hi, hne⟩
  obtain ⟨k, hk, e⟩ := List.getElem_of_mem hm
  have := key k hk
  rw [List.getD_eq_getElem?_getD, List.getElem?_eq_getElem hk] at this
  simp only [Option.getD_some, e] at this
  exact hne (add_eq_zero.1 this)
def fillM (N : Nat) (v : Nat → F) (places : List Nat) : Nat → Nat → F := fun j k => if k < places.length then fpow (px N (places.getD k 0)) (1 + j) else syn N v j
theorem lin_fill {N : Nat} {v : Nat → F} {P : List Nat} (x : Nat → F) (j : Nat) : lin P.length (fillM N v P) x j = sum P.length (fun k => mul (x k) (fpow (px N (P.getD k 0)) (1 + j))) ^^^ mul (syn N v j) (x P.length) := by
  unfold lin; rw [sum]; congr 1
  · apply sum_congr; intro k hk; unfold fillM; rw [if_pos hk, mul_comm]
  · unfold fillM; rw [if_neg (by omega)]
/-- the word with the changes y at the places -/
def changed (v : Nat → F) (P : List Nat) (y : Nat → F) (i : Nat) : F := if i ∈ P then v i ^^^ y (P.idxOf i) else v i
theorem syn_changed {N : Nat} {v : Nat → F} {P : List Nat} (hd : P.Nodup) (hN : ∀ a, a ∈ P → a < N) (y : Nat → F) (j : Nat) :
    syn N (changed v P y) j = syn N v j ^^^ sum P.length (fun k => mul (y k) (fpow (px N (P.getD k 0)) (1 + j))) := by
  have e : syn N (changed v P y) j = syn N (fun i => v i ^^^ (if i ∈ P then y (P.idxOf i) else 0)) j := by
    unfold syn changed; apply sum_congr; intro i _; congr 1
    by_cases h : i ∈ P
    · simp only [h, if_true]
    · simp only [h, if_false]; exact (add_zero _).symm
  rw [e, syn_add]; congr 1
  unfold syn
  rw [sum_places P _ hd hN (fun i _ hn => by simp only [hn, if_false]; exact zero_mul _), lsum_idx]
  apply sum_congr; intro k hk
  simp only [getD_mem hk, if_true]
  congr 2
  rw [List.getD_eq_getElem?_getD, List.getElem?_eq_getElem hk, Option.getD_some, List.Nodup.idxOf_getElem hd]
theorem fill_sound {N : Nat} {v : Nat → F} {P : List Nat} (hd : P.Nodup) (hN : ∀ a, a ∈ P → a < N) {y : Nat → F} (h : solve 6 P.length (fillM N v P) = some y) : Code N (changed v P y) := by
  intro j hj
  have := solve_sound h j hj
  rw [lin_fill, if_pos rfl, mul_one] at this
  rw [syn_changed hd hN, add_comm]
  rw [← this]; congr 1
  apply sum_congr; intro k hk; rw [if_neg (by omega)]
theorem fill_complete {N : Nat} (h31 : N ≤ 31) {v c : Nat → F} {P : List Nat} (hd : P.Nodup) (hN : ∀ a, a ∈ P → a < N) (h6 : P.length ≤ 6) (hc : Code N c) (h : ∀ i, i < N → i ∉ P → v i = c i) :
    ∃ y, solve 6 P.length (fillM N v P) = some y ∧ ∀ i, i < N → changed v P y i = c i := by
  have key := solve_complete (R := 6) (n := P.length) (m := fillM N v P) (x := fun k => if k = P.length then 1 else v (P.getD k 0) ^^^ c (P.getD k 0)) ?_ ?_ (by simp)
  · obtain ⟨y, hy, hk⟩ := key
    refine ⟨y, hy, fun i hi => ?_⟩
    unfold changed
    by_cases hm : i ∈ P
    · have hl := List.idxOf_lt_length_iff.2 hm
      have hg : P.getD (P.idxOf i) 0 = i := by
        rw [List.getD_eq_getElem?_getD, List.getElem?_eq_getElem hl, Option.getD_some, List.getElem_idxOf hl]
      rw [if_pos hm, hk _ hl]
      simp only [hg]
      rw [if_neg (by omega), ← add_assoc, add_self, zero_add]
    · rw [if_neg hm]; exact h i hi hm
  · intro x hz hx
    refine vander_places h31 hd hN h6 x fun j hj => ?_
    have := hz j hj
    rw [lin_fill, hx, mul_zero, add_zero] at this; exact this
  · intro j hj
    rw [lin_fill, if_pos rfl, mul_one]
    have e : syn N (fun i => v i ^^^ c i) j = syn N v j := by rw [syn_add, hc j hj, add_zero]
    rw [← e, add_eq_zero]
    unfold syn
    rw [sum_places P (fun i => mul (v i ^^^ c i) (fpow (px N i) (1 + j))) hd hN (fun i hi hn => by rw [h i hi hn, add_self, zero_mul]), lsum_idx]
    apply sum_congr; intro k hk; rw [if_neg (by omega)]
/-- the sums without the erasures -/
def rest (N : Nat) (v : Nat → F) (O : List Nat) (j : Nat) : F := sum (O.length + 1) (fun k => mul (pcoef (O.map (px N)) k) (syn N v (j + O.length - k)))
def locM (N : Nat) (v : Nat → F) (O : List Nat) (n : Nat) : Nat → Nat → F := fun j k => if k < n then rest N v O (j + n - 1 - k) else rest N v O (j + n)
theorem rest_eq {N : Nat} (v : Nat → F) (O : List Nat) (j : Nat) :
    rest N v O j = sum N (fun i => mul (mul (v i) (fpow (px N i) (1 + j))) (pval (O.map (px N)) (px N i))) := by
  unfold rest
  have : ∀ k, k < O.length + 1 → mul (pcoef (O.map (px N)) k) (syn N v (j + O.length - k)) = sum N (fun i => mul (mul (v i) (fpow (px N i) (1 + j))) (mul (pcoef (O.map (px N)) k) (fpow (px N i) (O.length - k)))) := by
    intro k hk
    unfold syn; rw [mul_sum]; apply sum_congr; intro i _
    rw [show 1 + (j + O.length - k) = (1 + j) + (O.length - k) from by omega, fpow_add]; ac_rfl
  rw [sum_congr this, sum_comm]
  apply sum_congr; intro i _
  rw [← mul_sum]; congr 1
  have := pval_eq (O.map (px N)) (px N i)
  rw [List.length_map] at this; exact this
/-- the weights of the errors -/
def wt (N : Nat) (e : Nat → F) (O : List Nat) (i : Nat) : F := mul (mul (e i) (px N i)) (pval (O.map (px N)) (px N i))
theorem rest_err {N : Nat} {v c : Nat → F} (hc : Code N c) {O E : List Nat} (hE : E.Nodup) (hEN : ∀ a, a ∈ E → a < N)
    (h : ∀ i, i < N → i ∉ O → i ∉ E → v i = c i) {j : Nat} (hj : j + O.length < 6) :
    rest N v O j = sum E.length (fun k => mul (wt N (fun i => v i ^^^ c i) O (E.getD k 0)) (fpow (px N (E.getD k 0)) j)) := by
  have e : rest N v O j = rest N (fun i => v i ^^^ c i) O j := by
    unfold rest; apply sum_congr; intro k hk
    rw [syn_add, hc (j + O.length - k) (by omega), add_zero]
  rw [e, rest_eq, sum_places E _ hE hEN (fun i hi hn => ?_), lsum_idx]
  · apply sum_congr; intro k _
    unfold wt
    rw [Nat.add_comm 1 j, fpow]; ac_rfl
  · by_cases ho : i ∈ O
    · rw [show pval (O.map (px N)) (px N i) = 0 from pval_zero.2 (List.mem_map.2 ⟨i, ho, rfl⟩), mul_zero]
    · rw [h i hi ho hn, add_self, zero_mul, zero_mul]
theorem wt_ne {N : Nat} (h31 : N ≤ 31) {e : Nat → F} {O : List Nat} {i : Nat} (hi : i < N) (hON : ∀ a, a ∈ O → a < N) (he : e i ≠ 0) (ho : i ∉ O) : wt N e O i ≠ 0 := by
  unfold wt; intro h
  rcases mul_eq_zero.1 h with h | h
  · rcases mul_eq_zero.1 h with h | h
    · exact he h
    · exact px_ne _ _ h
  · obtain ⟨a, ha, hp⟩ := List.mem_map.1 (pval_zero.1 h)
    exact ho (px_inj h31 (hON a ha) hi hp ▸ ha)
/-- the locator of the true errors is the one solution -/
theorem loc_solve {N : Nat} (h31 : N ≤ 31) {v c : Nat → F} (hc : Code N c) {O E : List Nat} (hE : E.Nodup) (hEN : ∀ a, a ∈ E → a < N) (hON : ∀ a, a ∈ O → a < N)
    (h : ∀ i, i < N → i ∉ O → i ∉ E → v i = c i) (hne : ∀ i, i ∈ E → v i ≠ c i) (hdis : ∀ a, a ∈ E → a ∉ O) (h6 : 2 * E.length + O.length ≤ 6) :
    ∃ y, solve (6 - O.length - E.length) E.length (locM N v O E.length) = some y ∧ ∀ k, k < E.length → y k = pcoef (E.map (px N)) (k + 1) := by
  have W : ∀ k, k < E.length → wt N (fun i => v i ^^^ c i) O (E.getD k 0) ≠ 0 := fun k hk =>
    wt_ne h31 (hEN _ (getD_mem hk)) hON (fun e => hne _ (getD_mem hk) (add_eq_zero.1 e)) (hdis _ (getD_mem hk))
  have X : ∀ i j, i < E.length → j < E.length → px N (E.getD i 0) = px N (E.getD j 0) → i = j := fun i j hi hj e =>
    getD_inj hE hi hj (px_inj h31 (hEN _ (getD_mem hi)) (hEN _ (getD_mem hj)) e)
  -- a row at x: the weights times the polynomial of x
  have L : ∀ (x : Nat → F) (j : Nat), j < 6 - O.length - E.length → lin E.length (locM N v O E.length) x j =
      sum E.length (fun i => mul (mul (wt N (fun i => v i ^^^ c i) O (E.getD i 0)) (sum E.length (fun k => mul (x k) (fpow (px N (E.getD i 0)) (E.length - 1 - k))) ^^^ mul (x E.length) (fpow (px N (E.getD i 0)) E.length))) (fpow (px N (E.getD i 0)) (0 + j))) := by
    intro x j hj
    unfold lin; rw [sum]
    have t1 : sum E.length (fun k => mul (locM N v O E.length j k) (x k)) = sum E.length (fun i => mul (mul (wt N (fun i => v i ^^^ c i) O (E.getD i 0)) (sum E.length (fun k => mul (x k) (fpow (px N (E.getD i 0)) (E.length - 1 - k))))) (fpow (px N (E.getD i 0)) (0 + j))) := by
      have : ∀ k, k < E.length → mul (locM N v O E.length j k) (x k) = sum E.length (fun i => mul (mul (wt N (fun i => v i ^^^ c i) O (E.getD i 0)) (mul (x k) (fpow (px N (E.getD i 0)) (E.length - 1 - k)))) (fpow (px N (E.getD i 0)) (0 + j))) := by
        intro k hk
        unfold locM; rw [if_pos hk, rest_err hc hE hEN h (by omega), sum_mul]
        apply sum_congr; intro i _
        rw [show j + E.length - 1 - k = (E.length - 1 - k) + (0 + j) from by omega, fpow_add, mul_comm _ (x k), mul_left_comm (x k), ← mul_assoc (x k), ← mul_assoc]
      rw [sum_congr this, sum_comm]
      apply sum_congr; intro i _
      rw [← sum_mul]; congr 1; rw [← mul_sum]
    have t2 : mul (locM N v O E.length j E.length) (x E.length) = sum E.length (fun i => mul (mul (wt N (fun i => v i ^^^ c i) O (E.getD i 0)) (mul (x E.length) (fpow (px N (E.getD i 0)) E.length))) (fpow (px N (E.getD i 0)) (0 + j))) := by
      unfold locM; rw [if_neg (by omega), rest_err hc hE hEN h (by omega), sum_mul]
      apply sum_congr; intro i _
      rw [show j + E.length = E.length + (0 + j) from by omega, fpow_add, mul_comm _ (x E.length), mul_left_comm (x E.length), ← mul_assoc (x E.length), ← mul_assoc]
    rw [t1, t2, ← sum_add]
    apply sum_congr; intro i _
    rw [mul_add, add_mul]
  have key := solve_complete (R := 6 - O.length - E.length) (n := E.length) (m := locM N v O E.length) (x := fun k => if k = E.length then 1 else pcoef (E.map (px N)) (k + 1)) ?_ ?_ (by simp)
  · obtain ⟨y, hy, hk⟩ := key
    refine ⟨y, hy, fun k hk' => ?_⟩
    rw [hk k hk', if_neg (by omega)]
  · intro x hz hx
    -- all weights times values are 0, so the polynomial has E.length roots
    have z := vander E.length (fun i => px N (E.getD i 0)) (fun i => mul (wt N (fun i => v i ^^^ c i) O (E.getD i 0)) (sum E.length (fun k => mul (x k) (fpow (px N (E.getD i 0)) (E.length - 1 - k))) ^^^ mul (x E.length) (fpow (px N (E.getD i 0)) E.length))) X (fun i _ => px_ne _ _) 0 (by
      intro j hj
      have := hz j (by omega)
      rw [L x j (by omega)] at this; exact this)
    have r := roots_zero E.length (fun k => x (E.length - 1 - k)) (fun i => px N (E.getD i 0)) X (by
      intro i hi
      have := z i hi
      rcases mul_eq_zero.1 this with e | e
      · exact absurd e (W i hi)
      · rw [hx, zero_mul, add_zero] at e
        unfold pev
        rw [← e]
        -- the sum in the other order
        have rev : ∀ (n : Nat) (f : Nat → F), sum n f = sum n (fun k => f (n - 1 - k)) := by
          intro n
          induction n with
          | zero => intro f; rfl
          | succ n ih =>
            intro f
            rw [sum_head, ih, sum, add_comm]
            congr 1
            · apply sum_congr; intro k hk; congr 1; omega
            · congr 1; omega
        rw [rev]
        apply sum_congr; intro k hk
        simp only [show E.length - 1 - (E.length - 1 - k) = k from by omega])
    intro k hk
    have := r (E.length - 1 - k) (by omega)
    simp only [show E.length - 1 - (E.length - 1 - k) = k from by omega] at this
    exact this
  · intro j hj
    rw [L _ j hj]
    apply sum_zero; intro i hi
    have p := pval_eq (E.map (px N)) (px N (E.getD i 0))
    rw [List.length_map, sum_head, pcoef_zero, one_mul, Nat.sub_zero, pval_zero.2 (List.mem_map.2 ⟨_, getD_mem hi, rfl⟩)] at p
    rw [if_pos rfl, one_mul]
    have : sum E.length (fun k => mul (if k = E.length then 1 else pcoef (E.map (px N)) (k + 1)) (fpow (px N (E.getD i 0)) (E.length - 1 - k))) = sum E.length (fun k => mul (pcoef (E.map (px N)) (k + 1)) (fpow (px N (E.getD i 0)) (E.length - (k + 1)))) := by
      apply sum_congr; intro k hk; rw [if_neg (by omega), show E.length - 1 - k = E.length - (k + 1) from by omega]
    rw [this, add_comm, p, mul_zero, zero_mul]
/-- the locator's value at a place: 1 + y 0 / X + y 1 / X^2 + .. -/
def locv (N n : Nat) (y : Nat → F) (i : Nat) : F := 1 ^^^ sum n (fun k => mul (y k) (inv (fpow (px N i) (k + 1))))
theorem inv_mul_pow {x : F} (hx : x ≠ 0) {n k : Nat} (h : k ≤ n) : mul (inv (fpow x k)) (fpow x n) = fpow x (n - k) := by
  rw [show n = k + (n - k) from by omega, fpow_add, show k + (n - k) - k = n - k from by omega, ← mul_assoc, mul_comm (inv _), mul_inv (fpow_ne hx k), one_mul]
theorem locv_zero {N n : Nat} {y : Nat → F} {l : List F} (hl : l.length = n) (hy : ∀ k, k < n → y k = pcoef l (k + 1)) (i : Nat) : locv N n y i = 0 ↔ px N i ∈ l := by
  rw [← pval_zero]
  have e : mul (locv N n y i) (fpow (px N i) n) = pval l (px N i) := by
    rw [← pval_eq l, hl, sum_head, pcoef_zero, Nat.sub_zero]
    unfold locv; rw [add_mul]; congr 1
    rw [sum_mul]; apply sum_congr; intro k hk
    rw [hy k hk, mul_assoc, inv_mul_pow (px_ne _ _) (by omega)]
  constructor
  · intro h; rw [← e, h, zero_mul]
  · intro h; rw [h] at e
    rcases mul_eq_zero.1 e with e | e
    · exact e
    · exact absurd e (fpow_ne (px_ne _ _) _)
end Go.Proofs.YtcpmgkedmmiioaaGreatDoor.Gf
end
