/-
  Plain law of the sums: the step on a number of 32 bits, feeding bytes, linearity, and bursts. No program in sight.
-/
import Derived.Laws.BitsAllLaws
namespace Go.Proofs.Ytodmpchnjakchaa
namespace Crc

/-- One step: halved, and put together with the polynomial where the lowest bit was 1. -/
def step (c : Nat) : Nat := (c / 2) ^^^ (c % 2 * 2197175160)
def stepN : Nat → Nat → Nat
  | 0, c => c
  | k + 1, c => step (stepN k c)
/-- The bytes, one by one. -/
def feed (c : Nat) (l : List Nat) : Nat := l.foldl (fun c b => stepN 8 (c ^^^ b)) c
/-- P1.1: More. -/
def more (s : Nat) (l : List Nat) : Nat := 4294967295 - feed (4294967295 - s) l
def Bytes (l : List Nat) : Prop := ∀ b ∈ l, b < 256

theorem step_lt {c : Nat} (h : c < 4294967296) : step c < 4294967296 := by
  have h1 : c / 2 < 2 ^ 32 := by omega
  have h2 : c % 2 * 2197175160 < 2 ^ 32 := by omega
  exact Nat.xor_lt_two_pow h1 h2
theorem stepN_lt {c : Nat} (k : Nat) (h : c < 4294967296) : stepN k c < 4294967296 := by
  induction k with
  | zero => exact h
  | succ k ih => exact step_lt ih
theorem xor_lt {a b : Nat} (h : a < 4294967296) (h' : b < 4294967296) : a ^^^ b < 4294967296 := Nat.xor_lt_two_pow (n := 32) h h'
theorem feed_lt (l : List Nat) : ∀ {c : Nat}, c < 4294967296 → Bytes l → feed c l < 4294967296 := by
  induction l with
  | nil => intro c h _; exact h
  | cons b l ih =>
    intro c h hb
    exact ih (stepN_lt 8 (xor_lt h (by have := hb b (by simp); omega))) (fun x hx => hb x (by simp [hx]))
theorem more_lt (s : Nat) (l : List Nat) : more s l < 4294967296 := by unfold more; omega

theorem step_xor (a b : Nat) : step (a ^^^ b) = step a ^^^ step b := by
  unfold step
  have h1 : (a ^^^ b) / 2 = a / 2 ^^^ b / 2 := by
    have := Nat.shiftRight_xor_distrib (a := a) (b := b) (i := 1)
    simpa [Nat.shiftRight_succ] using this
  have h2 : (a ^^^ b) % 2 = a % 2 ^^^ b % 2 := by
    have := Nat.xor_mod_two_pow (a := a) (b := b) (n := 1)
    simpa using this
  rw [h1, h2]
  have key : (a % 2 ^^^ b % 2) * 2197175160 = (a % 2 * 2197175160) ^^^ (b % 2 * 2197175160) := by
    rcases Nat.mod_two_eq_zero_or_one a with ha | ha <;> rcases Nat.mod_two_eq_zero_or_one b with hb | hb <;> rw [ha, hb] <;> decide
  rw [key]
  ac_rfl
theorem stepN_xor (k a b : Nat) : stepN k (a ^^^ b) = stepN k a ^^^ stepN k b := by
  induction k with
  | zero => rfl
  | succ k ih => simp only [stepN, ih, step_xor]
theorem step_zero : step 0 = 0 := by decide
theorem stepN_zero (k : Nat) : stepN k 0 = 0 := by
  induction k with
  | zero => rfl
  | succ k ih => simp only [stepN, ih, step_zero]
theorem stepN_add (j k c : Nat) : stepN (j + k) c = stepN j (stepN k c) := by
  induction j with
  | zero => simp [stepN]
  | succ j ih => rw [Nat.succ_add]; simp only [stepN, ih]
theorem step_double (m : Nat) : step (2 * m) = m := by unfold step; simp
theorem stepN_shift (k m : Nat) : stepN k (2 ^ k * m) = m := by
  induction k generalizing m with
  | zero => simp [stepN]
  | succ k ih =>
    have : 2 ^ (k + 1) * m = 2 ^ k * (2 * m) := by rw [Nat.pow_succ]; ac_rfl
    simp only [stepN]; rw [this, ih, step_double]
/-- A number is its head above its lowest k bits, put together with these. -/
theorem split_bits (k c : Nat) : c = (2 ^ k * (c / 2 ^ k)) ^^^ (c % 2 ^ k) := by
  apply Nat.eq_of_testBit_eq
  intro i
  rw [Nat.testBit_xor, Nat.testBit_two_pow_mul, Nat.testBit_mod_two_pow, Nat.testBit_div_two_pow]
  by_cases h : i < k
  · simp [h, Nat.not_le.2 h]
  · simp [h, Nat.not_lt.1 h]
/-- The table's way is the definition's way. -/
theorem table_way (c b : Nat) : stepN 8 (c ^^^ b) = (c / 256) ^^^ stepN 8 ((c % 256) ^^^ b) := by
  have e : c ^^^ b = (2 ^ 8 * (c / 2 ^ 8)) ^^^ ((c % 2 ^ 8) ^^^ b) := by
    rw [← Nat.xor_assoc, ← split_bits 8 c]
  rw [e, stepN_xor, stepN_shift]
theorem index_lt (c b : Nat) (hb : b < 256) : (c % 256) ^^^ b < 256 := Nat.xor_lt_two_pow (n := 8) (by omega) (by omega)

theorem feed_append (c : Nat) (a b : List Nat) : feed c (a ++ b) = feed (feed c a) b := by simp [feed]
theorem feed_snoc (c : Nat) (a : List Nat) (x : Nat) : feed c (a ++ [x]) = stepN 8 (feed c a ^^^ x) := by simp [feed]
theorem more_append (s : Nat) (a b : List Nat) (hs : s < 4294967296) (ha : Bytes a) : more s (a ++ b) = more (more s a) b := by
  unfold more
  rw [feed_append]
  have := feed_lt a (c := 4294967295 - s) (by omega) ha
  rw [show 4294967295 - (4294967295 - feed (4294967295 - s) a) = feed (4294967295 - s) a by omega]

/-! ### Linearity -/
theorem feed_xor (l : List (Nat × Nat)) : ∀ (c d : Nat), feed (c ^^^ d) (l.map fun p => p.1 ^^^ p.2) = feed c (l.map (·.1)) ^^^ feed d (l.map (·.2)) := by
  induction l with
  | nil => intro c d; rfl
  | cons p l ih =>
    intro c d
    simp only [List.map_cons, feed, List.foldl_cons]
    have e : c ^^^ d ^^^ (p.1 ^^^ p.2) = (c ^^^ p.1) ^^^ (d ^^^ p.2) := by ac_rfl
    rw [e, stepN_xor]
    exact ih _ _
theorem compl_xor {a : Nat} (h : a < 4294967296) : 4294967295 - a = 4294967295 ^^^ a := by
  apply Nat.eq_of_testBit_eq
  intro i
  have e1 : 4294967295 - a = 2 ^ 32 - (a + 1) := by omega
  have e2 : (4294967295 : Nat) = 2 ^ 32 - 1 := rfl
  rw [e1, Nat.testBit_two_pow_sub_succ (by omega), Nat.testBit_xor, e2, Nat.testBit_two_pow_sub_one]
  by_cases hi : i < 32
  · simp [hi]
  · have : a.testBit i = false := Nat.testBit_lt_two_pow (Nat.lt_of_lt_of_le (by omega : a < 2 ^ 32) (Nat.pow_le_pow_right (by omega) (by omega)))
    simp [hi, this]

/-! ### Bursts -/
theorem step_inj_zero {c : Nat} (hc : c < 4294967296) (h : step c = 0) : c = 0 := by
  unfold step at h
  have h' : c / 2 = c % 2 * 2197175160 := by
    have := congrArg (fun x => x ^^^ (c % 2 * 2197175160)) h
    simpa [Nat.xor_assoc] using this
  omega
theorem stepN_inj_zero (k : Nat) {c : Nat} (hc : c < 4294967296) (h : stepN k c = 0) : c = 0 := by
  induction k with
  | zero => exact h
  | succ k ih => exact ih (step_inj_zero (stepN_lt k hc) h)
/-- Bits fed from the lowest on. -/
def feedBits (c : Nat) (l : List Bool) : Nat := l.foldl (fun c b => step (c ^^^ b.toNat)) c
theorem feedBits_append (c : Nat) (a b : List Bool) : feedBits c (a ++ b) = feedBits (feedBits c a) b := by simp [feedBits]
/-- The lowest k bits of a number, as bits. -/
def low (k x : Nat) : List Bool := (List.range k).map fun i => x.testBit i
theorem feedBits_low (k c x : Nat) (hx : x < 2 ^ k) : feedBits c (low k x) = stepN k (c ^^^ x) := by
  induction k generalizing x with
  | zero => simp at hx; subst hx; simp [low, feedBits, stepN]
  | succ k ih =>
    have hsp := split_bits k x
    have hq : x / 2 ^ k = (x.testBit k).toNat := by
      rw [Nat.testBit_eq_decide_div_mod_eq]
      have : x / 2 ^ k < 2 := by
        rw [Nat.div_lt_iff_lt_mul (Nat.two_pow_pos k), Nat.mul_comm, ← Nat.pow_succ]; exact hx
      have h01 : x / 2 ^ k = 0 ∨ x / 2 ^ k = 1 := Nat.le_one_iff_eq_zero_or_eq_one.1 (Nat.lt_succ_iff.1 this)
      rcases h01 with h | h <;> simp [h]
    have hlow : low (k + 1) x = low k (x % 2 ^ k) ++ [x.testBit k] := by
      unfold low
      rw [List.range_succ, List.map_append]
      congr 1
      apply List.map_congr_left
      intro i hi
      rw [Nat.testBit_mod_two_pow]
      simp [List.mem_range.1 hi]
    rw [hlow, feedBits_append, ih _ (Nat.mod_lt _ (Nat.two_pow_pos k))]
    have : feedBits (stepN k (c ^^^ x % 2 ^ k)) [x.testBit k] = step (stepN k (c ^^^ x % 2 ^ k) ^^^ (x.testBit k).toNat) := rfl
    rw [this]
    have e : c ^^^ x = (c ^^^ x % 2 ^ k) ^^^ (2 ^ k * (x / 2 ^ k)) := by
      conv => lhs; rw [hsp]
      ac_rfl
    rw [e]
    show step (stepN k (c ^^^ x % 2 ^ k) ^^^ (x.testBit k).toNat) = step (stepN k ((c ^^^ x % 2 ^ k) ^^^ (2 ^ k * (x / 2 ^ k))))
    rw [stepN_xor k (c ^^^ x % 2 ^ k), stepN_shift, hq]
def bitsOf (l : List Nat) : List Bool := l.flatMap (low 8)
theorem feed_bits (l : List Nat) : ∀ (c : Nat), Bytes l → feed c l = feedBits c (bitsOf l) := by
  induction l with
  | nil => intro c _; rfl
  | cons b l ih =>
    intro c hb
    show feed (stepN 8 (c ^^^ b)) l = feedBits c (low 8 b ++ bitsOf l)
    rw [feedBits_append, feedBits_low 8 c b (by have := hb b (by simp); omega)]
    exact ih _ (fun x hx => hb x (by simp [hx]))
theorem feedBits_zeros (n c : Nat) : feedBits c (List.replicate n false) = stepN n c := by
  induction n with
  | zero => rfl
  | succ n ih => rw [List.replicate_succ', feedBits_append, ih]; simp [feedBits, stepN]
/-- Noughts, then k bits of a number that is not 0, k at most 32, then noughts: the state is not 0. -/
theorem burst (n k m x : Nat) (hk : k ≤ 32) (hx : x < 2 ^ k) (h0 : x ≠ 0) :
    feedBits 0 (List.replicate n false ++ low k x ++ List.replicate m false) ≠ 0 := by
  rw [feedBits_append, feedBits_append, feedBits_zeros n, stepN_zero, feedBits_low k 0 x hx, feedBits_zeros, Nat.zero_xor]
  have hx32 : x < 4294967296 := Nat.lt_of_lt_of_le hx (by
    have := Nat.pow_le_pow_right (n := 2) (by omega) hk
    omega)
  intro h
  exact h0 (stepN_inj_zero k hx32 (stepN_inj_zero m (stepN_lt k hx32) h))
end Crc
end Go.Proofs.Ytodmpchnjakchaa
