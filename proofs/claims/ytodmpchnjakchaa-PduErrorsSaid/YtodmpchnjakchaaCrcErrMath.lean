/-
  Plain law of bursts of changed bits. No program in sight.
-/
import Derived.Test.YtodmpchnjakchaaCrcMath
namespace Go.Proofs.Ytodmpchnjakchaa
namespace Crc

/-- Bit i of a text, from the lowest bit of the first byte on. -/
def bitAt (l : List Nat) (i : Nat) : Bool := (l.getD (i / 8) 0).testBit (i % 8)
theorem bitsOf_length (l : List Nat) : (bitsOf l).length = 8 * l.length := by
  induction l with
  | nil => rfl
  | cons b l ih =>
    show (low 8 b ++ bitsOf l).length = _
    rw [List.length_append, ih]
    simp [low]; omega
theorem bitsOf_get (l : List Nat) : ∀ i, i < 8 * l.length → (bitsOf l)[i]? = some (bitAt l i) := by
  induction l with
  | nil => intro i h; simp at h
  | cons b l ih =>
    intro i h
    show (low 8 b ++ bitsOf l)[i]? = _
    by_cases h8 : i < 8
    · rw [List.getElem?_append_left (by simp [low]; omega)]
      have e1 : i / 8 = 0 := by omega
      have e2 : i % 8 = i := by omega
      simp [low, bitAt, e1, e2, h8]
    · rw [List.getElem?_append_right (by simp [low]; omega)]
      have e0 : (low 8 b).length = 8 := by simp [low]
      rw [e0, ih (i - 8) (by simp at h; omega)]
      have e1 : i / 8 = (i - 8) / 8 + 1 := by omega
      have e2 : i % 8 = (i - 8) % 8 := by omega
      simp [bitAt, e1, e2]
/-- The mask: n noughts, the lowest k bits of x, m noughts. -/
def mask (n k m x : Nat) : List Bool := List.replicate n false ++ low k x ++ List.replicate m false
theorem mask_length (n k m x : Nat) : (mask n k m x).length = n + k + m := by simp [mask, low, Nat.add_assoc]
theorem mask_get (n k m x i : Nat) (h : i < n + k + m) : (mask n k m x)[i]? = some (decide (n ≤ i) && decide (i < n + k) && x.testBit (i - n)) := by
  unfold mask
  by_cases h1 : i < n
  · rw [List.getElem?_append_left (by simp [low]; omega), List.getElem?_append_left (by simp; omega)]
    simp [h1, Nat.not_le.2 h1]
  · by_cases h2 : i < n + k
    · rw [List.getElem?_append_left (by simp [low]; omega), List.getElem?_append_right (by simp; omega)]
      have : i - n < k := by omega
      simp [low, this, h2, Nat.not_lt.1 h1]
    · rw [List.getElem?_append_right (by simp [low]; omega)]
      have : i - (n + k) < m := by omega
      simp [low, h2, this]
theorem feedBits_xor (l : List (Bool × Bool)) : ∀ (c d : Nat), feedBits (c ^^^ d) (l.map fun p => p.1 ^^ p.2) = feedBits c (l.map (·.1)) ^^^ feedBits d (l.map (·.2)) := by
  induction l with
  | nil => intro c d; rfl
  | cons p l ih =>
    intro c d
    simp only [List.map_cons, feedBits, List.foldl_cons]
    have e0 : (p.1 ^^ p.2).toNat = p.1.toNat ^^^ p.2.toNat := by cases p.1 <;> cases p.2 <;> rfl
    have e : c ^^^ d ^^^ (p.1.toNat ^^^ p.2.toNat) = (c ^^^ p.1.toNat) ^^^ (d ^^^ p.2.toNat) := by ac_rfl
    rw [e0, e, step_xor]
    exact ih _ _
/-- Two texts of one length whose bits differ just by a mask that is not empty, of up to 32 bits, have unlike sums. -/
theorem unlike (a b : List Nat) (n k m x : Nat) (hlen : b.length = a.length) (ha : Bytes a) (hb : Bytes b) (hsz : n + k + m = 8 * a.length) (hk : k ≤ 32) (hx : x < 2 ^ k) (h0 : x ≠ 0)
    (h : ∀ i, i < 8 * a.length → bitAt b i = (bitAt a i ^^ (decide (n ≤ i) && decide (i < n + k) && x.testBit (i - n)))) : more 0 a ≠ more 0 b := by
  intro he
  have hfa := feed_lt a (c := 4294967295) (by omega) ha
  have hfb := feed_lt b (c := 4294967295) (by omega) hb
  unfold more at he
  simp only [Nat.sub_zero] at he
  have he : feed 4294967295 a = feed 4294967295 b := by omega
  rw [feed_bits a _ ha, feed_bits b _ hb] at he
  have hz : bitsOf b = ((bitsOf a).zip (mask n k m x)).map fun p => p.1 ^^ p.2 := by
    apply List.ext_getElem?
    intro i
    by_cases hi : i < 8 * a.length
    · rw [bitsOf_get b i (by omega), List.getElem?_map, show ((bitsOf a).zip (mask n k m x))[i]? = some (bitAt a i, _) from List.getElem?_zip_eq_some.2 ⟨bitsOf_get a i hi, mask_get n k m x i (by omega)⟩, h i hi]
      rfl
    · rw [List.getElem?_eq_none (by rw [bitsOf_length]; omega), List.getElem?_eq_none (by simp [bitsOf_length, mask_length]; omega)]
  have h1 : ((bitsOf a).zip (mask n k m x)).map (·.1) = bitsOf a := by
    apply List.map_fst_zip
    rw [bitsOf_length, mask_length]; omega
  have h2 : ((bitsOf a).zip (mask n k m x)).map (·.2) = mask n k m x := by
    apply List.map_snd_zip
    rw [bitsOf_length, mask_length]; omega
  have hlin := feedBits_xor ((bitsOf a).zip (mask n k m x)) 4294967295 0
  rw [h1, h2, Nat.xor_zero, ← hz, ← he] at hlin
  have h3 : feedBits 0 (mask n k m x) = 0 := by
    have := congrArg (fun y => feedBits 4294967295 (bitsOf a) ^^^ y) hlin
    simp only [← Nat.xor_assoc, Nat.xor_self, Nat.zero_xor] at this
    exact this.symm
  exact burst n k m x hk hx h0 h3
/-- A text with one bit turned. -/
def turn (l : List Nat) (n : Nat) : List Nat := l.set (n / 8) (l.getD (n / 8) 0 ^^^ 2 ^ (n % 8))
theorem turn_length (l : List Nat) (n : Nat) : (turn l n).length = l.length := by simp [turn]
theorem getD_lt {l : List Nat} (hB : Bytes l) (k : Nat) : l.getD k 0 < 256 := by
  by_cases h : k < l.length
  · have := hB l[k] (List.getElem_mem h); simpa [List.getD, h] using this
  · simp [List.getD, h]
theorem pow_byte (n : Nat) : 2 ^ (n % 8) < 256 := by
  have h : 2 ^ (n % 8) < 2 ^ 8 := Nat.pow_lt_pow_right (by omega) (by omega)
  omega
theorem turn_byte {l : List Nat} (hB : Bytes l) (n : Nat) : l.getD (n / 8) 0 ^^^ 2 ^ (n % 8) < 256 :=
  Nat.xor_lt_two_pow (n := 8) (getD_lt hB _) (pow_byte n)
theorem turn_bytes {l : List Nat} (hB : Bytes l) (n : Nat) : Bytes (turn l n) := by
  intro x hx
  rcases List.mem_or_eq_of_mem_set hx with h | h
  · exact hB x h
  · rw [h]; exact turn_byte hB n
theorem turn_bit (l : List Nat) (n i : Nat) (hn : n < 8 * l.length) : bitAt (turn l n) i = (bitAt l i ^^ decide (i = n)) := by
  unfold bitAt turn
  by_cases h : i / 8 = n / 8
  · have e : (l.set (n / 8) (l.getD (n / 8) 0 ^^^ 2 ^ (n % 8))).getD (i / 8) 0 = l.getD (n / 8) 0 ^^^ 2 ^ (n % 8) := by
      rw [h]
      have : n / 8 < l.length := by omega
      simp [List.getD, this]
    rw [e, Nat.testBit_xor, Nat.testBit_two_pow, h]
    congr 1
    simp only [decide_eq_decide]
    omega
  · have e : (l.set (n / 8) (l.getD (n / 8) 0 ^^^ 2 ^ (n % 8))).getD (i / 8) 0 = l.getD (i / 8) 0 := by
      simp only [List.getD, List.getElem?_set]
      rw [if_neg (by omega)]
    have : i ≠ n := fun e => h (by rw [e])
    rw [e]
    simp [this]

/-- What stands behind k rounds: the text, and whether a bit was turned. -/
structure Turned (a b : List Nat) (bit k change : Nat) (t : Bool) : Prop where
  len : b.length = a.length
  bytes : Bytes b
  bits : ∀ i, i < 8 * a.length → bitAt b i = (bitAt a i ^^ (decide (bit ≤ i) && decide (i < bit + k) && change.testBit (i - bit)))
  any : t = true → ∃ j, j < k ∧ bit + j < 8 * a.length ∧ change.testBit j = true
theorem Turned.zero (a : List Nat) (bit change : Nat) (ha : Bytes a) : Turned a a bit 0 change false :=
  ⟨rfl, ha, fun i _ => by
    have : (decide (bit ≤ i) && decide (i < bit + 0)) = false := by simp
    rw [this]; simp, fun h => by cases h⟩
theorem Turned.skip {a b : List Nat} {bit k change : Nat} {t : Bool} (h : Turned a b bit k change t) (hno : 8 * a.length ≤ bit + k ∨ change.testBit k = false) : Turned a b bit (k + 1) change t :=
  ⟨h.len, h.bytes, fun i hi => by
    rw [h.bits i hi]
    congr 1
    by_cases e : i = bit + k
    · subst e
      rcases hno with h1 | h1
      · omega
      · have : bit + k - bit = k := by omega
        rw [this, h1]; simp
    · have : decide (i < bit + (k + 1)) = decide (i < bit + k) := by simp only [decide_eq_decide]; omega
      rw [this], fun ht => by obtain ⟨j, h1, h2, h3⟩ := h.any ht; exact ⟨j, by omega, h2, h3⟩⟩
theorem Turned.turn {a b : List Nat} {bit k change : Nat} {t : Bool} (h : Turned a b bit k change t) (hn : bit + k < 8 * a.length) (hb : change.testBit k = true) : Turned a (Crc.turn b (bit + k)) bit (k + 1) change true :=
  ⟨(turn_length _ _).trans h.len, turn_bytes h.bytes _, fun i hi => by
    rw [turn_bit b _ i (by rw [h.len]; exact hn), h.bits i hi, Bool.xor_assoc]
    congr 1
    by_cases e : i = bit + k
    · subst e
      have : bit + k - bit = k := by omega
      rw [this, hb]; simp
    · have : decide (i < bit + (k + 1)) = decide (i < bit + k) := by simp only [decide_eq_decide]; omega
      rw [this]; simp [e], fun _ => ⟨k, by omega, hn, hb⟩⟩
theorem Turned.unlike {a b : List Nat} {bit change : Nat} (h : Turned a b bit 32 change true) (ha : Bytes a) (hbit : bit < 8 * a.length) : more 0 a ≠ more 0 b := by
  obtain ⟨j, h1, h2, h3⟩ := h.any rfl
  have hk : min 32 (8 * a.length - bit) ≤ 32 := by omega
  refine Crc.unlike a b bit (min 32 (8 * a.length - bit)) (8 * a.length - bit - min 32 (8 * a.length - bit)) (change % 2 ^ min 32 (8 * a.length - bit)) h.len ha h.bytes (by omega) hk (Nat.mod_lt _ (Nat.two_pow_pos _)) ?_ ?_
  · intro e
    have := Nat.testBit_mod_two_pow change (min 32 (8 * a.length - bit)) j
    rw [e, h3] at this
    have : j < min 32 (8 * a.length - bit) := by omega
    simp_all
  · intro i hi
    rw [h.bits i hi, Nat.testBit_mod_two_pow]
    congr 1
    by_cases h4 : bit ≤ i
    · by_cases h5 : i < bit + 32
      · have e1 : i < bit + min 32 (8 * a.length - bit) := by omega
        have e2 : i - bit < min 32 (8 * a.length - bit) := by omega
        simp only [h4, h5, e1, e2, decide_true, Bool.true_and]
      · have e1 : ¬ i < bit + min 32 (8 * a.length - bit) := by omega
        simp only [h4, h5, e1, decide_true, decide_false, Bool.true_and, Bool.false_and]
    · simp [h4]
end Crc
end Go.Proofs.Ytodmpchnjakchaa
