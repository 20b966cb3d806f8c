/-
  The plain law of PDUs: how one is written, how bytes are read. No program in sight.
-/
import Derived.Test.YtodmpchnjakchaaCrcMath
namespace Go.Proofs.Ytodmpchnjakchaa
namespace Pdu

/-- The k lowest bytes of a number, the highest first. -/
def be : Nat → Nat → List Nat
  | 0, _ => []
  | k + 1, n => n / 256 ^ k % 256 :: be k n
/-- The number that bytes are. -/
def num (l : List Nat) : Nat := l.foldl (fun n b => 256 * n + b) 0
def numAt (b : List Nat) (at_ k : Nat) : Nat := num ((b.drop at_).take k)
theorem be_length (k n : Nat) : (be k n).length = k := by
  induction k with
  | zero => rfl
  | succ k ih => simp [be, ih]
theorem be_bytes (k n : Nat) : Crc.Bytes (be k n) := by
  induction k with
  | zero => intro b hb; simp [be] at hb
  | succ k ih =>
    intro b hb
    rcases List.mem_cons.1 hb with h | h
    · subst h; omega
    · exact ih b h
theorem num_from (l : List Nat) : ∀ a, l.foldl (fun n b => 256 * n + b) a = a * 256 ^ l.length + num l := by
  induction l with
  | nil => intro a; simp [num]
  | cons x l ih =>
    intro a
    show l.foldl _ (256 * a + x) = _
    rw [ih]
    unfold num
    show _ = _ + l.foldl _ (256 * 0 + x)
    rw [ih (256 * 0 + x), List.length_cons, Nat.pow_succ, Nat.mul_zero, Nat.zero_add, Nat.add_mul, Nat.mul_comm 256 a, Nat.mul_assoc, Nat.mul_comm 256, Nat.add_assoc]
    rfl
theorem num_cons (x : Nat) (l : List Nat) : num (x :: l) = x * 256 ^ l.length + num l := by
  have := num_from l x
  unfold num at this ⊢
  simpa using this
theorem num_snoc (l : List Nat) (x : Nat) : num (l ++ [x]) = 256 * num l + x := by simp [num]
theorem num_be (k n : Nat) : num (be k n) = n % 256 ^ k := by
  induction k with
  | zero => simp [be, num, Nat.mod_one]
  | succ k ih =>
    rw [be, num_cons, be_length, ih, Nat.pow_succ, Nat.mul_comm (n / 256 ^ k % 256)]
    rw [Nat.mod_mul, Nat.add_comm]
theorem num_lt (l : List Nat) (h : Crc.Bytes l) : num l < 256 ^ l.length := by
  induction l with
  | nil => simp [num]
  | cons x l ih =>
    have h1 := h x (by simp)
    have h2 := ih (fun b hb => h b (by simp [hb]))
    rw [num_cons, List.length_cons, Nat.pow_succ]
    have : x * 256 ^ l.length ≤ 255 * 256 ^ l.length := Nat.mul_le_mul_right _ (by omega)
    omega

/-- A PDU. -/
structure PD where
  op : Int
  imm : Bool
  flags : Int
  info : Int
  wide : Int
  short : Int
  tag : Int
  word : Int
  num : Int
  exp : Int
  tail : List Nat
  data : List Nat
def zeros : Nat → List Nat := fun n => List.replicate n 0
def pdZero : PD := ⟨0, false, 0, 0, 0, 0, 0, 0, 0, 0, zeros 16, []⟩
def le4 (s : Nat) : List Nat := [s % 256, s / 256 % 256, s / 65536 % 256, s / 16777216 % 256]
def sumS (l : List Nat) : List Nat := le4 (Crc.more 0 l)
def fits (n : Int) (k : Nat) : Bool := decide (0 ≤ n) && decide (n < ((256 ^ k : Nat) : Int))
def may (p : PD) : Bool := fits p.tag 4 && fits p.word 4 && fits p.num 4 && fits p.exp 4 && decide (0 ≤ p.op) && decide (p.op ≤ 63) && fits p.flags 1 && fits p.info 2 && fits p.wide 6 && fits p.short 2 && decide (p.data.length ≤ 1024)
def pad4 (n : Nat) : Nat := (n + 3) / 4 * 4
def padded (l : List Nat) : List Nat := l ++ zeros (pad4 l.length - l.length)
def first (p : PD) : Nat := p.op.toNat + if p.imm then 64 else 0
def hdr (p : PD) : List Nat := be 1 (first p) ++ be 1 p.flags.toNat ++ be 2 p.info.toNat ++ be 1 0 ++ be 3 p.data.length ++ be 6 p.wide.toNat ++ be 2 p.short.toNat ++ be 4 p.tag.toNat ++ be 4 p.word.toNat ++ be 4 p.num.toNat ++ be 4 p.exp.toNat ++ p.tail
def headed (p : PD) (head : Bool) : List Nat := if head then hdr p ++ sumS (hdr p) else hdr p
def line (p : PD) (head data : Bool) : List Nat := headed p head ++ padded p.data ++ if data && decide (0 < p.data.length) then sumS (padded p.data) else []

def read (b : List Nat) : PD := ⟨((b.getD 0 0 % 64 : Nat) : Int), b.getD 0 0 / 64 % 2 == 1, numAt b 1 1, numAt b 2 2, numAt b 8 6, numAt b 14 2, numAt b 16 4, numAt b 20 4, numAt b 24 4, numAt b 28 4, (b.drop 32).take 16, []⟩
def off (head : Bool) : Nat := if head then 52 else 48
def ends (b : List Nat) (head data : Bool) : Nat := off head + pad4 (numAt b 5 3) + if data && decide (0 < numAt b 5 3) then 4 else 0
/-- What bytes are read as: the PDU, how many bytes it takes, the error. -/
def parse (b : List Nat) (head data : Bool) (most : Int) : PD × Nat × Int :=
  if most < 0 ∨ 1024 < most then (pdZero, 0, 1) else
  if b.length < off head then (pdZero, 0, 0) else
  if head = true ∧ (b.drop 48).take 4 ≠ sumS (b.take 48) then (pdZero, off head, 13) else
  if 128 ≤ b.getD 0 0 ∨ b.getD 4 0 ≠ 0 then (read b, off head, 40) else
  if most < (numAt b 5 3 : Int) then (read b, off head, 42) else
  if b.length < ends b head data then (pdZero, 0, 0) else
  if (data && decide (0 < numAt b 5 3)) = true ∧ (b.drop (off head + pad4 (numAt b 5 3))).take 4 ≠ sumS ((b.drop (off head)).take (pad4 (numAt b 5 3))) then (read b, ends b head data, 41) else
  ({ read b with data := (b.drop (off head)).take (numAt b 5 3) }, ends b head data, 0)

theorem le4_length (s : Nat) : (le4 s).length = 4 := rfl
theorem sumS_length (l : List Nat) : (sumS l).length = 4 := rfl
theorem sumS_bytes (l : List Nat) : Crc.Bytes (sumS l) := by
  intro b hb
  simp only [sumS, le4, List.mem_cons, List.not_mem_nil, or_false] at hb
  omega
theorem hdr_length (p : PD) (h : p.tail.length = 16) : (hdr p).length = 48 := by simp [hdr, be_length, h]
theorem padded_length (l : List Nat) : (padded l).length = pad4 l.length := by
  have : l.length ≤ pad4 l.length := by unfold pad4; omega
  simp [padded, zeros]; omega
theorem headed_length (p : PD) (head : Bool) (h : p.tail.length = 16) : (headed p head).length = off head := by
  unfold headed off
  cases head <;> simp [hdr_length p h, sumS_length]
theorem hdr_bytes (p : PD) (h : Crc.Bytes p.tail) : Crc.Bytes (hdr p) := by
  intro b hb
  simp only [hdr, List.mem_append] at hb
  rcases hb with ((((((((((hb | hb) | hb) | hb) | hb) | hb) | hb) | hb) | hb) | hb) | hb) | hb
  all_goals first | exact h b hb | exact be_bytes _ _ b hb
theorem bytes_append {a b : List Nat} (ha : Crc.Bytes a) (hb : Crc.Bytes b) : Crc.Bytes (a ++ b) := fun x hx => (List.mem_append.1 hx).elim (ha x) (hb x)
theorem padded_bytes {l : List Nat} (h : Crc.Bytes l) : Crc.Bytes (padded l) := bytes_append h fun b hb => by
  have := List.eq_of_mem_replicate hb
  omega
theorem line_bytes (p : PD) (head data : Bool) (h : Crc.Bytes p.tail) (hd : Crc.Bytes p.data) : Crc.Bytes (line p head data) := by
  unfold line headed
  refine bytes_append (bytes_append ?_ (padded_bytes hd)) ?_
  · cases head
    · exact hdr_bytes p h
    · exact bytes_append (hdr_bytes p h) (sumS_bytes _)
  · split
    · exact sumS_bytes _
    · intro b hb; simp at hb

theorem fits_mod {n : Int} {k : Nat} (h : fits n k = true) : ((n.toNat % 256 ^ k : Nat) : Int) = n := by
  simp only [fits, Bool.and_eq_true, decide_eq_true_eq] at h
  obtain ⟨h1, h2⟩ := h
  rw [Nat.mod_eq_of_lt (by omega)]
  omega
theorem first_read (p : PD) (h0 : 0 ≤ p.op) (h1 : p.op ≤ 63) : ((first p % 64 : Nat) : Int) = p.op ∧ (first p / 64 % 2 == 1) = p.imm ∧ first p < 128 := by
  unfold first
  cases p.imm
  · simp only [Bool.false_eq_true, if_false, beq_eq_false_iff_ne]; omega
  · simp only [if_true, beq_iff_eq]; omega
/-- What is read of a written header, whatever stands behind it. -/
theorem read_hdr (p : PD) (rest : List Nat) (ht : p.tail.length = 16) (hm : may p = true) : read (hdr p ++ rest) = { p with data := [] } ∧ numAt (hdr p ++ rest) 5 3 = p.data.length ∧ (hdr p ++ rest).getD 0 0 < 128 ∧ (hdr p ++ rest).getD 4 0 = 0 := by
  simp only [may, Bool.and_eq_true, decide_eq_true_eq] at hm
  obtain ⟨⟨⟨⟨⟨⟨⟨⟨⟨⟨m1, m2⟩, m3⟩, m4⟩, m5⟩, m6⟩, m7⟩, m8⟩, m9⟩, m10⟩, m11⟩ := hm
  have n1 : numAt (hdr p ++ rest) 1 1 = num (be 1 p.flags.toNat) := rfl
  have n2 : numAt (hdr p ++ rest) 2 2 = num (be 2 p.info.toNat) := rfl
  have n3 : numAt (hdr p ++ rest) 8 6 = num (be 6 p.wide.toNat) := rfl
  have n4 : numAt (hdr p ++ rest) 14 2 = num (be 2 p.short.toNat) := rfl
  have n5 : numAt (hdr p ++ rest) 16 4 = num (be 4 p.tag.toNat) := rfl
  have n6 : numAt (hdr p ++ rest) 20 4 = num (be 4 p.word.toNat) := rfl
  have n7 : numAt (hdr p ++ rest) 24 4 = num (be 4 p.num.toNat) := rfl
  have n8 : numAt (hdr p ++ rest) 28 4 = num (be 4 p.exp.toNat) := rfl
  have n9 : numAt (hdr p ++ rest) 5 3 = num (be 3 p.data.length) := rfl
  have g0 : (hdr p ++ rest).getD 0 0 = first p / 256 ^ 0 % 256 := rfl
  have g4 : (hdr p ++ rest).getD 4 0 = 0 / 256 ^ 0 % 256 := rfl
  have d32 : (hdr p ++ rest).drop 32 = p.tail ++ rest := rfl
  have hf : first p < 128 := (first_read p m5 m6).2.2
  have hg0 : (hdr p ++ rest).getD 0 0 = first p := by rw [g0]; omega
  refine ⟨?_, ?_, by omega, g4⟩
  · obtain ⟨op, imm, flags, info, wide, short, tag, word, nm, exp, tail, data⟩ := p
    unfold read
    rw [hg0, n1, n2, n3, n4, n5, n6, n7, n8, d32]
    simp only [num_be]
    obtain ⟨e0, e1, _⟩ := first_read ⟨op, imm, flags, info, wide, short, tag, word, nm, exp, tail, data⟩ m5 m6
    rw [e0, e1, fits_mod m7, fits_mod m8, fits_mod m9, fits_mod m10, fits_mod m1, fits_mod m2, fits_mod m3, fits_mod m4]
    dsimp only at ht
    have : (tail ++ rest).take 16 = tail := by
      rw [List.take_append_of_le_length (by omega)]
      exact List.take_of_length_le (by omega)
    rw [this]
  · rw [n9, num_be]
    exact Nat.mod_eq_of_lt (by omega)

/-- A PDU that was written is read again, whatever stands behind it. -/
theorem parse_line (p : PD) (head data : Bool) (behind : List Nat) (ht : p.tail.length = 16) (hm : may p = true) : parse (line p head data ++ behind) head data 1024 = (p, (line p head data).length, 0) := by
  have hd : p.data.length ≤ 1024 := by
    simp only [may, Bool.and_eq_true, decide_eq_true_eq] at hm; exact hm.2
  have hl := hdr_length p ht
  obtain ⟨R, hR⟩ : ∃ R, line p head data ++ behind = hdr p ++ R := by
    unfold line headed
    cases head
    · exact ⟨_, by simp only [Bool.false_eq_true, if_false, List.append_assoc]; rfl⟩
    · exact ⟨_, by simp only [if_true, List.append_assoc]; rfl⟩
  obtain ⟨r1, r2, r3, r4⟩ := read_hdr p R ht hm
  rw [← hR] at r1 r2 r3 r4
  have hlen : (line p head data).length = off head + pad4 p.data.length + if data && decide (0 < p.data.length) then 4 else 0 := by
    unfold line
    rw [List.length_append, List.length_append, headed_length p head ht, padded_length]
    split <;> simp [sumS_length]
  have hend : ends (line p head data ++ behind) head data = (line p head data).length := by unfold ends; rw [r2, hlen]
  have htk : (line p head data ++ behind).take 48 = hdr p := by
    rw [hR, List.take_append_of_le_length (by omega)]
    exact List.take_of_length_le (by omega)
  have hoff : (line p head data ++ behind).drop (off head) = padded p.data ++ ((if data && decide (0 < p.data.length) then sumS (padded p.data) else []) ++ behind) := by
    unfold line
    rw [List.append_assoc, List.append_assoc, List.drop_append_of_le_length (by rw [headed_length p head ht]; omega), List.drop_of_length_le (by rw [headed_length p head ht]; omega), List.nil_append]
  have hpl := padded_length p.data
  have hbody : ((line p head data ++ behind).drop (off head)).take (pad4 p.data.length) = padded p.data := by
    rw [hoff, List.take_append_of_le_length (by omega)]
    exact List.take_of_length_le (by omega)
  have hdat : ((line p head data ++ behind).drop (off head)).take p.data.length = p.data := by
    rw [hoff]
    unfold padded
    rw [List.append_assoc, List.take_append_of_le_length (by omega)]
    exact List.take_of_length_le (by omega)
  unfold parse
  rw [if_neg (by omega), if_neg (by rw [List.length_append, hlen]; omega), if_neg, if_neg (by omega), if_neg (by rw [r2]; omega), if_neg (by rw [hend, List.length_append]; omega), if_neg]
  · rw [r2, hdat, r1, hend]
  · rintro ⟨h1, h2⟩
    rw [r2] at h1 h2
    rw [hbody] at h2
    apply h2
    rw [← List.drop_drop, hoff, List.drop_append_of_le_length (by omega), List.drop_of_length_le (by omega), List.nil_append, if_pos h1, List.take_append_of_le_length (by simp [sumS_length])]
    exact List.take_of_length_le (by simp [sumS_length])
  · rintro ⟨h1, h2⟩
    apply h2
    rw [htk]
    unfold line headed
    rw [h1, if_pos rfl, List.append_assoc, List.append_assoc, List.append_assoc, List.drop_append_of_le_length (by omega), List.drop_of_length_le (by omega), List.nil_append, List.take_append_of_le_length (by simp [sumS_length])]
    exact List.take_of_length_le (by simp [sumS_length])
end Pdu
end Go.Proofs.Ytodmpchnjakchaa
