/-
  PDUs: the plain law of bursts of changed bits in a PDU with sums.
-/
import Derived.Test.YtodmpchnjakchaaPduPartsMath
import Derived.Test.YtodmpchnjakchaaCrcErrMath
namespace Go.Proofs.Ytodmpchnjakchaa
namespace Crc

/-- The bits in which two rows differ lie within 32 side by side. -/
def Near (a b : List Nat) : Prop := ∃ n, ∀ i, i < 8 * a.length → bitAt a i ≠ bitAt b i → n ≤ i ∧ i < n + 32

theorem bits_ext {a b : List Nat} (ha : Bytes a) (hb : Bytes b) (hl : b.length = a.length) (h : ∀ i, i < 8 * a.length → bitAt a i = bitAt b i) : a = b := by
  apply List.ext_getElem hl.symm
  intro j h1 h2
  have e1 : a.getD j 0 = a[j] := by simp [List.getD, h1]
  have e2 : b.getD j 0 = b[j] := by simp [List.getD, h2]
  have b1 : a[j] < 2 ^ 8 := ha _ (List.getElem_mem h1)
  have b2 : b[j] < 2 ^ 8 := hb _ (List.getElem_mem h2)
  apply Nat.eq_of_testBit_eq
  intro k
  by_cases hk : k < 8
  · have := h (8 * j + k) (by omega)
    unfold bitAt at this
    rw [show (8 * j + k) / 8 = j by omega, show (8 * j + k) % 8 = k by omega, e1, e2] at this
    exact this
  · rw [Nat.testBit_lt_two_pow (Nat.lt_of_lt_of_le b1 (Nat.pow_le_pow_right (by omega) (by omega))), Nat.testBit_lt_two_pow (Nat.lt_of_lt_of_le b2 (Nat.pow_le_pow_right (by omega) (by omega)))]

theorem of_bits : ∀ (k : Nat) (f : Nat → Bool), ∃ x, x < 2 ^ k ∧ ∀ j, j < k → x.testBit j = f j
  | 0, _ => ⟨0, by decide, fun j hj => by omega⟩
  | k + 1, f => by
    obtain ⟨x, hx, hf⟩ := of_bits k f
    cases hk : f k with
    | false =>
      refine ⟨x, by rw [Nat.pow_succ]; omega, fun j hj => ?_⟩
      rcases Nat.lt_or_eq_of_le (Nat.lt_succ_iff.1 hj) with h | h
      · exact hf j h
      · rw [h, hk]; exact Nat.testBit_lt_two_pow hx
    | true =>
      refine ⟨2 ^ k + x, by rw [Nat.pow_succ]; omega, fun j hj => ?_⟩
      rcases Nat.lt_or_eq_of_le (Nat.lt_succ_iff.1 hj) with h | h
      · rw [Nat.testBit_two_pow_add_gt h, hf j h]
      · rw [h, hk, Nat.testBit_two_pow_add_eq, Nat.testBit_lt_two_pow hx]; rfl
theorem Near.unlike {a b : List Nat} (h : Near a b) (hne : a ≠ b) (ha : Bytes a) (hb : Bytes b) (hl : b.length = a.length) : more 0 a ≠ more 0 b := by
  obtain ⟨n, hn⟩ := h
  obtain ⟨i0, hi0, hd0⟩ : ∃ i, i < 8 * a.length ∧ bitAt a i ≠ bitAt b i := by
    refine Classical.byContradiction fun hno => hne (bits_ext ha hb hl fun i hi => ?_)
    exact Classical.byContradiction fun hd => hno ⟨i, hi, hd⟩
  obtain ⟨q1, q2⟩ := hn i0 hi0 hd0
  have hk : min 32 (8 * a.length - n) ≤ 32 := by omega
  obtain ⟨k, hke⟩ : ∃ k, k = min 32 (8 * a.length - n) := ⟨_, rfl⟩
  obtain ⟨x, hx, hf⟩ := of_bits k (fun j => bitAt a (n + j) ^^ bitAt b (n + j))
  refine Crc.unlike a b n k (8 * a.length - n - k) x hl ha hb (by omega) (by omega) hx ?_ ?_
  · intro h0
    have := hf (i0 - n) (by omega)
    rw [h0, Nat.zero_testBit, show n + (i0 - n) = i0 by omega] at this
    apply hd0
    revert this
    generalize bitAt a i0 = u
    generalize bitAt b i0 = v
    cases u <;> cases v <;> simp
  · intro i hi
    by_cases hin : n ≤ i ∧ i < n + k
    · rw [decide_eq_true hin.1, decide_eq_true hin.2, hf (i - n) (by omega), show n + (i - n) = i by omega]
      cases bitAt a i <;> cases bitAt b i <;> rfl
    · have he : bitAt a i = bitAt b i := Classical.byContradiction fun hd => hin (by
        have := hn i hi hd
        omega)
      have : (decide (n ≤ i) && decide (i < n + k)) = false := by
        simp only [Bool.and_eq_false_iff, decide_eq_false_iff_not]
        omega
      rw [this, he]
      simp

theorem bitAt_left (a1 a2 : List Nat) (i : Nat) (h : i < 8 * a1.length) : bitAt (a1 ++ a2) i = bitAt a1 i := by
  unfold bitAt
  rw [show (a1 ++ a2).getD (i / 8) 0 = a1.getD (i / 8) 0 by
    have : i / 8 < a1.length := by omega
    simp [List.getD, List.getElem?_append_left this]]
theorem bitAt_right (a1 a2 : List Nat) (i : Nat) : bitAt (a1 ++ a2) (8 * a1.length + i) = bitAt a2 i := by
  unfold bitAt
  rw [show (8 * a1.length + i) / 8 = a1.length + i / 8 by omega, show (8 * a1.length + i) % 8 = i % 8 by omega]
  rw [show (a1 ++ a2).getD (a1.length + i / 8) 0 = a2.getD (i / 8) 0 by
    simp [List.getD, List.getElem?_append_right]]
theorem Near.left {a1 a2 b1 b2 : List Nat} (h : Near (a1 ++ a2) (b1 ++ b2)) (hl : b1.length = a1.length) : Near a1 b1 := by
  obtain ⟨n, hn⟩ := h
  refine ⟨n, fun i hi hd => hn i (by rw [List.length_append]; omega) ?_⟩
  rw [bitAt_left a1 a2 i hi, bitAt_left b1 b2 i (by omega)]
  exact hd
theorem Near.right {a1 a2 b1 b2 : List Nat} (h : Near (a1 ++ a2) (b1 ++ b2)) (hl : b1.length = a1.length) : Near a2 b2 := by
  obtain ⟨n, hn⟩ := h
  refine ⟨n - 8 * a1.length, fun i hi hd => ?_⟩
  have := hn (8 * a1.length + i) (by rw [List.length_append]; omega) (by
    rw [bitAt_right a1 a2 i, show 8 * a1.length = 8 * b1.length by omega, bitAt_right b1 b2 i]
    exact hd)
  omega
theorem Turned.near {a b : List Nat} {bit k change : Nat} {t : Bool} (h : Turned a b bit k change t) (hk : k ≤ 32) : Near a b := by
  refine ⟨bit, fun i hi hd => ?_⟩
  have := h.bits i hi
  by_cases hw : bit ≤ i ∧ i < bit + k
  · omega
  · have hz : (decide (bit ≤ i) && decide (i < bit + k)) = false := by
      simp only [Bool.and_eq_false_iff, decide_eq_false_iff_not]
      omega
    rw [hz] at this
    simp at this
    exact absurd this.symm hd
theorem Turned.differs {a b : List Nat} {bit k change : Nat} (h : Turned a b bit k change true) : a ≠ b := by
  obtain ⟨j, h1, h2, h3⟩ := h.any rfl
  intro e
  have := h.bits (bit + j) h2
  rw [← e, decide_eq_true (Nat.le_add_right _ _), decide_eq_true (by omega), show bit + j - bit = j by omega, h3] at this
  cases hb : bitAt a (bit + j) <;> simp [hb] at this

/-- What stands behind a sum that was fed too. -/
theorem low32 (s : Nat) : bitsOf (Pdu.le4 s) = low 32 s := by
  apply List.ext_getElem?
  intro i
  by_cases hi : i < 32
  · rw [bitsOf_get _ i (by show i < 8 * 4; omega)]
    have e1 : (low 32 s)[i]? = some (s.testBit i) := by simp [low, hi]
    rw [e1]
    congr 1
    unfold bitAt
    have hq : i / 8 = 0 ∨ i / 8 = 1 ∨ i / 8 = 2 ∨ i / 8 = 3 := by omega
    have key : ∀ m, (s / 2 ^ m % 2 ^ 8).testBit (i % 8) = s.testBit (m + i % 8) := fun m => by
      rw [Nat.testBit_mod_two_pow, decide_eq_true (show i % 8 < 8 by omega), Bool.true_and, Nat.testBit_div_two_pow]
      congr 1
      omega
    rcases hq with h | h | h | h
    · rw [h]
      have := key 0
      simp only [Nat.pow_zero, Nat.div_one] at this
      show (s % 256).testBit (i % 8) = _
      rw [show (256 : Nat) = 2 ^ 8 by decide, this]
      congr 1; omega
    · rw [h]
      show (s / 256 % 256).testBit (i % 8) = _
      have := key 8
      rw [show (2 : Nat) ^ 8 = 256 by decide] at this
      rw [this]
      congr 1; omega
    · rw [h]
      show (s / 65536 % 256).testBit (i % 8) = _
      have := key 16
      rw [show (2 : Nat) ^ 8 = 256 by decide, show (2 : Nat) ^ 16 = 65536 by decide] at this
      rw [this]
      congr 1; omega
    · rw [h]
      show (s / 16777216 % 256).testBit (i % 8) = _
      have := key 24
      rw [show (2 : Nat) ^ 8 = 256 by decide, show (2 : Nat) ^ 24 = 16777216 by decide] at this
      rw [this]
      congr 1; omega
  · rw [List.getElem?_eq_none (by rw [bitsOf_length]; show 8 * 4 ≤ i; omega), List.getElem?_eq_none (by simp [low]; omega)]
theorem more_summed (m : List Nat) (hm : Bytes m) : more 0 (m ++ Pdu.sumS m) = 4294967295 - stepN 32 4294967295 := by
  have hf := feed_lt m (c := 4294967295) (by omega) hm
  have e1 : more 0 m = 4294967295 - feed 4294967295 m := rfl
  have hs : more 0 m < 2 ^ 32 := by rw [e1]; omega
  unfold more
  simp only [Nat.sub_zero]
  rw [feed_append, feed_bits (Pdu.sumS m) _ (Pdu.sumS_bytes m)]
  unfold Pdu.sumS
  rw [low32, feedBits_low 32 _ _ hs, e1, compl_xor hf]
  congr 2
  generalize feed 4294967295 m = c
  rw [Nat.xor_comm 4294967295 c, ← Nat.xor_assoc, Nat.xor_self, Nat.zero_xor]
/-- A row with its sum that was changed so is told to be wrong. -/
theorem Near.told {m m' t' : List Nat} (h : Near (m ++ Pdu.sumS m) (m' ++ t')) (hm : Bytes m) (hm' : Bytes m') (ht' : Bytes t') (hl : (m' ++ t').length = (m ++ Pdu.sumS m).length) (hne : m ++ Pdu.sumS m ≠ m' ++ t') : t' ≠ Pdu.sumS m' := by
  intro e
  have h1 := h.unlike hne (Pdu.bytes_append hm (Pdu.sumS_bytes m)) (Pdu.bytes_append hm' ht') hl
  rw [e, more_summed m hm, more_summed m' hm'] at h1
  exact h1 rfl
end Crc
namespace Pdu

/-- A PDU with sums that was changed so is told to be wrong. -/
theorem parse_near (p : PD) (L : List Nat) (hm : may p = true) (ht : p.tail.length = 16) (hbt : Crc.Bytes p.tail) (hbd : Crc.Bytes p.data) (hL : Crc.Bytes L) (hl : L.length = (line p true true).length) (hn : Crc.Near (line p true true) L) (hne : line p true true ≠ L) :
    (parse L true true 1024).2.2 = 13 ∨ ((parse L true true 1024).2.2 = 41 ∧ (parse L true true 1024).1.data = []) := by
  have hd : p.data.length ≤ 1024 := by
    simp only [may, Bool.and_eq_true, decide_eq_true_eq] at hm; exact hm.2
  have hlh := hdr_length p ht
  have hpl := padded_length p.data
  obtain ⟨T, hT⟩ : ∃ T, T = (if true && decide (0 < p.data.length) then sumS (padded p.data) else []) := ⟨_, rfl⟩
  have hline : line p true true = (hdr p ++ sumS (hdr p)) ++ (padded p.data ++ T) := by
    unfold line headed
    rw [if_pos rfl, hT, List.append_assoc]
  have hlen : (line p true true).length = 52 + (padded p.data ++ T).length := by
    rw [hline, List.length_append, List.length_append, hlh, sumS_length]
  have hb52 : (L.take 52).length = 52 := by rw [List.length_take]; omega
  have hsplit : L = L.take 52 ++ L.drop 52 := (List.take_append_drop 52 L).symm
  have hl52 : (L.take 52).length = (hdr p ++ sumS (hdr p)).length := by rw [hb52, List.length_append, hlh, sumS_length]
  have hn' : Crc.Near ((hdr p ++ sumS (hdr p)) ++ (padded p.data ++ T)) (L.take 52 ++ L.drop 52) := by rw [← hline, ← hsplit]; exact hn
  have hcut : L.take 52 = L.take 48 ++ (L.drop 48).take 4 := by
    conv => lhs; rw [show (52 : Nat) = 48 + 4 from rfl]
    rw [List.take_add]
  by_cases h1 : hdr p ++ sumS (hdr p) = L.take 52
  · have h48 : L.take 48 = hdr p := by
      have e : (hdr p ++ sumS (hdr p)).take 48 = (L.take 52).take 48 := by rw [h1]
      rw [List.take_append_of_le_length (by omega), List.take_of_length_le (by omega), List.take_take] at e
      exact e.symm
    have hs4 : (L.drop 48).take 4 = sumS (hdr p) := by
      have e := h1
      rw [hcut, h48] at e
      exact (List.append_cancel_left e).symm
    have hL2 : L = hdr p ++ (sumS (hdr p) ++ L.drop 52) := by
      conv => lhs; rw [hsplit, ← h1]
      rw [List.append_assoc]
    obtain ⟨r1, r2, r3, r4⟩ := read_hdr p (sumS (hdr p) ++ L.drop 52) ht hm
    rw [← hL2] at r1 r2 r3 r4
    have hne2 : padded p.data ++ T ≠ L.drop 52 := fun e => hne (by rw [hline, e, h1]; exact hsplit.symm)
    have hd0 : 0 < p.data.length := by
      rcases Nat.eq_zero_or_pos p.data.length with h0 | h0
      · exfalso
        apply hne2
        have e1 : padded p.data ++ T = [] := by
          apply List.eq_nil_of_length_eq_zero
          rw [List.length_append, hpl, h0, hT, h0]
          rfl
        rw [e1] at hlen ⊢
        exact (List.eq_nil_of_length_eq_zero (by rw [List.length_drop]; simp at hlen; omega)).symm
      · exact h0
    have hT2 : T = sumS (padded p.data) := by rw [hT, if_pos (by simpa using hd0)]
    rw [hT2] at hne2 hn' hlen
    have hn2 := hn'.right hl52
    have hend : ends L true true = L.length := by
      unfold ends
      rw [r2, if_pos (by simpa using hd0), hl, hlen, List.length_append, hpl, sumS_length]
      show 52 + _ + 4 = _
      omega
    have hdl : (L.drop 52).length = pad4 p.data.length + 4 := by
      rw [List.length_drop, hl, hlen, List.length_append, hpl, sumS_length]; omega
    have hcut2 : L.drop 52 = (L.drop 52).take (pad4 p.data.length) ++ (L.drop (52 + pad4 p.data.length)).take 4 := by
      rw [← List.drop_drop]
      have e : ((L.drop 52).drop (pad4 p.data.length)).take 4 = (L.drop 52).drop (pad4 p.data.length) := List.take_of_length_le (by rw [List.length_drop]; omega)
      rw [e, List.take_append_drop]
    have htold : (L.drop (52 + pad4 p.data.length)).take 4 ≠ sumS ((L.drop 52).take (pad4 p.data.length)) := by
      have hsub : Crc.Bytes (L.drop 52) := fun b hb => hL b (List.mem_of_mem_drop hb)
      rw [hcut2] at hn2 hne2
      refine hn2.told (padded_bytes hbd) (fun b hb => hsub b (List.mem_of_mem_take hb)) (fun b hb => hL b (List.mem_of_mem_drop (List.mem_of_mem_take hb))) ?_ hne2
      rw [← hcut2, hdl, List.length_append, hpl, sumS_length]
    right
    have e : parse L true true 1024 = (read L, ends L true true, 41) := by
      unfold parse
      rw [if_neg (by omega), if_neg (by show ¬ L.length < 52; omega), if_neg (by rw [h48, hs4]; simp), if_neg (by omega), if_neg (by rw [r2]; omega), if_neg (by rw [hend]; omega), if_pos]
      rw [r2]
      exact ⟨by simpa using hd0, htold⟩
    rw [e]
    exact ⟨rfl, by rw [r1]⟩
  · left
    have hn1 := hn'.left hl52
    have htold : (L.drop 48).take 4 ≠ sumS (L.take 48) := by
      rw [hcut] at hn1 h1 hl52
      refine hn1.told (hdr_bytes p hbt) (fun b hb => hL b (List.mem_of_mem_take hb)) (fun b hb => hL b (List.mem_of_mem_drop (List.mem_of_mem_take hb))) hl52 h1
    have e : parse L true true 1024 = (pdZero, off true, 13) := by
      unfold parse
      rw [if_neg (by omega), if_neg (by show ¬ L.length < 52; omega), if_pos ⟨rfl, htold⟩]
    rw [e]
end Pdu
end Go.Proofs.Ytodmpchnjakchaa
