/-
  PDUs: what is read of the first bytes.
-/
import Derived.Test.YtodmpchnjakchaaPduParse
namespace Go.Proofs.Ytodmpchnjakchaa
namespace Pdu

theorem off_le (head : Bool) : 48 ≤ off head ∧ off head ≤ 52 := by unfold off; split <;> omega
theorem off_true : off true = 52 := rfl

/-- How far what is read reaches. -/
theorem parse_reach (b : List Nat) (head data : Bool) (most : Int) : (parse b head data most).2.1 ≤ b.length ∧ (parse b head data most).2.1 ≤ 1080 ∧ ((parse b head data most).2.1 = 0 ∨ off head ≤ (parse b head data most).2.1) := by
  have ho := off_le head
  unfold parse
  split
  · exact ⟨Nat.zero_le _, Nat.zero_le _, .inl rfl⟩
  · rename_i h1
    split
    · exact ⟨Nat.zero_le _, Nat.zero_le _, .inl rfl⟩
    · rename_i h2
      split
      · exact ⟨by show off head ≤ _; omega, by show off head ≤ _; omega, .inr (Nat.le_refl _)⟩
      · split
        · exact ⟨by show off head ≤ _; omega, by show off head ≤ _; omega, .inr (Nat.le_refl _)⟩
        · split
          · exact ⟨by show off head ≤ _; omega, by show off head ≤ _; omega, .inr (Nat.le_refl _)⟩
          · rename_i h5
            have he : off head ≤ ends b head data ∧ ends b head data ≤ 1080 := by
              unfold ends pad4
              split <;> omega
            split
            · exact ⟨Nat.zero_le _, Nat.zero_le _, .inl rfl⟩
            · rename_i h6
              split
              · exact ⟨by show ends b head data ≤ _; omega, he.2, .inr he.1⟩
              · exact ⟨by show ends b head data ≤ _; omega, he.2, .inr he.1⟩

theorem parse_data (b : List Nat) (head data : Bool) (most : Int) : (parse b head data most).1.data.length ≤ b.length := by
  unfold parse
  split
  · exact Nat.zero_le _
  · split
    · exact Nat.zero_le _
    · split
      · exact Nat.zero_le _
      · split
        · exact Nat.zero_le _
        · split
          · exact Nat.zero_le _
          · split
            · exact Nat.zero_le _
            · split
              · exact Nat.zero_le _
              · show ((b.drop (off head)).take (numAt b 5 3)).length ≤ b.length
                simp; omega
theorem parse_bad (b : List Nat) (head data : Bool) (most : Int) (h : most < 0 ∨ 1024 < most) : parse b head data most = (pdZero, 0, 1) := by unfold parse; rw [if_pos h]
theorem parse_code (b : List Nat) (head data : Bool) (most : Int) (h : ¬ (most < 0 ∨ 1024 < most)) : (parse b head data most).2.2 ≠ 1 := by
  unfold parse
  rw [if_neg h]
  split
  · show (0 : Int) ≠ 1; decide
  · split
    · show (13 : Int) ≠ 1; decide
    · split
      · show (40 : Int) ≠ 1; decide
      · split
        · show (42 : Int) ≠ 1; decide
        · split
          · show (0 : Int) ≠ 1; decide
          · split
            · show (41 : Int) ≠ 1; decide
            · show (0 : Int) ≠ 1; decide

theorem take_row (b : List Nat) (k a m : Nat) (h : a + m ≤ k) : ((b.take k).drop a).take m = (b.drop a).take m := by
  rw [List.drop_take, List.take_take, Nat.min_eq_left (by omega)]
theorem take_numAt (b : List Nat) (k a m : Nat) (h : a + m ≤ k) : numAt (b.take k) a m = numAt b a m := by unfold numAt; rw [take_row b k a m h]
theorem take_getD (b : List Nat) (k j : Nat) (h : j < k) : (b.take k).getD j 0 = b.getD j 0 := by
  simp [List.getD, h]
theorem take_read (b : List Nat) (k : Nat) (h : 48 ≤ k) : read (b.take k) = read b := by
  unfold read
  rw [take_getD b k 0 (by omega), take_numAt b k 1 1 (by omega), take_numAt b k 2 2 (by omega), take_numAt b k 8 6 (by omega), take_numAt b k 14 2 (by omega), take_numAt b k 16 4 (by omega), take_numAt b k 20 4 (by omega), take_numAt b k 24 4 (by omega), take_numAt b k 28 4 (by omega), take_row b k 32 16 (by omega)]
theorem take_ends (b : List Nat) (k : Nat) (head data : Bool) (h : 48 ≤ k) : ends (b.take k) head data = ends b head data := by
  unfold ends
  rw [take_numAt b k 5 3 (by omega)]

/-- What is taken of the first bytes is what is taken of all; else all of it is not there yet. -/
theorem parse_take (b : List Nat) (head data : Bool) (most : Int) (k : Nat) (hk : k ≤ b.length) (hm : ¬ (most < 0 ∨ 1024 < most)) :
    ((parse (b.take k) head data most).2.1 = 0 ∧ (parse (b.take k) head data most).2.2 = 0 ∧ ((parse b head data most).2.1 = 0 ∨ k < (parse b head data most).2.1)) ∨
      (parse (b.take k) head data most = parse b head data most ∧ (parse b head data most).2.1 ≠ 0) := by
  have hlen : (b.take k).length = k := by rw [List.length_take, Nat.min_eq_left hk]
  have ho := off_le head
  by_cases hko : k < off head
  · left
    have e : parse (b.take k) head data most = (pdZero, 0, 0) := by unfold parse; rw [if_neg hm, if_pos (by rw [hlen]; exact hko)]
    rw [e]
    refine ⟨rfl, rfl, ?_⟩
    rcases (parse_reach b head data most).2.2 with h | h
    · exact .inl h
    · exact .inr (by omega)
  · have t48 : (b.take k).take 48 = b.take 48 := by rw [List.take_take, Nat.min_eq_left (by omega)]
    have tsum : (head = true ∧ ((b.take k).drop 48).take 4 ≠ sumS ((b.take k).take 48)) = (head = true ∧ (b.drop 48).take 4 ≠ sumS (b.take 48)) := by
      rw [t48]
      cases head with
      | false => simp
      | true => rw [take_row b k 48 4 (by rw [off_true] at hko; omega)]
    have e : ∀ (x : Nat), parse (b.take k) head data most =
        (if head = true ∧ (b.drop 48).take 4 ≠ sumS (b.take 48) then (pdZero, off head, 13) else
         if 128 ≤ b.getD 0 0 ∨ b.getD 4 0 ≠ 0 then (read b, off head, 40) else
         if most < (numAt b 5 3 : Int) then (read b, off head, 42) else
         if k < ends b head data then (pdZero, 0, 0) else
         if (data && decide (0 < numAt b 5 3)) = true ∧ ((b.take k).drop (off head + pad4 (numAt b 5 3))).take 4 ≠ sumS (((b.take k).drop (off head)).take (pad4 (numAt b 5 3))) then (read b, ends b head data, 41) else
         ({ read b with data := ((b.take k).drop (off head)).take (numAt b 5 3) }, ends b head data, 0)) := fun _ => by
      unfold parse
      rw [if_neg hm, if_neg (by rw [hlen]; exact hko)]
      simp only [tsum]
      rw [take_getD b k 0 (by omega), take_getD b k 4 (by omega), take_numAt b k 5 3 (by omega), take_read b k (by omega), take_ends b k head data (by omega), hlen]
    have e' : parse b head data most =
        (if head = true ∧ (b.drop 48).take 4 ≠ sumS (b.take 48) then (pdZero, off head, 13) else
         if 128 ≤ b.getD 0 0 ∨ b.getD 4 0 ≠ 0 then (read b, off head, 40) else
         if most < (numAt b 5 3 : Int) then (read b, off head, 42) else
         if b.length < ends b head data then (pdZero, 0, 0) else
         if (data && decide (0 < numAt b 5 3)) = true ∧ (b.drop (off head + pad4 (numAt b 5 3))).take 4 ≠ sumS ((b.drop (off head)).take (pad4 (numAt b 5 3))) then (read b, ends b head data, 41) else
         ({ read b with data := (b.drop (off head)).take (numAt b 5 3) }, ends b head data, 0)) := by
      conv => lhs; unfold parse
      rw [if_neg hm, if_neg (by omega)]
    rw [e 0, e']
    clear e e' tsum
    split
    · exact .inr ⟨rfl, by show off head ≠ 0; omega⟩
    · split
      · exact .inr ⟨rfl, by show off head ≠ 0; omega⟩
      · split
        · exact .inr ⟨rfl, by show off head ≠ 0; omega⟩
        · by_cases hke : k < ends b head data
          · rw [if_pos hke]
            left
            refine ⟨rfl, rfl, ?_⟩
            split
            · exact .inl rfl
            · split
              · exact .inr hke
              · exact .inr hke
          · rw [if_neg hke, if_neg (show ¬ b.length < ends b head data by omega)]
            right
            have he0 : ends b head data ≠ 0 := by unfold ends; omega
            have hpe : off head + pad4 (numAt b 5 3) ≤ ends b head data := by unfold ends; omega
            have hle : numAt b 5 3 ≤ pad4 (numAt b 5 3) := by unfold pad4; omega
            rw [take_row b k (off head) (numAt b 5 3) (by omega), take_row b k (off head) (pad4 (numAt b 5 3)) (by omega)]
            by_cases hd : (data && decide (0 < numAt b 5 3)) = true
            · have h4 : off head + pad4 (numAt b 5 3) + 4 ≤ ends b head data := by unfold ends; rw [if_pos hd]; omega
              rw [take_row b k (off head + pad4 (numAt b 5 3)) 4 (by omega)]
              refine ⟨rfl, ?_⟩
              split <;> exact he0
            · simp only [hd]
              exact ⟨rfl, he0⟩
end Pdu
end Go.Proofs.Ytodmpchnjakchaa
