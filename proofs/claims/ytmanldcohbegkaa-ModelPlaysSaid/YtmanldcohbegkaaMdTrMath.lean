/-
  The model's law on trouble: what Do comes to.
-/
import Derived.Test.YtmanldcohbegkaaMdGood
namespace Go.Proofs.Ytmanldcohbegkaa
open Go.RowKit

theorem refuse_not20 (S : Mo) (t : Tk) (lost : Bool) : refuseS S t lost ≠ 20 := by
  unfold refuseS
  repeat (split; · decide)
  decide
theorem wrS_status (q a : Int) : ∀ (xs : List (List Nat)) (k : Nat) (bl : List (Int × List Nat)), (wrS q a xs k bl).2.2 = 30 ∨ ((wrS q a xs k bl).2.2 = 0 ∧ (wrS q a xs k bl).2.1 = k + xs.length)
  | [], k, bl => .inr ⟨rfl, by simp [wrS]⟩
  | x :: xs, k, bl => by
    unfold wrS
    split
    · exact .inl rfl
    · rcases wrS_status q a xs (k + 1) (putAt (a + k) x bl) with h | ⟨h1, h2⟩
      · exact .inl h
      · exact .inr ⟨h1, by rw [h2, List.length_cons]; omega⟩
theorem block_status {S : Mo} {t : Tk} {n : Nat} : (blockS S t n).1.2 = 30 ∨ ((blockS S t n).1.2 = 0 ∧ (blockS S t n).1.1 = n) := by
  unfold blockS
  split
  · exact .inr ⟨rfl, rfl⟩
  · split
    · rcases wrS_status _ t.lba (pieces t.data n) 0 _ with h | ⟨h1, h2⟩
      · exact .inl h
      · refine .inr ⟨h1, ?_⟩
        have : (pieces t.data n).length = n := by simp [pieces]
        rw [this, Nat.zero_add] at h2
        exact h2
    · exact .inr ⟨rfl, rfl⟩
theorem trouble20 (op : Int) : troubleB op 20 = (op != 1 && op != 10) := by
  unfold troubleB; simp [badList]
theorem trouble12 (op : Int) : troubleB op 12 = (op != 1 && op != 10) := by
  unfold troubleB; simp [badList]
theorem trouble0 (op : Int) : troubleB op 0 = false := by
  unfold troubleB; simp [badList]
theorem doS_form (S : Mo) (t : Tk) (status done : Int) (bad lost : Bool) (hb : troubleB t.op status = bad) (hl : (bad && decide (status ≠ 12)) = lost) :
    doS S t status done = (if refuseS S t lost ≠ 0 then (⟨t.cmd, t.tag, refuseS S t lost, 0, []⟩, S)
      else if t.op = 3 ∨ t.op = 5 then (⟨t.cmd, t.tag, if bad ∧ (blockS S t (if lost then min (max done 0) t.cnt else t.cnt).toNat).1.2 = 0 then status else (blockS S t (if lost then min (max done 0) t.cnt else t.cnt).toNat).1.2, (blockS S t (if lost then min (max done 0) t.cnt else t.cnt).toNat).1.1, []⟩, (blockS S t (if lost then min (max done 0) t.cnt else t.cnt).toNat).2)
      else if lost then (⟨t.cmd, t.tag, status, 0, []⟩, S)
      else if bad then (⟨t.cmd, t.tag, status, 0, []⟩, (changeS S t).2) else (⟨t.cmd, t.tag, 0, 0, (changeS S t).1⟩, (changeS S t).2)) := by
  subst hb hl
  rfl
/-- What is no blocks' is told trouble, and nothing is done. -/
theorem tr_other (S : Mo) (t : Tk) (done : Int) (h3 : t.op ≠ 3) (h5 : t.op ≠ 5) (h1 : t.op ≠ 1) (h10 : t.op ≠ 10) : (doS S t 20 done).1.st ≠ 0 ∧ (doS S t 20 done).1.dn = 0 ∧ (doS S t 20 done).1.data = [] ∧ (doS S t 20 done).2 = S := by
  rw [doS_form S t 20 done true true (by rw [trouble20]; simp [h1, h10]) rfl]
  by_cases hr : refuseS S t true = 0
  · rw [if_neg (by simpa using hr), if_neg (by simp [h3, h5])]
    simp
  · rw [if_pos (by simpa using hr)]
    exact ⟨hr, rfl, rfl, rfl⟩
/-- Blocks: as many as were done. -/
theorem tr_blocks (S : Mo) (t : Tk) (done : Int) (h35 : t.op = 3 ∨ t.op = 5) (hs : (doS S t 20 done).1.st = 20) : (doS S t 20 done).1.dn = min (max done 0) t.cnt := by
  rw [doS_form S t 20 done true true (by rw [trouble20]; rcases h35 with e | e <;> simp [e]) rfl] at hs ⊢
  by_cases hr : refuseS S t true = 0
  · rw [if_neg (by simpa using hr), if_pos h35] at hs ⊢
    obtain ⟨i, v, hat, c1, c2, _⟩ := refuse_blocks hr (h35.elim (fun e => .inl e) (fun e => .inr (.inr e)))
    simp only [if_true] at hs ⊢
    simp at hs ⊢
    rcases block_status (S := S) (t := t) (n := (min (max done 0) t.cnt).toNat) with h | ⟨h1, h2⟩
    · rw [h] at hs; simp at hs
    · rw [h2]; omega
  · rw [if_pos (by simpa using hr)] at hs
    exact absurd hs (refuse_not20 _ _ _)
/-- Told by ErrFlush, it is as done. -/
theorem tr_flush (S : Mo) (t : Tk) (done : Int) : (doS S t 12 done).2 = (doS S t 0 0).2 ∧ (doS S t 12 done).1.dn = (doS S t 0 0).1.dn ∧ ((doS S t 0 0).1.st = 0 ∨ (doS S t 12 done).1.st = (doS S t 0 0).1.st) := by
  obtain ⟨bad, hb⟩ : ∃ bad, troubleB t.op 12 = bad := ⟨_, rfl⟩
  rw [doS_form S t 12 done bad false hb (by simp), doS_form S t 0 0 false false (trouble0 _) rfl]
  by_cases hr : refuseS S t false = 0
  · by_cases h35 : t.op = 3 ∨ t.op = 5
    · by_cases hs : (blockS S t t.cnt.toNat).1.2 = 0
      · cases bad <;> simp [hr, h35, hs]
      · cases bad <;> simp [hr, h35, hs]
    · cases bad <;> simp [hr, h35]
  · simp [hr]
end Go.Proofs.Ytmanldcohbegkaa
