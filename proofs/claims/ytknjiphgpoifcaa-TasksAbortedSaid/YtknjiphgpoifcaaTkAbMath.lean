/-
  The plain law of TasksAborted: two queues, one of which a task is taken back from.
-/
import Derived.Test.YtknjiphgpoifcaaTkOrdMath
namespace Go.Proofs.Ytknjiphgpoifcaa
open Go.RowKit

def tkAb (o : Nat → Bool) (i : Nat) : Tk := ⟨i, 100 + (i : Int), 0, o i, false, 0, 0, 0, 0, 0, []⟩
def abA (o : Nat → Bool) (n : Nat) : St := (List.range n).map fun i => (tkAb o i, false)
def abB (o : Nat → Bool) (k n : Nat) : St := ((List.range n).filter fun i => i != k).map fun i => (tkAb o i, false)

theorem ab_putE (o : Nat → Bool) (L : List Nat) (n : Nat) (h : ∀ i ∈ L, i < n) (hl : L.length < 8) : sPutE 8 (L.map fun i => (tkAb o i, false)) (tkAb o n) = 0 := by
  unfold sPutE
  rw [if_neg, if_neg]
  · simp; omega
  · simp only [List.any_map, List.any_eq_true, not_exists, not_and]
    intro x hx
    have := h x hx
    simp [tkAb]
    omega
theorem abA_put (o : Nat → Bool) (n : Nat) (h : n < 8) : sPutE 8 (abA o n) (tkAb o n) = 0 ∧ sPut 8 (abA o n) (tkAb o n) = abA o (n + 1) := by
  have e : sPutE 8 (abA o n) (tkAb o n) = 0 := ab_putE o (List.range n) n (fun i hi => by simpa using hi) (by simpa using h)
  refine ⟨e, ?_⟩
  unfold sPut
  rw [if_pos e]
  simp [abA, List.range_succ]
theorem abB_put (o : Nat → Bool) (k n : Nat) (h : n < 8) (hk : n ≠ k) : sPutE 8 (abB o k n) (tkAb o n) = 0 ∧ sPut 8 (abB o k n) (tkAb o n) = abB o k (n + 1) := by
  have e : sPutE 8 (abB o k n) (tkAb o n) = 0 := ab_putE o ((List.range n).filter fun i => i != k) n (fun i hi => by simp at hi; exact hi.1) (by
    have := List.length_filter_le (fun i => i != k) (List.range n)
    simp at this
    omega)
  refine ⟨e, ?_⟩
  unfold sPut
  rw [if_pos e]
  simp [abB, List.range_succ, List.filter_append, hk]
theorem abB_skip (o : Nat → Bool) (k : Nat) : abB o k (k + 1) = abB o k k := by
  simp [abB, List.range_succ, List.filter_append]
theorem erase_map {α β : Type} (f : α → β) (l : List α) : ∀ k, (l.map f).eraseIdx k = (l.eraseIdx k).map f := by
  induction l with
  | nil => intro k; rfl
  | cons x l ih => intro k; cases k with
    | zero => rfl
    | succ k => simp only [List.eraseIdx_cons_succ, List.map_cons, ih]
theorem abA_abort (o : Nat → Bool) (k n : Nat) (h : k < n) : sAbort (abA o n) (100 + (k : Int)) = (true, abB o k n) := by
  have hf : (abA o n).findIdx? (fun e => !e.2 && e.1.tag == (100 + (k : Int))) = some k := by
    rw [List.findIdx?_eq_some_iff_getElem]
    refine ⟨by simpa [abA] using h, by simp [abA, tkAb], fun j hj => ?_⟩
    simp [abA, tkAb]
    omega
  unfold sAbort
  rw [hf]
  have e : (abA o n).eraseIdx k = abB o k n := by
    unfold abA abB
    rw [← eraseIdx_filter (List.range n) k k List.nodup_range (by simp [h])]
    exact erase_map _ _ _
  simp only [e]
theorem abB_abort (o : Nat → Bool) (k n : Nat) : sAbort (abB o k n) (100 + (k : Int)) = (false, abB o k n) := by
  have hf : (abB o k n).findIdx? (fun e => !e.2 && e.1.tag == (100 + (k : Int))) = none := by
    rw [List.findIdx?_eq_none_iff]
    intro x hx
    simp [abB] at hx
    obtain ⟨i, ⟨_, h⟩, rfl⟩ := hx
    simp [tkAb]
    omega
  unfold sAbort
  rw [hf]
theorem abort_nil (x : Int) : sAbort [] x = (false, []) := rfl
end Go.Proofs.Ytknjiphgpoifcaa
