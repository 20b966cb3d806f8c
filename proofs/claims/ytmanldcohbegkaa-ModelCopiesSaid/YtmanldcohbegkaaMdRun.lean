/-
  The model's laws: what a row of asks makes of a model; a third model beside two.
-/
import Derived.Test.YtmanldcohbegkaaMdBox
import Derived.Test.YtmanldcohbegkaaMdOwnOp
namespace Go.Proofs.Ytmanldcohbegkaa
open Go.RowKit

def runS (S : Mo) (l : List AskV) : Mo := l.foldl (fun S y => (doS S y.t y.st y.dn).2) S
theorem runS_zero (S : Mo) (l : List AskV) : runS S (l.take 0) = S := by simp [runS]
theorem runS_next (S : Mo) (l : List AskV) (k : Nat) (y : AskV) (h : l[k]? = some y) : (doS (runS S (l.take k)) y.t y.st y.dn).2 = runS S (l.take (k + 1)) := by
  have e : l.take (k + 1) = l.take k ++ [y] := by
    rw [List.take_add_one, h]; rfl
  rw [e]
  unfold runS
  rw [List.foldl_append]
  rfl
theorem Good.runS {S : Mo} (h : Good S) (l : List AskV) : Good (runS S l) := by
  induction l generalizing S with
  | nil => exact h
  | cons y l ih => exact ih (h.doS y.t y.st y.dn)
theorem Kp.model {B : Nat} {G : Nat → Prop} {w w' : World} {c : Nat} {R : Mo} {W : Nat → Prop} (h : Kp B G w w') (hm : ModelAt w c R W) (hG : ∀ x, W x → G x) : ModelAt w' c R W := by
  obtain ⟨F, hk, h1, h2⟩ := h
  exact hm.keeps hk (fun x hx hf => (h1 x hf).2 (hG x hx)) h2
end Go.Proofs.Ytmanldcohbegkaa
