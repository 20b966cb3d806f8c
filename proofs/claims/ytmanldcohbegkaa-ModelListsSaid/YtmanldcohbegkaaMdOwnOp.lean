/-
  ModelCommutes: the calls. (Written by gen_mdcommutes.py.)
-/
import Derived.Test.YtmanldcohbegkaaMdDuo
import Derived.Test.YtmanldcohbegkaaMdCoMath
namespace Go.Proofs.Ytmanldcohbegkaa
open Go.RowKit

def rdTk (id y : Int) : Tk := ⟨0, 0, 2, false, false, id, y, 1, 0, 0, []⟩
instance (op : Int) : Decidable (ownOp op) := by unfold ownOp; infer_instance
set_option maxRecDepth 100000 in
set_option maxHeartbeats 3200000 in
theorem own_any (t : Tk) (dv : Value) (w : World) : Calls Try.prog 20 #[.agg (t.cells dv)] w fun e w' => e = .returned (.bool (decide (ownOp t.op))) ∧ Below w.heap.size w w' := by
  have c0 := fun j => (CellsAt.new w (t.cells dv) 30).cell j
  have e2 := c0 2
  clear c0
  unfold Tk.cells at e2 ⊢
  simp only [List.getElem?_toArray, List.getElem?_cons_zero, List.getElem?_cons_succ] at e2
  have hb := Lib.hid (allocBelow w (.cells (t.cells dv) 30))
  obtain ⟨r, hr⟩ : ∃ r, r = decide (ownOp t.op) := ⟨_, rfl⟩
  rw [← hr]
  have HR := Lib.hid hr; clear hr
  by_cases o2 : t.op = 2
  · have hl : r = true := by rw [HR.out]; simp [ownOp, o2]
    have b2 : (t.op == 2) = true := by simp [o2]
    have HL := Lib.hid hl; clear hl o2
    go_enter Try.func20, Try.ntmps20
    go_wp2_with fail
    go_ret
    exact ⟨by rw [HL.out]; rfl, hb.out⟩
  have b2 : (t.op == 2) = false := by simp [o2]
  by_cases o3 : t.op = 3
  · have hl : r = true := by rw [HR.out]; simp [ownOp, o3]
    have b3 : (t.op == 3) = true := by simp [o3]
    have HL := Lib.hid hl; clear hl o3 o2
    go_enter Try.func20, Try.ntmps20
    go_wp2_with fail
    go_ret
    exact ⟨by rw [HL.out]; rfl, hb.out⟩
  have b3 : (t.op == 3) = false := by simp [o3]
  by_cases o5 : t.op = 5
  · have hl : r = true := by rw [HR.out]; simp [ownOp, o5]
    have b5 : (t.op == 5) = true := by simp [o5]
    have HL := Lib.hid hl; clear hl o5 o3 o2
    go_enter Try.func20, Try.ntmps20
    go_wp2_with fail
    go_ret
    exact ⟨by rw [HL.out]; rfl, hb.out⟩
  have b5 : (t.op == 5) = false := by simp [o5]
  have hl : r = (t.op == 9) := by rw [HR.out]; simp [ownOp, o2, o3, o5]; rfl
  have HL := Lib.hid hl; clear hl o5 o3 o2
  go_enter Try.func20, Try.ntmps20
  go_wp2_with fail
  go_ret
  exact ⟨by rw [HL.out]; rfl, hb.out⟩
end Go.Proofs.Ytmanldcohbegkaa
