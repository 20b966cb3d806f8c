/-
  'ModelCommutes' returns true for every input, and each argument reads afterwards as before. No condition.
-/
import Derived.Test.YtmanldcohbegkaaMdCommutes
import Derived.Test.YtmanldcohbegkaaRows
import Derived.WalkKit
import Derived.ProofKit
import Derived.OpenShut
import Derived.ShutString
import Derived.ChangeOld
import Derived.Below
import Derived.SizedLaws
namespace Go.Proofs.Ytmanldcohbegkaa.modelCommutes
open Go.ChangeShapes Go.WideShapes Go.ChangeAt Go.RowKit
set_option linter.unusedVariables false

theorem own : ownKnob Try.prog.godebug = none := by kernel_rfl
theorem laidOut : laidOutB Try.prog = true := by kernel_rfl

set_option maxRecDepth 100000 in
theorem lifted (os : Os) (started : os.Started) (H : Type) (enc : TypeId × Value → H) :
    ReturnsInHanded {} Try.checked os 9 .any (Rows.modelCommutesSpec.pre6 enc Try.prog Try.f9 Rows.modelCommutesRow.domain false) (Rows.modelCommutesSpec.post enc Try.prog Try.f9 false true false false) := by
  refine returnsInHanded_of_change_sized (C := Try.checked) own started (by kernel_rfl) Try.func9
    (ChangeSpec.witness6 (enc := enc) (C := Try.checked) false ⟨#[], #[.slice none 0 0, .agg #[.int .i64 0, .int .i64 0, .int .i64 0, .bool false, .bool false, .int .i64 0, .int .i64 0, .int .i64 0, .int .i64 0, .int .i64 0, .slice none 0 0], .agg #[.int .i64 0, .int .i64 0, .int .i64 0, .bool false, .bool false, .int .i64 0, .int .i64 0, .int .i64 0, .int .i64 0, .int .i64 0, .slice none 0 0]], []⟩ 8 (by kernel_rfl) (by kernel_rfl) (by kernel_rfl) (by kernel_rfl)) ?_
  intro W base args ds gs before hval0 hW hcnd hsz0 _
  have hsz : (DataW.weightsEach Try.prog (Try.f9.params.toList ++ Rows.modelCommutesSpec.plain.varTypes Try.prog) (ds ++ gs)).all (· ≤ reachBytes) = true := hsz0
  clear hsz0
  have hval : ∀ (j : Nat) t v, Try.f9.params[j]? = some t → args[j]? = some v → Value.okWide Try.prog W .any base t v := hval0
  have hW' := hW
  obtain ⟨p, q, hA0, hV, rfl, hfz, hnd⟩ := hW
  have hA : DataW.TrodAll enc Try.prog W 0 (fun _ => true) true Try.f9.params.toList args.toList ds p := hA0
  rw [Try.params9] at hA hval hsz
  obtain ⟨v0, vs0, d0, ds0, p0, q0, hargs, rfl, rfl, h0, r0⟩ := trodAll_cons hA
  obtain ⟨v1, vs1, d1, ds1, p1, q1, rfl, rfl, rfl, h1, r1⟩ := trodAll_cons r0
  obtain ⟨v2, vs2, d2, ds2, p2, q2, rfl, rfl, rfl, h2, r2⟩ := trodAll_cons r1
  obtain ⟨rfl, rfl, rfl⟩ := trodAll_nil r2
  obtain rfl : args = #[v0, v1, v2] := by cases args; simp_all
  obtain ⟨rfl, rfl⟩ := trodVars_none hV
  have k0 := h0
  have lt0 : ∀ x ∈ p0, x.block < W.heap.size := by obtain ⟨m, hm⟩ := k0; exact DataW.trod_lt m _ _ _ hm
  obtain ⟨a0, n0, c0, rfl⟩ := okWide_slice Try.underlying22 (hval 0 22 v0 rfl rfl)
  obtain ⟨l0, ho0, hl0⟩ := asks_in h0 (fun k hk => by
    have := List.all_eq_true.1 hsz k (DataW.weights_mem_each (j := 0) (t := 22) (d := d0) rfl rfl k hk)
    simpa using this)
  have k1 := h1
  have lt1 : ∀ x ∈ p1, x.block < W.heap.size := by obtain ⟨m, hm⟩ := k1; exact DataW.trod_lt m _ _ _ hm
  obtain ⟨cs1, rfl, _⟩ := okWide_struct Try.underlying30 (hval 1 30 v1 rfl rfl)
  obtain ⟨f1, hf1⟩ := h1
  obtain ⟨t1, dv1, hcs1, ⟨hb1, ta1, tc1, hdv1, hdc1⟩, hdw1⟩ := task_in hf1
  obtain rfl : cs1 = t1.cells dv1 := by
    have e : cs1.toList = (t1.cells dv1).toList := hcs1
    exact Array.toList_inj.1 e
  have hdl1 : t1.data.length ≤ 140737488355328 := by
    rcases hdw1 with hdw | ⟨k, hk, hle⟩
    · rw [hdw]; simp
    · have := List.all_eq_true.1 hsz k (DataW.weights_mem_each (j := 1) (t := 30) (d := d1) rfl rfl k hk)
      have h1 : k ≤ reachBytes := by simpa using this
      unfold reachBytes at h1
      omega
  subst hdv1
  have k2 := h2
  have lt2 : ∀ x ∈ p2, x.block < W.heap.size := by obtain ⟨m, hm⟩ := k2; exact DataW.trod_lt m _ _ _ hm
  obtain ⟨cs2, rfl, _⟩ := okWide_struct Try.underlying30 (hval 2 30 v2 rfl rfl)
  obtain ⟨f2, hf2⟩ := h2
  obtain ⟨t2, dv2, hcs2, ⟨hb2, ta2, tc2, hdv2, hdc2⟩, hdw2⟩ := task_in hf2
  obtain rfl : cs2 = t2.cells dv2 := by
    have e : cs2.toList = (t2.cells dv2).toList := hcs2
    exact Array.toList_inj.1 e
  have hdl2 : t2.data.length ≤ 140737488355328 := by
    rcases hdw2 with hdw | ⟨k, hk, hle⟩
    · rw [hdw]; simp
    · have := List.all_eq_true.1 hsz k (DataW.weights_mem_each (j := 2) (t := 30) (d := d2) rfl rfl k hk)
      have h1 : k ≤ reachBytes := by simpa using this
      unfold reachBytes at h1
      omega
  subst hdv2
  clear hA0 hval0
  refine (commutes_law a0 n0 c0 l0 t1 ta1 _ tc1 t2 ta2 _ tc2 W ho0 hb1 rfl hdc1 hdl1 hb2 rfl hdc2 hdl2 hl0).mono fun e W' ⟨he, bel⟩ => ?_
  subst he
  exact ⟨_, rfl, _, _, _, [], _, [], hW', trodAll_mk1 (shut_bool Try.underlying4 _), (trodAll_cons_mk (Below.trod laidOut (by kernel_rfl) (of_decide_eq_true (by kernel_rfl)) k0 bel lt0) (trodAll_cons_mk (Below.trod laidOut (by kernel_rfl) (of_decide_eq_true (by kernel_rfl)) k1 bel lt1) (trodAll_cons_mk (Below.trod laidOut (by kernel_rfl) (of_decide_eq_true (by kernel_rfl)) k2 bel lt2) trodAll_mk0))), rfl, bel.frame _, fun h => by cases h⟩

theorem over : Rows.modelCommutesRow.holds Try.pinned (OpenSpec.ofChange Rows.modelCommutesSpec) :=
  OpenClaim.holds_of_wide 9 Try.f9 rfl rfl rfl rfl rfl rfl rfl ⟨rfl, rfl, rfl, rfl, rfl⟩ rfl rfl rfl rfl rfl (by kernel_rfl) Try.func9 (by kernel_rfl)
    (of_decide_eq_true (by kernel_rfl)) (by unfold Func.isWrapper; first | (rw [if_pos (by decide +kernel)]; kernel_rfl) | (rw [if_neg (by decide +kernel)]; exact ⟨rfl, rfl⟩))
    (fun os started H enc _ => lifted os started H enc)

theorem proved : Rows.ModelCommutesSaid := over
#print axioms proved
end Go.Proofs.Ytmanldcohbegkaa.modelCommutes
