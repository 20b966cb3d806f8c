/-
  The model: refusal, joined. (Written by gen_mdrefusej.py.)
-/
import Derived.Test.YtmanldcohbegkaaMdRefuseA
import Derived.Test.YtmanldcohbegkaaMdRefuseZ
namespace Go.Proofs.Ytmanldcohbegkaa
open Go.RowKit
set_option linter.unusedVariables false
set_option linter.unusedSimpArgs false

set_option maxRecDepth 100000 in
set_option maxHeartbeats 6400000 in
theorem rf_op0 (m : Nat) (t : Tk) (dv : Value) (lost : Bool) (w : World) (c0 : decide (t.op < 1) = true) :
    Calls Try.prog 23 #[.pointer (some ⟨m, 0, none⟩), .agg (t.cells dv), .bool lost] w fun e w' => e = .returned (.int .i64 50) ∧ Below w.heap.size w w' := by
  have hb1 : Below w.heap.size w (w.alloc (.cells (t.cells dv) 30)) := allocBelow w _
  have c0 := fun j => (CellsAt.new w (t.cells dv) 30).cell j
  have e2 := c0 2
  clear c0
  have HB1 := Lib.hid hb1; clear hb1
  unfold Tk.cells at e2 HB1 ⊢
  simp only [List.getElem?_toArray, List.getElem?_cons_zero, List.getElem?_cons_succ] at e2
  go_enter Try.func23, Try.ntmps23
  go_wp2_with fail
  go_ret
  exact ⟨rfl, HB1.out⟩
set_option maxRecDepth 100000 in
set_option maxHeartbeats 6400000 in
theorem rf_op1 (m : Nat) (t : Tk) (dv : Value) (lost : Bool) (w : World) (c0 : decide (t.op < 1) = false) (c1 : decide (10 < t.op) = true) :
    Calls Try.prog 23 #[.pointer (some ⟨m, 0, none⟩), .agg (t.cells dv), .bool lost] w fun e w' => e = .returned (.int .i64 50) ∧ Below w.heap.size w w' := by
  have hb1 : Below w.heap.size w (w.alloc (.cells (t.cells dv) 30)) := allocBelow w _
  have c0 := fun j => (CellsAt.new w (t.cells dv) 30).cell j
  have e2 := c0 2
  clear c0
  have HB1 := Lib.hid hb1; clear hb1
  unfold Tk.cells at e2 HB1 ⊢
  simp only [List.getElem?_toArray, List.getElem?_cons_zero, List.getElem?_cons_succ] at e2
  go_enter Try.func23, Try.ntmps23
  go_wp2_with fail
  go_ret
  exact ⟨rfl, HB1.out⟩
theorem atPtr [Zs] {w : World} {m : Nat} {rv : Value} {ps : List (Nat × Nat)} {S : Mo} (h : ModelIs w m rv ps S) {id : Int} {i : Nat} {v : Vo} (hat : S.at id = some (i, v)) : ∃ p b, ps[i]? = some (p, b) := by
  have h1 := (List.getElem?_eq_some_iff.1 (Mo.at_some hat).2).1
  rw [← h.len] at h1
  exact ⟨ps[i].1, ps[i].2, by simp [h1]⟩
set_option maxHeartbeats 6400000 in
theorem refuse_any [Zs] (m : Nat) (rv : Value) (ps : List (Nat × Nat)) (S : Mo) (t : Tk) (da : Option Addr) (dc : Nat) (lost : Bool) (w : World) (h : ModelIs w m rv ps S) (hlen : ps.length ≤ 8) (hdb : (t.data.length : Int) < 1000000000000000) (hsz : ∀ v ∈ S.vols, 0 ≤ v.size ∧ v.size ≤ 1048576) :
    Calls Try.prog 23 #[.pointer (some ⟨m, 0, none⟩), .agg (t.cells (.slice da t.data.length dc)), .bool lost] w fun e w' => e = .returned (.int .i64 (refuseS S t lost)) ∧ Below w.heap.size w w' := by
  by_cases h50 : t.op < 1 ∨ 10 < t.op
  · have e : refuseS S t lost = 50 := by unfold refuseS; rw [if_pos h50]
    rw [e]
    by_cases c0 : t.op < 1
    · exact rf_op0 m t _ lost w (decide_eq_true c0)
    · exact rf_op1 m t _ lost w (decide_eq_false c0) (decide_eq_true (by omega))
  have hops : t.op = 1 ∨ t.op = 2 ∨ t.op = 3 ∨ t.op = 4 ∨ t.op = 5 ∨ t.op = 6 ∨ t.op = 7 ∨ t.op = 8 ∨ t.op = 9 ∨ t.op = 10 := by omega
  clear h50
  rcases hops with hop | hop | hop | hop | hop | hop | hop | hop | hop | hop
  · skip
    have e : refuseS S t lost = 0 := by simp [refuseS, hop, isBlocks, ]
    rw [e]
    exact rf_n1_ok m rv ps S t da t.data.length dc lost w h hlen hop 
  · skip
    cases hat : S.at t.vol with
    | none =>
      have e : refuseS S t lost = 31 := by simp [refuseS, hop, isBlocks, hat]
      rw [e]
      exact rf_r_none m rv ps S t da t.data.length dc lost w h hlen hop hat 
    | some q =>
      obtain ⟨i, v⟩ := q
      obtain ⟨p, b, hp⟩ : ∃ p b, ps[i]? = some (p, b) := atPtr h hat
      obtain ⟨s0, s1⟩ := hsz v (List.mem_of_getElem? (Mo.at_some hat).2)
      by_cases c1 : t.cnt < 1
      · skip
        have e : refuseS S t lost = 1 := by simp [refuseS, hop, isBlocks, hat, c1]
        rw [e]
        exact rf_r_cnt1 m rv ps S t da t.data.length dc lost w h hlen hop i p b v hat hp  (decide_eq_true c1)
      by_cases c2 : 8 < t.cnt
      · skip
        have e : refuseS S t lost = 1 := by simp [refuseS, hop, isBlocks, hat, c1, c2]
        rw [e]
        exact rf_r_cnt2 m rv ps S t da t.data.length dc lost w h hlen hop i p b v hat hp  (decide_eq_false c1) (decide_eq_true c2)
      by_cases l0 : t.lba < 0
      · skip
        have e : refuseS S t lost = 34 := by simp [refuseS, hop, isBlocks, hat, c1, c2, beyondB, l0]
        rw [e]
        exact rf_r_lba0 m rv ps S t da t.data.length dc lost w h hlen hop i p b v hat hp  (decide_eq_false c1) (decide_eq_false c2) (decide_eq_true l0)
      by_cases l1 : v.size ≤ t.lba
      · skip
        have e : refuseS S t lost = 34 := by simp [refuseS, hop, isBlocks, hat, c1, c2, beyondB, l0, l1]
        rw [e]
        exact rf_r_lba1 m rv ps S t da t.data.length dc lost w h hlen hop i p b v hat hp  (decide_eq_false c1) (decide_eq_false c2) (decide_eq_false l0) (decide_eq_true l1)
      have hwr : IntKind.i64.wrap (v.size - t.lba) = v.size - t.lba := IntWalk.i64_in _ (by omega)
      by_cases l2 : v.size - t.lba < t.cnt
      · skip
        have e : refuseS S t lost = 34 := by simp [refuseS, hop, isBlocks, hat, c1, c2, beyondB, l0, l1, l2]
        rw [e]
        exact rf_r_lba2 m rv ps S t da t.data.length dc lost w h hlen hop i p b v hat hp hwr  (decide_eq_false c1) (decide_eq_false c2) (decide_eq_false l0) (decide_eq_false l1) (decide_eq_true l2)
      have e : refuseS S t lost = 0 := by simp [refuseS, hop, isBlocks, hat, c1, c2, beyondB, l0, l1, l2]
      rw [e]
      exact rf_r_ok m rv ps S t da t.data.length dc lost w h hlen hop i p b v hat hp hwr  (decide_eq_false c1) (decide_eq_false c2) (decide_eq_false l0) (decide_eq_false l1) (decide_eq_false l2)
  · skip
    by_cases d1 : (t.data.length : Int) % 64 = 0
    rotate_left
    · skip
      have e : refuseS S t lost = 1 := by simp [refuseS, hop, isBlocks, d1]
      rw [e]
      exact rf_w_arg1 m rv ps S t da t.data.length dc lost w h hlen hop _ hdb rfl (by simpa using d1)
    by_cases d2 : (t.data.length : Int) / 64 = t.cnt
    rotate_left
    · skip
      have e : refuseS S t lost = 1 := by simp [refuseS, hop, isBlocks, d1, d2]
      rw [e]
      exact rf_w_arg2 m rv ps S t da t.data.length dc lost w h hlen hop _ hdb d1 rfl (by simpa using d2)
    cases hat : S.at t.vol with
    | none =>
      have e : refuseS S t lost = 31 := by simp [refuseS, hop, isBlocks, hat, d1, d2]
      rw [e]
      exact rf_w_none m rv ps S t da t.data.length dc lost w h hlen hop hat hdb d1 d2
    | some q =>
      obtain ⟨i, v⟩ := q
      obtain ⟨p, b, hp⟩ : ∃ p b, ps[i]? = some (p, b) := atPtr h hat
      obtain ⟨s0, s1⟩ := hsz v (List.mem_of_getElem? (Mo.at_some hat).2)
      by_cases c1 : t.cnt < 1
      · skip
        have e : refuseS S t lost = 1 := by simp [refuseS, hop, isBlocks, hat, c1, d1, d2]
        rw [e]
        exact rf_w_cnt1 m rv ps S t da t.data.length dc lost w h hlen hop i p b v hat hp hdb d1 d2 (decide_eq_true c1)
      by_cases c2 : 8 < t.cnt
      · skip
        have e : refuseS S t lost = 1 := by simp [refuseS, hop, isBlocks, hat, c1, c2, d1, d2]
        rw [e]
        exact rf_w_cnt2 m rv ps S t da t.data.length dc lost w h hlen hop i p b v hat hp hdb d1 d2 (decide_eq_false c1) (decide_eq_true c2)
      by_cases l0 : t.lba < 0
      · skip
        have e : refuseS S t lost = 34 := by simp [refuseS, hop, isBlocks, hat, c1, c2, beyondB, l0, d1, d2]
        rw [e]
        exact rf_w_lba0 m rv ps S t da t.data.length dc lost w h hlen hop i p b v hat hp hdb d1 d2 (decide_eq_false c1) (decide_eq_false c2) (decide_eq_true l0)
      by_cases l1 : v.size ≤ t.lba
      · skip
        have e : refuseS S t lost = 34 := by simp [refuseS, hop, isBlocks, hat, c1, c2, beyondB, l0, l1, d1, d2]
        rw [e]
        exact rf_w_lba1 m rv ps S t da t.data.length dc lost w h hlen hop i p b v hat hp hdb d1 d2 (decide_eq_false c1) (decide_eq_false c2) (decide_eq_false l0) (decide_eq_true l1)
      have hwr : IntKind.i64.wrap (v.size - t.lba) = v.size - t.lba := IntWalk.i64_in _ (by omega)
      by_cases l2 : v.size - t.lba < t.cnt
      · skip
        have e : refuseS S t lost = 34 := by simp [refuseS, hop, isBlocks, hat, c1, c2, beyondB, l0, l1, l2, d1, d2]
        rw [e]
        exact rf_w_lba2 m rv ps S t da t.data.length dc lost w h hlen hop i p b v hat hp hwr hdb d1 d2 (decide_eq_false c1) (decide_eq_false c2) (decide_eq_false l0) (decide_eq_false l1) (decide_eq_true l2)
      have e : refuseS S t lost = 0 := by simp [refuseS, hop, isBlocks, hat, c1, c2, beyondB, l0, l1, l2, d1, d2]
      rw [e]
      exact rf_w_ok m rv ps S t da t.data.length dc lost w h hlen hop i p b v hat hp hwr hdb d1 d2 (decide_eq_false c1) (decide_eq_false c2) (decide_eq_false l0) (decide_eq_false l1) (decide_eq_false l2)
  · skip
    have e : refuseS S t lost = 0 := by simp [refuseS, hop, isBlocks, ]
    rw [e]
    exact rf_n4_ok m rv ps S t da t.data.length dc lost w h hlen hop 
  · skip
    cases hat : S.at t.vol with
    | none =>
      have e : refuseS S t lost = 31 := by simp [refuseS, hop, isBlocks, hat]
      rw [e]
      exact rf_u_none m rv ps S t da t.data.length dc lost w h hlen hop hat 
    | some q =>
      obtain ⟨i, v⟩ := q
      obtain ⟨p, b, hp⟩ : ∃ p b, ps[i]? = some (p, b) := atPtr h hat
      obtain ⟨s0, s1⟩ := hsz v (List.mem_of_getElem? (Mo.at_some hat).2)
      by_cases c1 : t.cnt < 1
      · skip
        have e : refuseS S t lost = 1 := by simp [refuseS, hop, isBlocks, hat, c1]
        rw [e]
        exact rf_u_cnt1 m rv ps S t da t.data.length dc lost w h hlen hop i p b v hat hp  (decide_eq_true c1)
      by_cases c2 : 8 < t.cnt
      · skip
        have e : refuseS S t lost = 1 := by simp [refuseS, hop, isBlocks, hat, c1, c2]
        rw [e]
        exact rf_u_cnt2 m rv ps S t da t.data.length dc lost w h hlen hop i p b v hat hp  (decide_eq_false c1) (decide_eq_true c2)
      by_cases l0 : t.lba < 0
      · skip
        have e : refuseS S t lost = 34 := by simp [refuseS, hop, isBlocks, hat, c1, c2, beyondB, l0]
        rw [e]
        exact rf_u_lba0 m rv ps S t da t.data.length dc lost w h hlen hop i p b v hat hp  (decide_eq_false c1) (decide_eq_false c2) (decide_eq_true l0)
      by_cases l1 : v.size ≤ t.lba
      · skip
        have e : refuseS S t lost = 34 := by simp [refuseS, hop, isBlocks, hat, c1, c2, beyondB, l0, l1]
        rw [e]
        exact rf_u_lba1 m rv ps S t da t.data.length dc lost w h hlen hop i p b v hat hp  (decide_eq_false c1) (decide_eq_false c2) (decide_eq_false l0) (decide_eq_true l1)
      have hwr : IntKind.i64.wrap (v.size - t.lba) = v.size - t.lba := IntWalk.i64_in _ (by omega)
      by_cases l2 : v.size - t.lba < t.cnt
      · skip
        have e : refuseS S t lost = 34 := by simp [refuseS, hop, isBlocks, hat, c1, c2, beyondB, l0, l1, l2]
        rw [e]
        exact rf_u_lba2 m rv ps S t da t.data.length dc lost w h hlen hop i p b v hat hp hwr  (decide_eq_false c1) (decide_eq_false c2) (decide_eq_false l0) (decide_eq_false l1) (decide_eq_true l2)
      have e : refuseS S t lost = 0 := by simp [refuseS, hop, isBlocks, hat, c1, c2, beyondB, l0, l1, l2]
      rw [e]
      exact rf_u_ok m rv ps S t da t.data.length dc lost w h hlen hop i p b v hat hp hwr  (decide_eq_false c1) (decide_eq_false c2) (decide_eq_false l0) (decide_eq_false l1) (decide_eq_false l2)
  · skip
    cases hsb : sizedB t.siz with
    | false =>
      have e : refuseS S t lost = 1 := by simp [refuseS, hop, isBlocks, hsb]
      rw [e]
      exact rf_c_size m rv ps S t da t.data.length dc lost w h hlen hop hsb
    | true =>
      by_cases q0 : t.quo < 0
      · skip
        have e : refuseS S t lost = 1 := by simp [refuseS, hop, isBlocks, hsb, q0]
        rw [e]
        exact rf_c_quo0 m rv ps S t da t.data.length dc lost w h hlen hop hsb (decide_eq_true q0)
      by_cases q1 : 1048576 < t.quo
      · skip
        have e : refuseS S t lost = 1 := by simp [refuseS, hop, isBlocks, hsb, q0, q1]
        rw [e]
        exact rf_c_quo1 m rv ps S t da t.data.length dc lost w h hlen hop hsb (decide_eq_false q0) (decide_eq_true q1)
      by_cases n8 : 8 ≤ S.vols.length
      · skip
        have e : refuseS S t lost = 32 := by simp [refuseS, hop, isBlocks, n8, hsb, q0, q1]
        rw [e]
        exact rf_c_vols m rv ps S t da t.data.length dc lost w h hlen hop hsb (decide_eq_false q0) (decide_eq_false q1) (decide_eq_true (by rw [h.len]; omega))
      by_cases nn : 1073741824 ≤ S.next
      · skip
        have e : refuseS S t lost = 15 := by simp [refuseS, hop, isBlocks, n8, nn, hsb, q0, q1]
        rw [e]
        exact rf_c_full m rv ps S t da t.data.length dc lost w h hlen hop hsb (decide_eq_false q0) (decide_eq_false q1) (decide_eq_false (by rw [h.len]; omega)) (decide_eq_true nn)
      have e : refuseS S t lost = 0 := by simp [refuseS, hop, isBlocks, n8, nn, hsb, q0, q1]
      rw [e]
      exact rf_c_ok m rv ps S t da t.data.length dc lost w h hlen hop hsb (decide_eq_false q0) (decide_eq_false q1) (decide_eq_false (by rw [h.len]; omega)) (decide_eq_false nn)
  · skip
    cases hat : S.at t.vol with
    | none =>
      have e : refuseS S t lost = 31 := by simp [refuseS, hop, isBlocks, hat]
      rw [e]
      exact rf_s_none m rv ps S t da t.data.length dc lost w h hlen hop hat
    | some q =>
      obtain ⟨i, v⟩ := q
      obtain ⟨p, b, hp⟩ : ∃ p b, ps[i]? = some (p, b) := atPtr h hat
      obtain ⟨s0, s1⟩ := hsz v (List.mem_of_getElem? (Mo.at_some hat).2)
      by_cases n8 : 8 ≤ S.vols.length
      · skip
        have e : refuseS S t lost = 32 := by simp [refuseS, hop, isBlocks, n8, hat]
        rw [e]
        exact rf_s_vols m rv ps S t da t.data.length dc lost w h hlen hop i p b v hat hp (decide_eq_true (by rw [h.len]; omega))
      by_cases nn : 1073741824 ≤ S.next
      · skip
        have e : refuseS S t lost = 15 := by simp [refuseS, hop, isBlocks, n8, nn, hat]
        rw [e]
        exact rf_s_full m rv ps S t da t.data.length dc lost w h hlen hop i p b v hat hp (decide_eq_false (by rw [h.len]; omega)) (decide_eq_true nn)
      have e : refuseS S t lost = 0 := by simp [refuseS, hop, isBlocks, n8, nn, hat]
      rw [e]
      exact rf_s_ok m rv ps S t da t.data.length dc lost w h hlen hop i p b v hat hp (decide_eq_false (by rw [h.len]; omega)) (decide_eq_false nn)
  · skip
    cases hat : S.at t.vol with
    | none =>
      have e : refuseS S t lost = 31 := by simp [refuseS, hop, isBlocks, hat]
      rw [e]
      exact rf_d_none m rv ps S t da t.data.length dc lost w h hlen hop hat
    | some q =>
      obtain ⟨i, v⟩ := q
      obtain ⟨p, b, hp⟩ : ∃ p b, ps[i]? = some (p, b) := atPtr h hat
      obtain ⟨s0, s1⟩ := hsz v (List.mem_of_getElem? (Mo.at_some hat).2)
      have e : refuseS S t lost = 0 := by simp [refuseS, hop, isBlocks, hat]
      rw [e]
      exact rf_d_ok m rv ps S t da t.data.length dc lost w h hlen hop i p b v hat hp
  · skip
    cases hat : S.at t.vol with
    | none =>
      have e : refuseS S t lost = 31 := by simp [refuseS, hop, isBlocks, hat]
      rw [e]
      exact rf_z_none m rv ps S t da t.data.length dc lost w h hlen hop hat
    | some q =>
      obtain ⟨i, v⟩ := q
      obtain ⟨p, b, hp⟩ : ∃ p b, ps[i]? = some (p, b) := atPtr h hat
      obtain ⟨s0, s1⟩ := hsz v (List.mem_of_getElem? (Mo.at_some hat).2)
      cases hsb : sizedB t.siz with
      | false =>
        have e : refuseS S t lost = 1 := by simp [refuseS, hop, isBlocks, hat, hsb]
        rw [e]
        exact rf_z_size m rv ps S t da t.data.length dc lost w h hlen hop hsb i p b v hat hp
      | true =>
        cases lost with
        | true =>
          have e : refuseS S t true = 0 := by simp [refuseS, hop, isBlocks, hat, hsb]
          rw [e]
          exact rf_z_lost m rv ps S t da t.data.length dc true w h hlen hop hsb i p b v hat hp
        | false =>
          exact rf_z_loop m rv ps S t da t.data.length dc false w h hlen hop hsb i p b v hat hp _ (by simp [refuseS, hop, isBlocks, hat, hsb])
  · skip
    have e : refuseS S t lost = 0 := by simp [refuseS, hop, isBlocks, ]
    rw [e]
    exact rf_n10_ok m rv ps S t da t.data.length dc lost w h hlen hop 
end Go.Proofs.Ytmanldcohbegkaa
