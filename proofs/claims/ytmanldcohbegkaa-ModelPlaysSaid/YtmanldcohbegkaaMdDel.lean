/-
  The model: slices.DeleteFunc of one volume.
-/
import Derived.Test.YtmanldcohbegkaaMdAdd
import Derived.Laws.IdiomCopy
import Derived.Lib.SmallJoins
namespace Go.Proofs.Ytmanldcohbegkaa
open Go.RowKit
set_option linter.unusedVariables false
set_option linter.unusedSimpArgs false

theorem row_shrink {w : World} {base T g n cap m : Nat} {xs : List Value} (h : w.ownsRow base T 1 (.slice (some ⟨g, 0, none⟩) n cap) n xs) (hm : m ≤ n) : w.ownsRow base T 1 (.slice (some ⟨g, 0, none⟩) m cap) m (xs.take m) := by
  obtain ⟨h1, h2⟩ := h
  rcases h2 with ⟨e, _⟩ | ⟨g', cap', cur, e, a1, a2, a3, a4, a5, a6⟩
  · cases e
  · cases e
    refine ⟨by rw [List.length_take]; omega, .inr ⟨g, cap, cur, rfl, a1, a2, by omega, a4, a5, ?_⟩⟩
    rw [← a6, List.take_take]
    congr 1; omega
theorem zero_ptr (w : World) : (zeroValue 63).run Try.prog w = .ok (.pointer none) w := by kernel_rfl
theorem clear_ptr (w : World) (ty : TypeId) (g o c : Nat) (h : (w.cell? ⟨g, o, none⟩).isSome = true) (hf : w.frozen? ⟨g, o, none⟩ = false) :
    (Builtin.clear_ #[51] ty #[.slice (some ⟨g, o, none⟩) 1 c]).run Try.prog w = .ok (.tuple #[]) (w.setCell ⟨g, o, none⟩ (.pointer none)) := by
  have hz : (Builtin.zeroCells #[.pointer none] 1).toList = [.pointer none] := by kernel_rfl
  have hu : Try.prog.underlying 51 = some (.slice 63) := by kernel_rfl
  have hs := run_storeCells_cells (P := Try.prog) g o [.pointer none] 0 w (fun j hj => by
    obtain rfl : j = 0 := by simpa using hj
    simpa using h) (fun j hj => by
    obtain rfl : j = 0 := by simpa using hj
    simpa using hf) (by simp [Value.oneCell'])
  simp only [Nat.add_zero] at hs
  have hz2 : (Builtin.zeroCells (Value.pointer none).cells 1).toList = [.pointer none] := hz
  simp [Builtin.clear_, run_underlying hu, Result.andThen, zero_ptr, hz2, hs]
  rfl
/-- What the row holds when k are done. -/
def midX {α : Type} (l : List α) (i k : Nat) : List α := (l.eraseIdx i).take k ++ l.drop k
theorem midX_length {α : Type} (l : List α) (i k : Nat) (hi : i < l.length) (hk : k + 1 ≤ l.length) : (midX l i k).length = l.length := by
  unfold midX
  rw [List.length_append, List.length_take, List.length_drop, List.length_eraseIdx, if_pos hi]
  omega
theorem midX_get {α : Type} (l : List α) (i k j : Nat) (hi : i < l.length) (hk : k + 1 ≤ l.length) : (midX l i k)[j]? = if j < k then (l.eraseIdx i)[j]? else l[j]? := by
  have hel : (l.eraseIdx i).length = l.length - 1 := by rw [List.length_eraseIdx, if_pos hi]
  unfold midX
  split
  · next h => rw [List.getElem?_append_left (by rw [List.length_take]; omega), List.getElem?_take, if_pos h]
  · next h =>
    rw [List.getElem?_append_right (by rw [List.length_take]; omega), List.length_take, List.getElem?_drop]
    congr 1; omega
theorem midX_next {α : Type} (l : List α) (i k : Nat) (hi : i < l.length) (hik : i ≤ k) (hk : k + 2 ≤ l.length) (x : α) (hx : l[k + 1]? = some x) : (midX l i k).set k x = midX l i (k + 1) := by
  apply List.ext_getElem?
  intro j
  rw [List.getElem?_set, midX_get l i k j hi (by omega), midX_get l i (k + 1) j hi (by omega), midX_length l i k hi (by omega)]
  by_cases hj : k = j
  · subst hj
    rw [if_pos rfl, if_pos (by omega), if_pos (by omega), List.getElem?_eraseIdx, if_neg (by omega), hx]
  · rw [if_neg hj]
    by_cases hlt : j < k
    · rw [if_pos hlt, if_pos (by omega)]
    · rw [if_neg hlt, if_neg (by omega)]
theorem midX_start {α : Type} (l : List α) (i : Nat) (hi : i < l.length) : midX l i i = l := by
  apply List.ext_getElem?
  intro j
  rw [midX_get l i i j hi (by omega)]
  split
  · next h => rw [List.getElem?_eraseIdx, if_pos h]
  · rfl

set_option maxRecDepth 100000 in
set_option maxHeartbeats 3200000 in
theorem delf_any (g n cap cb i p b : Nat) (ps : List (Nat × Nat)) (w : World) (hrow : w.ownsRow 0 63 1 (.slice (some ⟨g, 0, none⟩) n cap) n (ptrs ps)) (hp : ps[i]? = some (p, b)) (hcb : w.cell? ⟨cb, 0, none⟩ = some (.pointer (some ⟨p, 0, none⟩))) (hcg : cb ≠ g) (hst : ∀ q ∈ ps, ∃ c, w.heap[q.1]? = some (.cells c 66 (0, 0))) (hnd : (ps.map (·.1)).Nodup) (hn : n ≤ 8) :
    Calls Try.prog 37 #[.slice (some ⟨g, 0, none⟩) n cap, .func (.func 38) #[] #[.pointer (some ⟨cb, 0, none⟩)]] w fun r w' => r = .returned (.slice (some ⟨g, 0, none⟩) (n - 1) cap) ∧ w'.ownsRow 0 63 1 (.slice (some ⟨g, 0, none⟩) (n - 1) cap) (n - 1) (ptrs (ps.eraseIdx i)) ∧ Keeps (fun x => x = g) w w' := by
  obtain ⟨hnl, hcap, hmax, cur, hcur⟩ : n = ps.length ∧ n ≤ cap ∧ cap ≤ maxLen ∧ ∃ cur, w.heap[g]? = some (.cells cur 63 (0, 0)) := by
    obtain ⟨e1, e2⟩ := hrow
    rcases e2 with ⟨e, _⟩ | ⟨g', cap', cur, e, a1, a2, a3, a4, a5, a6⟩
    · cases e
    · cases e; simp [ptrs] at e1; exact ⟨e1.symm, a3, a4, cur, a2⟩
  have hi : i < ps.length := (List.getElem?_eq_some_iff.1 hp).1
  have hgl : g < w.heap.size := (Array.getElem?_eq_some_iff.1 hcur).1
  have hsg : ∀ q ∈ ps, q.1 ≠ g := by
    rintro q hq rfl
    obtain ⟨c, hc⟩ := hst q hq
    rw [hcur] at hc; simp at hc
  have hcl : ∀ q ∈ ps, ∀ W, Keeps (fun x => x = g) w W → Calls Try.prog 38 #[.pointer (some ⟨q.1, 0, none⟩), .pointer (some ⟨cb, 0, none⟩)] W fun r w' => r = .returned (.bool (q.1 == p)) ∧ Below W.heap.size W w' := by
    intro q hq W hk
    obtain ⟨c, hc⟩ := hst q hq
    obtain ⟨d, hd⟩ := hst (p, b) (List.mem_of_getElem? hp)
    exact clo_del q.1 cb p c d 66 66 W ((hk.cell (p := ⟨cb, 0, none⟩) (block_lt hcb) hcg).trans hcb) ((hk.block _ (Array.getElem?_eq_some_iff.1 hc).1 (hsg q hq)).trans hc) ((hk.block _ (Array.getElem?_eq_some_iff.1 hd).1 (hsg _ (List.mem_of_getElem? hp))).trans hd)
  have hrc : ∀ W, Below w.heap.size w W → ∀ k q, ps[k]? = some q → W.cell? ⟨g, k, none⟩ = some (.pointer (some ⟨q.1, 0, none⟩)) := by
    intro W hW k q hq
    have hk : k < n := by rw [hnl]; exact (List.getElem?_eq_some_iff.1 hq).1
    exact (hW.cell (p := ⟨g, k, none⟩) hgl).trans ((World.ownsRow.cellAt hrow k (by omega)).trans (ptrs_get hq))
  have hidx : firstAt (fun q : Nat × Nat => q.1 == p) ps = (i : Int) := by
    refine firstAt_some hp (by simp) ?_
    intro j hj x hx
    rw [Bool.eq_false_iff]
    intro e
    have := nodup_idx hnd hx hp (by simpa using e)
    omega
  have HI := Lib.hid (index_del n cap g cb ps (fun q => q.1 == p) w (by rw [hcur]; simp) hrc (by omega) (by omega) (fun q hq W hW => hcl q hq W (Keeps.of_below hW)) hn)
  rw [hidx] at HI
  have HC := Lib.hid hcl; clear hcl hrc
  have HR := Lib.hid hrow; clear hrow
  have HST := Lib.hid hst; clear hst
  have hn1 : n ≤ ps.length := by omega
  have hn2 : ps.length ≤ n := by omega
  have HP := Lib.hid hp; clear hp hcb hnl
  have HND := Lib.hid hnd; clear hnd
  have hi1 : ((i : Int) == -1) = false := by rw [Bool.eq_false_iff]; intro e; have := eq_of_beq e; omega
  have hwi : IntKind.i64.wrap ((i : Int) + 1) = (i : Int) + 1 := IntWalk.i64_in _ (by omega)
  go_enter Try.func37, Try.ntmps37
  go_wp2_with fail
  refine HI.out.mono ?_
  rintro e w1 ⟨rfl, hb1⟩
  have HK1 := Lib.hid (Keeps.of_below (F := fun x => x = g) hb1)
  have HR1 := Lib.hid ((Keeps.of_below (F := fun _ => False) hb1).owns HR.out (fun _ _ h => h)); clear hb1
  go_wp2_with fail
  go_loopw [5, 6] (fun c j wr => ∃ k : Nat, i ≤ k ∧ k + 1 ≤ n ∧ c = .int .i64 (k : Int) ∧ j = .int .i64 ((k : Int) + 1) ∧ wr.ownsRow 0 63 1 (.slice (some ⟨g, 0, none⟩) n cap) n (ptrs (midX ps i k)) ∧ Keeps (fun x => x = g) w wr) (fun _ j _ => n - (intOf j).toNat)
  case atStart => exact ⟨i, Nat.le_refl _, by omega, rfl, rfl, by rw [midX_start _ _ hi]; exact HR1.out, HK1.out⟩
  case round =>
    obtain ⟨k, hik, hkn, rfl, rfl, hrow, hkp⟩ := hrel
    have HRr := Lib.hid hrow; clear hrow
    have HKr := Lib.hid hkp; clear hkp
    by_cases hlt : k + 1 < n
    · have hlt2 : (k : Int) + 1 < (n : Int) := by omega
      obtain ⟨q, hq⟩ : ∃ q, ps[k + 1]? = some q := ⟨ps[k + 1]'(by omega), by simp [show k + 1 < ps.length by omega]⟩
      have hx1 : wr.cell? ⟨g, k + 1, none⟩ = some (.pointer (some ⟨q.1, 0, none⟩)) := by
        refine (World.ownsRow.cellAt HRr.out (k + 1) (by omega)).trans (ptrs_get ?_)
        rw [midX_get _ _ _ _ hi (by omega), if_neg (by omega)]
        exact hq
      obtain ⟨u0, hu0⟩ : ∃ u0, (ptrs (midX ps i k))[k]? = some u0 := ⟨_, List.getElem?_eq_getElem (by simp [ptrs]; rw [midX_length _ _ _ hi (by omega)]; omega)⟩
      have hx0 : wr.cell? ⟨g, k, none⟩ = some u0 := (World.ownsRow.cellAt HRr.out k (by omega)).trans hu0
      have hxf : wr.frozen? ⟨g, k, none⟩ = false := World.ownsRow.frozenAt HRr.out k
      have hne : (q.1 == p) = false := by
        rw [Bool.eq_false_iff]
        intro e
        have := nodup_idx HND.out hq HP.out (by simpa using e)
        omega
      have hcl := HC.out q (List.mem_of_getElem? hq) wr HKr.out
      rw [hne] at hcl
      have HCL := Lib.hid hcl; clear hcl hne
      have hqi : (((k : Int) + 1)).toNat = k + 1 := by omega
      have hb0 : (0 : Int) ≤ (k : Int) + 1 := by omega
      have hk0 : (0 : Int) ≤ (k : Int) := by omega
      have hkl : (k : Int) < (n : Int) := by omega
      have hwk : IntKind.i64.wrap ((k : Int) + 1) = (k : Int) + 1 := IntWalk.i64_in _ (by omega)
      have hwk2 : IntKind.i64.wrap ((k : Int) + 1 + 1) = (k : Int) + 1 + 1 := IntWalk.i64_in _ (by omega)
      have HQ := Lib.hid hq; clear hq
      go_wp2_with fail
      refine HCL.out.mono ?_
      rintro e w2 ⟨rfl, hb2⟩
      have hy0 : w2.cell? ⟨g, k, none⟩ = some u0 := (hb2.cell (p := ⟨g, k, none⟩) (by show g < _; have := HKr.out.size; omega)).trans hx0
      have hyf : w2.frozen? ⟨g, k, none⟩ = false := (hb2.frozen (p := ⟨g, k, none⟩) (by show g < _; have := HKr.out.size; omega)).trans hxf
      have HR2 := Lib.hid ((Keeps.of_below (F := fun _ => False) hb2).owns HRr.out (fun _ _ h => h))
      have HK2 := Lib.hid (HKr.out.trans (Keeps.of_below (F := fun _ => False) hb2) (fun _ _ h => h.elim)); clear hb2
      go_wp2_with fail
      go_roundw
      case rel =>
        refine ⟨k + 1, by omega, by omega, by simp, by simp, ?_, HK2.out.setCell (fun _ => rfl) _⟩
        have hst := (World.ownsRow.stored HR2.out k (.pointer (some ⟨q.1, 0, none⟩))).1
        rw [← midX_next ps i k hi hik (by omega) q HQ.out]
        have e : ptrs ((midX ps i k).set k q) = (ptrs (midX ps i k)).set k (.pointer (some ⟨q.1, 0, none⟩)) := by simp [ptrs]
        rw [e]
        exact hst
      case measure => simp only [intOf]; omega
    · have hlt2 : ¬ (k : Int) + 1 < (n : Int) := by omega
      obtain rfl : k = n - 1 := by omega
      obtain ⟨u0, hu0⟩ : ∃ u0, (ptrs (midX ps i (n - 1)))[n - 1]? = some u0 := ⟨_, List.getElem?_eq_getElem (by simp [ptrs]; rw [midX_length _ _ _ hi (by omega)]; omega)⟩
      have hx0 : wr.cell? ⟨g, n - 1, none⟩ = some u0 := (World.ownsRow.cellAt HRr.out (n - 1) (by omega)).trans hu0
      have hcl := clear_ptr wr 0 g (n - 1) (cap - (n - 1)) (by rw [hx0]; rfl) (World.ownsRow.frozenAt HRr.out (n - 1))
      have hs1 : (0 : Int) ≤ ((n - 1 : Nat) : Int) ∧ ((n - 1 : Nat) : Int) ≤ (n : Int) := by omega
      have hs1b : (0 : Int) ≤ ((n - 1 : Nat) : Int) ∧ ((n - 1 : Nat) : Int) ≤ (cap : Int) := by omega
      have hs2 : (((n - 1 : Nat) : Int)).toNat = n - 1 := by omega
      have hs3 : ¬ cap = n - 1 := by omega
      have hs4 : n - (n - 1) = 1 := by omega
      go_wp2_with fail
      go_ret
      refine ⟨rfl, ?_, HKr.out.setCell (fun _ => rfl) _⟩
      have hst := (World.ownsRow.stored HRr.out (n - 1) (.pointer none)).1
      have h2 := row_shrink hst (m := n - 1) (by omega)
      have e : ((ptrs (midX ps i (n - 1))).set (n - 1) (.pointer none)).take (n - 1) = ptrs (ps.eraseIdx i) := by
        have hel : (ps.eraseIdx i).length = ps.length - 1 := by rw [List.length_eraseIdx, if_pos hi]
        unfold ptrs midX
        rw [List.take_set_of_le (Nat.le_refl _), List.map_append, List.take_append_of_le_length (by simp; omega), ← List.map_take, List.take_take, Nat.min_self, List.take_of_length_le (by omega)]
      rw [e] at h2
      exact h2
end Go.Proofs.Ytmanldcohbegkaa
