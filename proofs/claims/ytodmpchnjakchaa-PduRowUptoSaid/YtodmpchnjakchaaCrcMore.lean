/-
  crc: the sum with a table, made or not yet made.
-/
import Derived.Test.YtodmpchnjakchaaCrcMake
namespace Go.Proofs.Ytodmpchnjakchaa
open Go.RowKit

/-- A table at the head of block b; done: its words are made. -/
structure Table (w : World) (b : Nat) (d : Bool) : Prop where
  once : w.cell? ⟨b, 0, none⟩ = some (.int .u32 (if d then 1 else 0))
  state : w.cell? ⟨b, 1, none⟩ = some (.int .i32 0)
  words : Words w b (if d then 256 else 0)

set_option maxRecDepth 100000 in
set_option maxHeartbeats 1600000 in
theorem slow_make (b : Nat) (w : World) (h : Table w b false) :
    Calls Try.prog 39 #[.pointer (some ⟨b, 0, none⟩), .func (.func 37) #[.pointer (some ⟨b, 0, none⟩)] #[]] w fun e w' => e = .returned (.tuple #[]) ∧ Table w' b true ∧ Only b w w' := by
  obtain ⟨h0, h1, hw⟩ := h
  simp only [Bool.false_eq_true, if_false] at h0 hw
  have f0 := hw.2.2 0
  have f1 := hw.2.2 1
  have HW := Lib.hid hw; clear hw
  have hl := run_call_load (P := Try.prog) Try.func40 (by kernel_rfl) (by kernel_rfl) (by kernel_rfl) .u32 (by kernel_rfl) (w := w.setCell ⟨b, 1, none⟩ (.int .i32 1)) (a := ⟨b, 0, none⟩) (x := 0) ((World.cell?_setCell_other _ ⟨b, 1, none⟩ ⟨b, 0, none⟩ _ (by simp)).trans h0)
  have hnot : ∀ (x : Bool) (w : World), (Op.unary .not (.bool x)).run Try.prog w = .ok (.bool (!x)) w := fun _ _ => rfl
  have HW1 : Hid (Words (w.setCell ⟨b, 1, none⟩ (.int .i32 1)) b 0) := by
    obtain ⟨q1, q2, q3⟩ := HW.out
    exact ⟨fun i hi => by rw [World.cell?_setCell_other _ _ _ _ (by simp <;> omega)]; exact q1 i hi, fun i hi => by omega, fun j => by have := q3 j; simpa using this⟩
  go_enter_defers Try.func39, Try.ntmps39
  go_wp2_with (go_at_call 41; refine (lock_free ⟨b, 1, none⟩ _ (by go_simp) (by go_simp)).mono ?_; rintro e w' ⟨rfl, rfl⟩)
  go_wp2_with (first | (go_at_call 37; refine (make_any b _ HW1.out).mono ?_; rintro e w2 ⟨rfl, hw2, ho, hc⟩; have HW2 := Lib.hid hw2; clear hw2; have HO := Lib.hid ho; clear ho; have HC := Lib.hid hc; clear hc) | (go_at_call 38; go_in))
  -- the door: two deferred calls, the last laid first
  have c0 : w2.cell? ⟨b, 0, none⟩ = some (.int .u32 0) := (HC.out 0 (by omega)).trans ((World.cell?_setCell_other _ ⟨b, 1, none⟩ ⟨b, 0, none⟩ _ (by simp)).trans h0)
  have c1 : w2.cell? ⟨b, 1, none⟩ = some (.int .i32 1) := (HC.out 1 (by omega)).trans (World.cell?_setCell_same _ _ _ h1)
  have z0 := HW2.out.2.2 0
  have z1 := HW2.out.2.2 1
  have hfin : Table ((w2.drew.setCell ⟨b, 0, none⟩ (.int .u32 1)).setCell ⟨b, 1, none⟩ (.int .i32 0)) b true ∧ Only b w ((w2.drew.setCell ⟨b, 0, none⟩ (.int .u32 1)).setCell ⟨b, 1, none⟩ (.int .i32 0)) := by
    obtain ⟨q1, q2, q3⟩ := HW2.out
    refine ⟨⟨?_, ?_, ?_, ?_, ?_⟩, ?_⟩
    · rw [World.cell?_setCell_other _ ⟨b, 1, none⟩ ⟨b, 0, none⟩ _ (by simp)]
      exact World.cell?_setCell_same _ _ _ ((World.cell?_drew _ _).trans c0)
    · refine World.cell?_setCell_same (u := .int .i32 1) _ _ _ ?_
      rw [World.cell?_setCell_other _ ⟨b, 0, none⟩ ⟨b, 1, none⟩ _ (by simp), World.cell?_drew]
      exact c1
    · intro i hi
      rw [World.cell?_setCell_other _ _ _ _ (by simp <;> omega), World.cell?_setCell_other _ _ _ _ (by simp <;> omega), World.cell?_drew]
      exact q1 i hi
    · intro i hi
      rw [World.cell?_setCell_other _ _ _ _ (by simp <;> omega), World.cell?_setCell_other _ _ _ _ (by simp <;> omega), World.cell?_drew]
      exact q2 i hi
    · intro j
      have := q3 j
      simpa using this
    · exact ((((Only.refl b w).setCell rfl _).trans HO.out).drew.setCell rfl _).setCell rfl _
  refine leaves_cons (f := 43) (args := #[.pointer (some ⟨b, 0, none⟩), .bool true]) (by simp) (by simp [go_sem]) ?_
  refine (store_deferred ⟨b, 0, none⟩ (.int .u32 0) .returning _ c0 z0).mono ?_
  rintro e u' w'' ⟨rfl, rfl, rfl⟩
  refine leaves_cons (f := 42) (args := #[.pointer (some ⟨b, 1, none⟩)]) (by simp [settle]) (by simp [go_sem]) ?_
  refine (unlock_deferred ⟨b, 1, none⟩ _ _ ?_ (by simp [z1])).mono ?_
  · rw [World.cell?_setCell_other _ ⟨b, 0, none⟩ ⟨b, 1, none⟩ _ (by simp), World.cell?_drew]
    exact c1
  rintro e u' w'' ⟨rfl, rfl, rfl⟩
  simp [Leaves, settle, results, Try.results39]
  exact hfin

set_option maxRecDepth 100000 in
set_option maxHeartbeats 1600000 in
theorem once_make (b : Nat) (d : Bool) (w : World) (h : Table w b d) :
    Calls Try.prog 36 #[.pointer (some ⟨b, 0, none⟩), .func (.func 37) #[.pointer (some ⟨b, 0, none⟩)] #[]] w fun e w' => e = .returned (.tuple #[]) ∧ Table w' b true ∧ Only b w w' ∧ (d = true → w = w') := by
  have hnot : ∀ (x : Bool) (w : World), (Op.unary .not (.bool x)).run Try.prog w = .ok (.bool (!x)) w := fun _ _ => rfl
  cases d with
  | false =>
    have h0 := h.once
    simp only [Bool.false_eq_true, if_false] at h0
    have hl := run_call_load (P := Try.prog) Try.func40 (by kernel_rfl) (by kernel_rfl) (by kernel_rfl) .u32 (by kernel_rfl) h0
    have H := Lib.hid h; clear h
    go_enter Try.func36, Try.ntmps36
    go_wp2_with (first | (go_at_call 39; refine (slow_make b _ H.out).mono ?_; rintro e w' ⟨rfl, ht, ho⟩) | (go_at_call 38; go_in))
    go_end0
    exact ⟨rfl, ht, ho, fun h => by cases h⟩
  | true =>
    have h0 := h.once
    simp only [if_true] at h0
    have hl := run_call_load (P := Try.prog) Try.func40 (by kernel_rfl) (by kernel_rfl) (by kernel_rfl) .u32 (by kernel_rfl) h0
    have H := Lib.hid h; clear h
    go_enter Try.func36, Try.ntmps36
    go_wp2_with (go_at_call 38; go_in)
    go_end0
    exact ⟨rfl, H.out, Only.refl _ _, fun _ => rfl⟩
end Go.Proofs.Ytodmpchnjakchaa
