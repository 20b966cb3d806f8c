/-
  crc's laws: known.
-/
import Derived.Test.YthocdlihhfhbeaaCrcSum
import Derived.Lib.SlBytesConst
namespace Go.Proofs.Ythocdlihhfhbeaa
open Go.RowKit

theorem Table.alloc {w : World} {b : Nat} {d : Bool} (h : Table w b d) (hb : b < w.heap.size) (o : Obj) : Table (w.alloc o) b d := by
  have e : ∀ j, (w.alloc o).cell? ⟨b, j, none⟩ = w.cell? ⟨b, j, none⟩ := fun j => World.cell?_alloc_lt w o ⟨b, j, none⟩ hb
  have f : ∀ j, (w.alloc o).frozen? ⟨b, j, none⟩ = w.frozen? ⟨b, j, none⟩ := fun j => World.frozen?_alloc_old w o ⟨b, j, none⟩ (Nat.ne_of_lt hb)
  exact ⟨(e 0).trans h.once, (e 1).trans h.state, fun i hi => by rw [e]; exact h.words.1 i hi, fun i hi => by rw [e]; exact h.words.2.1 i hi, fun j => by rw [f]; exact h.words.2.2 j⟩

def digits : List Nat := [49, 50, 51, 52, 53, 54, 55, 56, 57]
theorem sum_digits : Crc.more 0 digits = 3808858755 := by decide +kernel
theorem sum_none : Crc.more 0 [] = 0 := by decide

set_option maxRecDepth 100000 in
set_option maxHeartbeats 1600000 in
theorem known_any (b B : Nat) (d : Bool) (w : World) (h : Table w b d) (hb : b < w.heap.size) (hB : B ≤ b) :
    Calls Try.prog 8 #[.pointer (some ⟨b, 0, none⟩)] w fun e w' => e = .returned (.bool true) ∧ Table w' b true ∧ Below B w w' := by
  have H := Lib.hid h; clear h
  have kc := fun (w : World) (C : Array Value) (n c : Nat) => Lib.run_convert_bytes_const (P := Try.prog) w 22 5 C n c Try.underlying22 Try.underlying5
  go_enter Try.func8, Try.ntmps8
  go_wp2_with fail
  refine (sum_any b d _ digits _ (H.out.alloc hb _) (.inr ⟨w.heap.size, 0, 9, rfl, fun i hi => ?_⟩) (by unfold Crc.Bytes digits; decide) (by simp [digits]) (fun a n c e _ => ?_)).mono ?_
  · rw [World.cell?_alloc_mark]
    have : i < 9 := hi
    match i, this with
    | 0, _ | 1, _ | 2, _ | 3, _ | 4, _ | 5, _ | 6, _ | 7, _ | 8, _ => rfl
  · injection e with e1; injection e1 with e2; subst e2; exact (Nat.ne_of_lt hb).symm
  rintro e w1 ⟨rfl, ht, ho, _⟩
  have HT := Lib.hid ht; clear ht
  have HO := Lib.hid ho; clear ho
  rw [sum_digits]
  go_wp2_with fail
  refine (sum_any b true _ [] _ HT.out (.inl ⟨rfl, none, 0, rfl, fun _ => rfl⟩) (by intro x hx; simp at hx) (by simp) (fun a n c e _ => by simp at e)).mono ?_
  rintro e w2 ⟨rfl, ht, ho, _⟩
  have HT2 := Lib.hid ht; clear ht
  have HO2 := Lib.hid ho; clear ho
  rw [sum_none]
  go_wp2
  go_ret
  exact ⟨rfl, HT2.out, (((Below.refl B w).alloc (by omega) _).trans (HO.out.below hB)).trans (HO2.out.below hB)⟩
end Go.Proofs.Ythocdlihhfhbeaa
