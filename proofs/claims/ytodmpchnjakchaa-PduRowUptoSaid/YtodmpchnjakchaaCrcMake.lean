/-
  crc's table: the words are made once.
-/
import Derived.Test.YtodmpchnjakchaaSync
import Derived.Test.YtodmpchnjakchaaCrcMath
import Derived.Lib.Hide
namespace Go.Proofs.Ytodmpchnjakchaa
open Go.RowKit

/-- Nothing but block b has turned; no block is new. -/
structure Only (b : Nat) (w w' : World) : Prop where
  os : w'.os = w.os
  tape : w'.tape = w.tape
  output : w'.output = w.output
  size : w'.heap.size = w.heap.size
  block : ∀ k, k ≠ b → w'.heap[k]? = w.heap[k]?
theorem Only.refl (b : Nat) (w : World) : Only b w w := ⟨rfl, rfl, rfl, rfl, fun _ _ => rfl⟩
theorem Only.trans {b : Nat} {x y z : World} (h : Only b x y) (k : Only b y z) : Only b x z :=
  ⟨k.os.trans h.os, k.tape.trans h.tape, k.output.trans h.output, k.size.trans h.size, fun i hi => (k.block i hi).trans (h.block i hi)⟩
theorem Only.drew {b : Nat} {x w : World} (h : Only b x w) : Only b x w.drew := ⟨h.os, h.tape, h.output, h.size, h.block⟩
theorem Only.setCell {b : Nat} {x w : World} (h : Only b x w) {p : Addr} (hp : p.block = b) (u : Value) : Only b x (w.setCell p u) :=
  h.trans ⟨rfl, rfl, rfl, by simp [World.setCell], fun k hk => Below.heap_setCell _ _ _ _ (by omega)⟩
theorem Only.below {b B : Nat} {w w' : World} (h : Only b w w') (hB : B ≤ b) : Below B w w' :=
  ⟨h.os, h.tape, h.output, by rw [h.size]; exact Nat.le_refl _, fun k hk => h.block k (by omega)⟩
theorem Only.cell {b : Nat} {w w' : World} (h : Only b w w') {p : Addr} (hp : p.block ≠ b) : w'.cell? p = w.cell? p := World.cell?_of_block (w := w) (h.block p.block hp)
theorem Only.frozen {b : Nat} {w w' : World} (h : Only b w w') {p : Addr} (hp : p.block ≠ b) : w'.frozen? p = w.frozen? p := World.frozen?_of_block (w := w) (h.block p.block hp)

/-- The table's words: k of them are made. -/
def Words (w : World) (b k : Nat) : Prop :=
  (∀ i, i < 256 → ∃ v, w.cell? ⟨b, 3 + i, none⟩ = some v) ∧ (∀ i, i < k → w.cell? ⟨b, 3 + i, none⟩ = some (.int .u32 (Crc.stepN 8 i : Nat))) ∧ (∀ j, w.frozen? ⟨b, j, none⟩ = false)

theorem step_walk (c : Nat) (h : c < 4294967296) : bits .xor .u32 ((c : Int) / 2) (bits .and .u32 (c : Int) 1 * 2197175160 % 4294967296) = ((Crc.step c : Nat) : Int) := by
  have e1 : bits .and .u32 (c : Int) 1 = ((c % 2 : Nat) : Int) := by
    have := u32_and_nat c 1 h (by omega)
    rw [nat_mask1] at this
    exact this
  rw [e1]
  have e2 : ((c % 2 : Nat) : Int) * 2197175160 % 4294967296 = ((c % 2 * 2197175160 : Nat) : Int) := by omega
  have e3 : (c : Int) / 2 = ((c / 2 : Nat) : Int) := by omega
  rw [e2, e3, u32_xor_nat _ _ (by omega) (by omega)]
  rfl

theorem words_next {w : World} {b k : Nat} (hk : k < 256) (h : Words w b k) : Words (w.setCell ⟨b, 3 + k, none⟩ (.int .u32 (Crc.stepN 8 k : Nat))) b (k + 1) := by
  obtain ⟨h1, h2, h3⟩ := h
  obtain ⟨v, hv⟩ := h1 k hk
  refine ⟨fun i hi => ?_, fun i hi => ?_, fun j => ?_⟩
  · by_cases e : i = k
    · subst e; exact ⟨_, World.cell?_setCell_same _ _ _ hv⟩
    · rw [World.cell?_setCell_other _ _ _ _ (by simp <;> omega)]; exact h1 i hi
  · by_cases e : i = k
    · subst e; exact World.cell?_setCell_same _ _ _ hv
    · rw [World.cell?_setCell_other _ _ _ _ (by simp <;> omega)]; exact h2 i (by omega)
  · have := h3 j; simpa using this

set_option maxRecDepth 100000 in
theorem make_any (b : Nat) (w : World) (h : Words w b 0) :
    Calls Try.prog 37 #[.pointer (some ⟨b, 0, none⟩)] w fun e w' => e = .returned (.tuple #[]) ∧ Words w' b 256 ∧ Only b w w' ∧ (∀ j, j < 3 → w'.cell? ⟨b, j, none⟩ = w.cell? ⟨b, j, none⟩) := by
  go_enter Try.func37, Try.ntmps37
  go_wp2
  go_loopw [4] (fun i wr => ∃ k : Nat, k ≤ 256 ∧ i = .int .i64 k ∧ Words wr b k ∧ Only b w wr ∧ (∀ j, j < 3 → wr.cell? ⟨b, j, none⟩ = w.cell? ⟨b, j, none⟩)) (fun i _ => 256 - (intOf i).toNat)
  case atStart => exact ⟨0, by omega, rfl, h, Only.refl _ _, fun _ _ => rfl⟩
  case round =>
    obtain ⟨k, hk, rfl, hw1, ho, hl⟩ := hrel
    have HW := Lib.hid hw1; clear hw1
    have HO := Lib.hid ho; clear ho
    have HL := Lib.hid hl; clear hl
    have HH := Lib.hid h; clear h
    by_cases hlt : k < 256
    · go_wp2
      go_loop [3, 9] (fun c j => ∃ n : Nat, n ≤ 8 ∧ j = .int .i64 n ∧ c = .int .u32 (Crc.stepN n k : Nat)) (fun _ j => 8 - (intOf j).toNat)
      case atStart => exact ⟨0, by omega, rfl, rfl⟩
      case round =>
        obtain ⟨n, hn, rfl, rfl⟩ := hrel
        have hc : Crc.stepN n k < 4294967296 := Crc.stepN_lt n (by omega)
        by_cases hlt8 : n < 8
        · go_wp2
          go_round
          case rel => exact ⟨n + 1, by omega, by go_num, by rw [step_walk _ hc]; rfl⟩
          case measure => simp [intOf]; omega
        · obtain rfl : n = 8 := by omega
          obtain ⟨v, hv⟩ := HW.out.1 k hlt
          have hf := HW.out.2.2 (3 + k)
          go_wp2
          go_roundw
          case rel =>
            refine ⟨k + 1, by omega, by go_num, words_next hlt HW.out, HO.out.setCell rfl _, fun j hj => ?_⟩
            rw [World.cell?_setCell_other _ _ _ _ (by simp <;> omega)]; exact HL.out j hj
          case measure => simp [intOf]; omega
    · obtain rfl : k = 256 := by omega
      go_wp2
      go_end0
      exact ⟨rfl, HW.out, HO.out, HL.out⟩
end Go.Proofs.Ytodmpchnjakchaa
