/-
  PDUs: the document's Same on equal ones.
-/
import Derived.Test.YtodmpchnjakchaaPduLaw1
import Derived.ChangeKeysEq
namespace Go.Proofs.Ytodmpchnjakchaa
open Go.RowKit

theorem eqItems_same (w : World) (xs : Array Value) : ∀ is : List Nat, (∀ i ∈ is, ∃ v : Int, xs[i * 1]? = some (.int .u8 v)) → (Op.eqItems 9999 5 1 xs xs is).run Try.prog w = .ok true w
  | [], _ => by simp [Op.eqItems]
  | i :: is, h => by
    obtain ⟨v, hv⟩ := h i (by simp)
    have he : Try.prog.plainKey 5 = true := by kernel_rfl
    have hp := run_part_plain (P := Try.prog) w he hv
    have hq : (Op.equalIn 9999 5 (.int .u8 v) (.int .u8 v)).run Try.prog w = .ok true w := by
      rw [show (9999 : Nat) = 9998 + 1 from rfl, run_equalIn_int w 9998 5 .u8 .u8 v v Try.underlying5]
      simp
    simp only [Op.eqItems, Sem.run_bind, hp, hq, Result.andThen_ok]
    exact eqItems_same w xs is (fun i hi => h i (List.mem_cons_of_mem _ hi))
theorem eq_tail (t : Nat → Nat) (w : World) : (Op.equalIn 10000 22 (.agg #[.int .u8 (t 0 : Nat), .int .u8 (t 1 : Nat), .int .u8 (t 2 : Nat), .int .u8 (t 3 : Nat), .int .u8 (t 4 : Nat), .int .u8 (t 5 : Nat), .int .u8 (t 6 : Nat), .int .u8 (t 7 : Nat), .int .u8 (t 8 : Nat), .int .u8 (t 9 : Nat), .int .u8 (t 10 : Nat), .int .u8 (t 11 : Nat), .int .u8 (t 12 : Nat), .int .u8 (t 13 : Nat), .int .u8 (t 14 : Nat), .int .u8 (t 15 : Nat)]) (.agg #[.int .u8 (t 0 : Nat), .int .u8 (t 1 : Nat), .int .u8 (t 2 : Nat), .int .u8 (t 3 : Nat), .int .u8 (t 4 : Nat), .int .u8 (t 5 : Nat), .int .u8 (t 6 : Nat), .int .u8 (t 7 : Nat), .int .u8 (t 8 : Nat), .int .u8 (t 9 : Nat), .int .u8 (t 10 : Nat), .int .u8 (t 11 : Nat), .int .u8 (t 12 : Nat), .int .u8 (t 13 : Nat), .int .u8 (t 14 : Nat), .int .u8 (t 15 : Nat)])).run Try.prog w = .ok true w := by
  obtain ⟨i0, hi, hz0, hz1, hz2⟩ := info_parts Try.info_byte
  have hc : Try.prog.cellsOf 5 = 1 := by kernel_rfl
  rw [show (10000 : Nat) = 9999 + 1 from rfl, run_equalIn_array w 9999 _ _ Try.underlying22 hi, hc]
  refine eqItems_same w _ _ (fun i hi => ?_)
  have hi16 : i < 16 := List.mem_range.1 hi
  rw [Nat.mul_one]
  refine ⟨(t i : Nat), ?_⟩
  have : i = 0 ∨ i = 1 ∨ i = 2 ∨ i = 3 ∨ i = 4 ∨ i = 5 ∨ i = 6 ∨ i = 7 ∨ i = 8 ∨ i = 9 ∨ i = 10 ∨ i = 11 ∨ i = 12 ∨ i = 13 ∨ i = 14 ∨ i = 15 := by omega
  rcases this with rfl | rfl | rfl | rfl | rfl | rfl | rfl | rfl | rfl | rfl | rfl | rfl | rfl | rfl | rfl | rfl <;> rfl

theorem tail_range_lt (p : Pdu.PD) (dv : Value) (b : Nat) (w : World) (h : ∀ j, j < 26 → w.cell? ⟨b, j, none⟩ = (p.cells dv)[j]?) : w.rangeAt b 10 [.int .u8 (p.tb 0 : Nat), .int .u8 (p.tb 1 : Nat), .int .u8 (p.tb 2 : Nat), .int .u8 (p.tb 3 : Nat), .int .u8 (p.tb 4 : Nat), .int .u8 (p.tb 5 : Nat), .int .u8 (p.tb 6 : Nat), .int .u8 (p.tb 7 : Nat), .int .u8 (p.tb 8 : Nat), .int .u8 (p.tb 9 : Nat), .int .u8 (p.tb 10 : Nat), .int .u8 (p.tb 11 : Nat), .int .u8 (p.tb 12 : Nat), .int .u8 (p.tb 13 : Nat), .int .u8 (p.tb 14 : Nat), .int .u8 (p.tb 15 : Nat)] := fun j v hj => by
  have hj16 : j < 16 := (List.getElem?_eq_some_iff.1 hj).1
  rw [h _ (by omega), ← hj]
  have : j = 0 ∨ j = 1 ∨ j = 2 ∨ j = 3 ∨ j = 4 ∨ j = 5 ∨ j = 6 ∨ j = 7 ∨ j = 8 ∨ j = 9 ∨ j = 10 ∨ j = 11 ∨ j = 12 ∨ j = 13 ∨ j = 14 ∨ j = 15 := by omega
  rcases this with rfl | rfl | rfl | rfl | rfl | rfl | rfl | rfl | rfl | rfl | rfl | rfl | rfl | rfl | rfl | rfl <;> rfl

set_option maxRecDepth 100000 in
set_option maxHeartbeats 6400000 in
theorem same18_refl (p : Pdu.PD) (dp dq : Value) (w : World) (h1 : BytesAt w dp p.data) (h2 : BytesAt w dq p.data) (hl : p.data.length ≤ 9223372036854775807) :
    Calls Try.prog 15 #[.agg (p.cells dp), .agg (p.cells dq)] w fun e w' => e = .returned (.bool true) ∧ Below w.heap.size w w' := by
  obtain ⟨pa, pc, rfl, _⟩ := h1.form
  obtain ⟨qa, qc, rfl, _⟩ := h2.form
  have H1 := Lib.hid h1
  have H2 := Lib.hid h2
  clear h1 h2
  obtain ⟨dl, hdl⟩ : ∃ dl, dl = p.data.length := ⟨_, rfl⟩
  rw [← hdl]
  rw [← hdl] at H1 H2 hl
  have HDl := Lib.hid hdl
  clear hdl
  obtain ⟨A, hA⟩ : ∃ A, A = w.heap.size := ⟨_, rfl⟩
  obtain ⟨B, hBe⟩ : ∃ B, B = A + 1 := ⟨_, rfl⟩
  obtain ⟨W, hW⟩ : ∃ W, W = (w.alloc (.cells (p.cells (.slice pa dl pc)) 25)).alloc (.cells (p.cells (.slice qa dl qc)) 25) := ⟨_, rfl⟩
  have HA := Lib.hid (show ∀ j, W.cell? ⟨A, j, none⟩ = (p.cells (.slice pa dl pc))[j]? from fun j => by rw [hW, hA, World.cell?_alloc_lt _ _ _ (by simp)]; exact World.cell?_alloc_new _ _ _ _)
  have HB := Lib.hid (show ∀ j, W.cell? ⟨B, j, none⟩ = (p.cells (.slice qa dl qc))[j]? from fun j => by
    have e : B = (w.alloc (.cells (p.cells (.slice pa dl pc)) 25)).heap.size := by simp; omega
    rw [hW, e]; exact World.cell?_alloc_new _ _ _ _)
  have HBW := Lib.hid (show Below w.heap.size w W from by rw [hW]; exact ((Below.refl _ _).alloc (Nat.le_refl _) _).alloc (by simp) _)
  have hsW : W.heap.size = A + 2 := by rw [hW]; simp; omega
  have HI2 := Lib.hid (show (Try.prog.info? 25).map (·.size) = some 27 by kernel_rfl)
  have HU2 := Lib.hid (Try.underlying25)
  have HIA := Lib.hid (show (Try.prog.info? 22).map (·.size) = some 16 by kernel_rfl)
  have HUA := Lib.hid (Try.underlying22)
  go_enter Try.func15, Try.ntmps15
  go_upto_region 1 with fail
  rw [← hW]
  clear hW
  rw [← hA, ← hBe]
  have hAw : w.heap.size ≤ A ∧ A ≤ w.heap.size := by omega
  have hAB : A + 1 ≤ B ∧ B ≤ A + 1 := by omega
  have hWA : A + 2 ≤ W.heap.size ∧ W.heap.size ≤ A + 2 := by omega
  clear hA hBe hsW
  obtain ⟨P, hP⟩ : ∃ x, x = W.heap.size := ⟨_, rfl⟩
  go_upto_region 2 with (first | refine wpList_load_pd rfl 25 (.tmp 2) rfl A rfl p (.slice pa dl pc) _ HU2.out rfl HI2.out HA.out ?_ | (refine wpList_store_pd rfl 25 (.tmp 5) (.tmp 8) rfl W.heap.size Pdu.pdZero p (.slice none 0 0) (.slice pa dl pc) rfl rfl (fun j => show (W.alloc (.cells #[.int .i64 0, .bool false, .int .i64 0, .int .i64 0, .int .i64 0, .int .i64 0, .int .i64 0, .int .i64 0, .int .i64 0, .int .i64 0, .int .u8 0, .int .u8 0, .int .u8 0, .int .u8 0, .int .u8 0, .int .u8 0, .int .u8 0, .int .u8 0, .int .u8 0, .int .u8 0, .int .u8 0, .int .u8 0, .int .u8 0, .int .u8 0, .int .u8 0, .int .u8 0, .slice none 0 0] 25)).cell? _ = _ from World.cell?_alloc_new _ _ _ _) (fun j => frozen_new _ _ _ _) rfl HI2.out ?_; intro W1 hc hf hk hs; have HCP := Lib.hid hc; have HFP := Lib.hid hf; have HKP := Lib.hid ((((Keeps.refl (fun z => z = W.heap.size) W).alloc _).trans hk (fun _ _ h => h)).below (B := W.heap.size) (Nat.le_refl _) (fun z h1 h2 => by omega)); have hsP : W1.heap.size = W.heap.size + 1 := (by rw [hs]; simp); clear hc hf hk hs))
  rw [← hP]
  rw [← hP] at HCP HFP HKP hsP
  have hleP : P ≤ W.heap.size ∧ W.heap.size ≤ P ∧ P + 1 ≤ W1.heap.size ∧ W1.heap.size ≤ P + 1 := by omega
  clear hP hsP
  have HB1 := Lib.hid (show ∀ j, W1.cell? ⟨B, j, none⟩ = (p.cells (.slice qa dl qc))[j]? from fun j => (HKP.out.cell (p := ⟨B, j, none⟩) (by simp; omega)).trans (HB.out j))
  obtain ⟨Q, hQ⟩ : ∃ x, x = W1.heap.size := ⟨_, rfl⟩
  go_upto_region 3 with (first | refine wpList_load_pd rfl 25 (.tmp 3) rfl B rfl p (.slice qa dl qc) _ HU2.out rfl HI2.out HB1.out ?_ | (refine wpList_store_pd rfl 25 (.tmp 6) (.tmp 9) rfl W1.heap.size Pdu.pdZero p (.slice none 0 0) (.slice qa dl qc) rfl rfl (fun j => show (W1.alloc (.cells #[.int .i64 0, .bool false, .int .i64 0, .int .i64 0, .int .i64 0, .int .i64 0, .int .i64 0, .int .i64 0, .int .i64 0, .int .i64 0, .int .u8 0, .int .u8 0, .int .u8 0, .int .u8 0, .int .u8 0, .int .u8 0, .int .u8 0, .int .u8 0, .int .u8 0, .int .u8 0, .int .u8 0, .int .u8 0, .int .u8 0, .int .u8 0, .int .u8 0, .int .u8 0, .slice none 0 0] 25)).cell? _ = _ from World.cell?_alloc_new _ _ _ _) (fun j => frozen_new _ _ _ _) rfl HI2.out ?_; intro W2 hc hf hk hs; have HCQ := Lib.hid hc; have HFQ := Lib.hid hf; have HKQ := Lib.hid ((((Keeps.refl (fun z => z = W1.heap.size) W1).alloc _).trans hk (fun _ _ h => h)).below (B := W1.heap.size) (Nat.le_refl _) (fun z h1 h2 => by omega)); have hsQ : W2.heap.size = W1.heap.size + 1 := (by rw [hs]; simp); clear hc hf hk hs))
  rw [← hQ]
  rw [← hQ] at HCQ HFQ HKQ hsQ
  have hleQ : Q ≤ W1.heap.size ∧ W1.heap.size ≤ Q ∧ Q + 1 ≤ W2.heap.size ∧ W2.heap.size ≤ Q + 1 := by omega
  clear hQ hsQ
  have c5 : W2.cell? ⟨P, 26, none⟩ = some (.slice pa dl pc) := (HKQ.out.cell (p := ⟨P, 26, none⟩) (by simp; omega)).trans (HCP.out 26)
  have f5 : W2.frozen? ⟨P, 26, none⟩ = false := (HKQ.out.frozen (p := ⟨P, 26, none⟩) (by simp; omega)).trans (HFP.out 26)
  have c6 : W2.cell? ⟨Q, 26, none⟩ = some (.slice qa dl qc) := HCQ.out 26
  have f6 : W2.frozen? ⟨Q, 26, none⟩ = false := HFQ.out 26
  have hPQ : P ≠ Q := by omega
  have hQP : Q ≠ P := by omega
  go_upto_region 5 with fail
  obtain ⟨W5, hW5⟩ : ∃ W5, W5 = (W2.setCell ⟨P, 26, none⟩ (.slice none 0 0)).setCell ⟨Q, 26, none⟩ (.slice none 0 0) := ⟨_, rfl⟩
  rw [← hW5]
  have kX : ∀ j, j < 26 → W5.cell? ⟨P, j, none⟩ = (p.cells (.slice pa dl pc))[j]? := fun j hj => by
    rw [hW5, World.cell?_setCell_other _ _ _ _ (fun e => by injection e with e1 e2; omega), World.cell?_setCell_other _ _ _ _ (fun e => by injection e with e1 e2; omega)]
    exact (HKQ.out.cell (p := ⟨P, j, none⟩) (by simp; omega)).trans (HCP.out j)
  have kY : ∀ j, j < 26 → W5.cell? ⟨Q, j, none⟩ = (p.cells (.slice qa dl qc))[j]? := fun j hj => by
    rw [hW5, World.cell?_setCell_other _ _ _ _ (fun e => by injection e with e1 e2; omega), World.cell?_setCell_other _ _ _ _ (fun e => by injection e with e1 e2; omega)]
    exact HCQ.out j
  have kZ : Below (A + 2) W W5 := by
    rw [hW5]
    exact ((((HKP.out.mono (by omega)).trans (HKQ.out.mono (by omega))).setCell (by simp; omega) _).setCell (by simp; omega) _)
  have z1 : W5.cell? ⟨A, 26, none⟩ = some (.slice pa dl pc) := (kZ.cell (p := ⟨A, 26, none⟩) (by simp)).trans (HA.out 26)
  have z2 : W5.cell? ⟨B, 26, none⟩ = some (.slice qa dl qc) := (kZ.cell (p := ⟨B, 26, none⟩) (by simp; omega)).trans (HB.out 26)
  have HBel := Lib.hid (HBW.out.trans (kZ.mono (by omega)))
  have x0 : W5.cell? ⟨P, 0, none⟩ = some (.int .i64 p.op) := kX 0 (by decide)
  have x1 : W5.cell? ⟨P, 1, none⟩ = some (.bool p.imm) := kX 1 (by decide)
  have x2 : W5.cell? ⟨P, 2, none⟩ = some (.int .i64 p.flags) := kX 2 (by decide)
  have x3 : W5.cell? ⟨P, 3, none⟩ = some (.int .i64 p.info) := kX 3 (by decide)
  have x4 : W5.cell? ⟨P, 4, none⟩ = some (.int .i64 p.wide) := kX 4 (by decide)
  have x5 : W5.cell? ⟨P, 5, none⟩ = some (.int .i64 p.short) := kX 5 (by decide)
  have x6 : W5.cell? ⟨P, 6, none⟩ = some (.int .i64 p.tag) := kX 6 (by decide)
  have x7 : W5.cell? ⟨P, 7, none⟩ = some (.int .i64 p.word) := kX 7 (by decide)
  have x8 : W5.cell? ⟨P, 8, none⟩ = some (.int .i64 p.num) := kX 8 (by decide)
  have x9 : W5.cell? ⟨P, 9, none⟩ = some (.int .i64 p.exp) := kX 9 (by decide)
  have x10 : W5.cell? ⟨P, 10, none⟩ = some (.int .u8 (p.tb 0 : Nat)) := kX 10 (by decide)
  have x11 : W5.cell? ⟨P, 11, none⟩ = some (.int .u8 (p.tb 1 : Nat)) := kX 11 (by decide)
  have x12 : W5.cell? ⟨P, 12, none⟩ = some (.int .u8 (p.tb 2 : Nat)) := kX 12 (by decide)
  have x13 : W5.cell? ⟨P, 13, none⟩ = some (.int .u8 (p.tb 3 : Nat)) := kX 13 (by decide)
  have x14 : W5.cell? ⟨P, 14, none⟩ = some (.int .u8 (p.tb 4 : Nat)) := kX 14 (by decide)
  have x15 : W5.cell? ⟨P, 15, none⟩ = some (.int .u8 (p.tb 5 : Nat)) := kX 15 (by decide)
  have x16 : W5.cell? ⟨P, 16, none⟩ = some (.int .u8 (p.tb 6 : Nat)) := kX 16 (by decide)
  have x17 : W5.cell? ⟨P, 17, none⟩ = some (.int .u8 (p.tb 7 : Nat)) := kX 17 (by decide)
  have x18 : W5.cell? ⟨P, 18, none⟩ = some (.int .u8 (p.tb 8 : Nat)) := kX 18 (by decide)
  have x19 : W5.cell? ⟨P, 19, none⟩ = some (.int .u8 (p.tb 9 : Nat)) := kX 19 (by decide)
  have x20 : W5.cell? ⟨P, 20, none⟩ = some (.int .u8 (p.tb 10 : Nat)) := kX 20 (by decide)
  have x21 : W5.cell? ⟨P, 21, none⟩ = some (.int .u8 (p.tb 11 : Nat)) := kX 21 (by decide)
  have x22 : W5.cell? ⟨P, 22, none⟩ = some (.int .u8 (p.tb 12 : Nat)) := kX 22 (by decide)
  have x23 : W5.cell? ⟨P, 23, none⟩ = some (.int .u8 (p.tb 13 : Nat)) := kX 23 (by decide)
  have x24 : W5.cell? ⟨P, 24, none⟩ = some (.int .u8 (p.tb 14 : Nat)) := kX 24 (by decide)
  have x25 : W5.cell? ⟨P, 25, none⟩ = some (.int .u8 (p.tb 15 : Nat)) := kX 25 (by decide)
  have y0 : W5.cell? ⟨Q, 0, none⟩ = some (.int .i64 p.op) := kY 0 (by decide)
  have y1 : W5.cell? ⟨Q, 1, none⟩ = some (.bool p.imm) := kY 1 (by decide)
  have y2 : W5.cell? ⟨Q, 2, none⟩ = some (.int .i64 p.flags) := kY 2 (by decide)
  have y3 : W5.cell? ⟨Q, 3, none⟩ = some (.int .i64 p.info) := kY 3 (by decide)
  have y4 : W5.cell? ⟨Q, 4, none⟩ = some (.int .i64 p.wide) := kY 4 (by decide)
  have y5 : W5.cell? ⟨Q, 5, none⟩ = some (.int .i64 p.short) := kY 5 (by decide)
  have y6 : W5.cell? ⟨Q, 6, none⟩ = some (.int .i64 p.tag) := kY 6 (by decide)
  have y7 : W5.cell? ⟨Q, 7, none⟩ = some (.int .i64 p.word) := kY 7 (by decide)
  have y8 : W5.cell? ⟨Q, 8, none⟩ = some (.int .i64 p.num) := kY 8 (by decide)
  have y9 : W5.cell? ⟨Q, 9, none⟩ = some (.int .i64 p.exp) := kY 9 (by decide)
  have y10 : W5.cell? ⟨Q, 10, none⟩ = some (.int .u8 (p.tb 0 : Nat)) := kY 10 (by decide)
  have y11 : W5.cell? ⟨Q, 11, none⟩ = some (.int .u8 (p.tb 1 : Nat)) := kY 11 (by decide)
  have y12 : W5.cell? ⟨Q, 12, none⟩ = some (.int .u8 (p.tb 2 : Nat)) := kY 12 (by decide)
  have y13 : W5.cell? ⟨Q, 13, none⟩ = some (.int .u8 (p.tb 3 : Nat)) := kY 13 (by decide)
  have y14 : W5.cell? ⟨Q, 14, none⟩ = some (.int .u8 (p.tb 4 : Nat)) := kY 14 (by decide)
  have y15 : W5.cell? ⟨Q, 15, none⟩ = some (.int .u8 (p.tb 5 : Nat)) := kY 15 (by decide)
  have y16 : W5.cell? ⟨Q, 16, none⟩ = some (.int .u8 (p.tb 6 : Nat)) := kY 16 (by decide)
  have y17 : W5.cell? ⟨Q, 17, none⟩ = some (.int .u8 (p.tb 7 : Nat)) := kY 17 (by decide)
  have y18 : W5.cell? ⟨Q, 18, none⟩ = some (.int .u8 (p.tb 8 : Nat)) := kY 18 (by decide)
  have y19 : W5.cell? ⟨Q, 19, none⟩ = some (.int .u8 (p.tb 9 : Nat)) := kY 19 (by decide)
  have y20 : W5.cell? ⟨Q, 20, none⟩ = some (.int .u8 (p.tb 10 : Nat)) := kY 20 (by decide)
  have y21 : W5.cell? ⟨Q, 21, none⟩ = some (.int .u8 (p.tb 11 : Nat)) := kY 21 (by decide)
  have y22 : W5.cell? ⟨Q, 22, none⟩ = some (.int .u8 (p.tb 12 : Nat)) := kY 22 (by decide)
  have y23 : W5.cell? ⟨Q, 23, none⟩ = some (.int .u8 (p.tb 13 : Nat)) := kY 23 (by decide)
  have y24 : W5.cell? ⟨Q, 24, none⟩ = some (.int .u8 (p.tb 14 : Nat)) := kY 24 (by decide)
  have y25 : W5.cell? ⟨Q, 25, none⟩ = some (.int .u8 (p.tb 15 : Nat)) := kY 25 (by decide)
  have HS := Lib.hid (same_any (.slice pa dl pc) (.slice qa dl qc) p.data p.data W5 (H1.out.later HBel.out) (H2.out.later HBel.out) (by rw [← HDl.out]; exact hl))
  clear hW5 kX kY kZ c5 c6 f5 f6 HA HB HB1 HCP HFP HKP HCQ HFQ HKQ H1 H2
  have heq := eq_tail p.tb W5
  go_wp2_with fail
  refine HS.out.mono ?_
  rintro e V ⟨rfl, hb⟩
  have HBV := Lib.hid (HBel.out.trans (hb.mono HBel.out.size))
  clear hb HS
  have et : decide (p.data = p.data) = true := by simp
  go_wp2_with fail
  go_ret
  exact ⟨rfl, HBV.out⟩
end Go.Proofs.Ytodmpchnjakchaa
