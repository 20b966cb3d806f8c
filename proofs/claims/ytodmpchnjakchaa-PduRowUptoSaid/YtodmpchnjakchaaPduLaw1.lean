/-
  PDUs: given, told, the document's Same on equal ones.
-/
import Derived.Test.YtodmpchnjakchaaPduParse
namespace Go.Proofs.Ytodmpchnjakchaa
open Go.RowKit

theorem tail_range (p : Pdu.PD) (dv : Value) (b : Nat) (w : World) (h : ∀ j, w.cell? ⟨b, j, none⟩ = (p.cells dv)[j]?) : w.rangeAt b 10 [.int .u8 (p.tb 0 : Nat), .int .u8 (p.tb 1 : Nat), .int .u8 (p.tb 2 : Nat), .int .u8 (p.tb 3 : Nat), .int .u8 (p.tb 4 : Nat), .int .u8 (p.tb 5 : Nat), .int .u8 (p.tb 6 : Nat), .int .u8 (p.tb 7 : Nat), .int .u8 (p.tb 8 : Nat), .int .u8 (p.tb 9 : Nat), .int .u8 (p.tb 10 : Nat), .int .u8 (p.tb 11 : Nat), .int .u8 (p.tb 12 : Nat), .int .u8 (p.tb 13 : Nat), .int .u8 (p.tb 14 : Nat), .int .u8 (p.tb 15 : Nat)] := fun j v hj => by
  have hj16 : j < 16 := (List.getElem?_eq_some_iff.1 hj).1
  rw [h, ← hj]
  have : j = 0 ∨ j = 1 ∨ j = 2 ∨ j = 3 ∨ j = 4 ∨ j = 5 ∨ j = 6 ∨ j = 7 ∨ j = 8 ∨ j = 9 ∨ j = 10 ∨ j = 11 ∨ j = 12 ∨ j = 13 ∨ j = 14 ∨ j = 15 := by omega
  rcases this with rfl | rfl | rfl | rfl | rfl | rfl | rfl | rfl | rfl | rfl | rfl | rfl | rfl | rfl | rfl | rfl <;> rfl

set_option maxRecDepth 100000 in
set_option maxHeartbeats 6400000 in
theorem given_any (p : Pdu.PD) (dv : Value) (w : World) (hd : BytesAt w dv p.data) :
    Calls Try.prog 11 #[.agg (p.cells dv)] w fun e w' => e = .returned (.agg (p.cells dv)) ∧ Below w.heap.size w w' := by
  obtain ⟨da, dc, rfl, _⟩ := hd.form
  clear hd
  obtain ⟨dl, hdl⟩ : ∃ dl, dl = p.data.length := ⟨_, rfl⟩
  rw [← hdl]
  clear hdl
  obtain ⟨W, hW⟩ : ∃ W, W = (w.alloc (.cells (p.cells (.slice da dl dc)) 25)).alloc (.cells #[.int .i64 0, .bool false, .int .i64 0, .int .i64 0, .int .i64 0, .int .i64 0, .int .i64 0, .int .i64 0, .int .i64 0, .int .i64 0, .int .u8 0, .int .u8 0, .int .u8 0, .int .u8 0, .int .u8 0, .int .u8 0, .int .u8 0, .int .u8 0, .int .u8 0, .int .u8 0, .int .u8 0, .int .u8 0, .int .u8 0, .int .u8 0, .int .u8 0, .int .u8 0, .slice none 0 0] 32) := ⟨_, rfl⟩
  have HC := Lib.hid (show ∀ j, W.cell? ⟨w.heap.size, j, none⟩ = (p.cells (.slice da dl dc))[j]? from fun j => by rw [hW, World.cell?_alloc_lt _ _ _ (by simp)]; exact World.cell?_alloc_new _ _ _ _)
  have HZ := Lib.hid (show ∀ j, W.cell? ⟨w.heap.size + 1, j, none⟩ = (Pdu.pdZero.cells (.slice none 0 0))[j]? from fun j => by
    have e : w.heap.size + 1 = (w.alloc (.cells (p.cells (.slice da dl dc)) 25)).heap.size := by simp
    rw [hW, e]; exact World.cell?_alloc_new _ _ _ _)
  have HF := Lib.hid (show ∀ j, W.frozen? ⟨w.heap.size + 1, j, none⟩ = false from fun j => by
    have e : w.heap.size + 1 = (w.alloc (.cells (p.cells (.slice da dl dc)) 25)).heap.size := by simp
    rw [hW, e]; exact frozen_new _ _ _ _)
  have HB := Lib.hid (show Below w.heap.size w W from by rw [hW]; exact ((Below.refl _ _).alloc (Nat.le_refl _) _).alloc (by simp) _)
  have hsW : W.heap.size = w.heap.size + 2 := by rw [hW]; simp
  have HI2 := Lib.hid (show (Try.prog.info? 32).map (·.size) = some 27 by kernel_rfl)
  have HU2 := Lib.hid (Try.underlying32)
  have HIA := Lib.hid (show (Try.prog.info? 22).map (·.size) = some 16 by kernel_rfl)
  have HUA := Lib.hid (Try.underlying22)
  have HRg := Lib.hid (tail_range p (.slice da dl dc) w.heap.size W HC.out)
  have x0 : W.cell? ⟨w.heap.size, 0, none⟩ = some (.int .i64 p.op) := HC.out 0
  have x1 : W.cell? ⟨w.heap.size, 1, none⟩ = some (.bool p.imm) := HC.out 1
  have x2 : W.cell? ⟨w.heap.size, 2, none⟩ = some (.int .i64 p.flags) := HC.out 2
  have x3 : W.cell? ⟨w.heap.size, 3, none⟩ = some (.int .i64 p.info) := HC.out 3
  have x4 : W.cell? ⟨w.heap.size, 4, none⟩ = some (.int .i64 p.wide) := HC.out 4
  have x5 : W.cell? ⟨w.heap.size, 5, none⟩ = some (.int .i64 p.short) := HC.out 5
  have x6 : W.cell? ⟨w.heap.size, 6, none⟩ = some (.int .i64 p.tag) := HC.out 6
  have x7 : W.cell? ⟨w.heap.size, 7, none⟩ = some (.int .i64 p.word) := HC.out 7
  have x8 : W.cell? ⟨w.heap.size, 8, none⟩ = some (.int .i64 p.num) := HC.out 8
  have x9 : W.cell? ⟨w.heap.size, 9, none⟩ = some (.int .i64 p.exp) := HC.out 9
  have x26 : W.cell? ⟨w.heap.size, 26, none⟩ = some (.slice da dl dc) := HC.out 26
  go_enter Try.func11, Try.ntmps11
  go_upto_region 1 with fail
  rw [← hW]
  clear hW
  go_wp2_with (first | refine wpList_load_mid rfl 22 _ rfl w.heap.size 10 rfl [.int .u8 (p.tb 0 : Nat), .int .u8 (p.tb 1 : Nat), .int .u8 (p.tb 2 : Nat), .int .u8 (p.tb 3 : Nat), .int .u8 (p.tb 4 : Nat), .int .u8 (p.tb 5 : Nat), .int .u8 (p.tb 6 : Nat), .int .u8 (p.tb 7 : Nat), .int .u8 (p.tb 8 : Nat), .int .u8 (p.tb 9 : Nat), .int .u8 (p.tb 10 : Nat), .int .u8 (p.tb 11 : Nat), .int .u8 (p.tb 12 : Nat), .int .u8 (p.tb 13 : Nat), .int .u8 (p.tb 14 : Nat), .int .u8 (p.tb 15 : Nat)] _ HRg.out HUA.out rfl HIA.out ?_ | (refine wpList_store_pd rfl 32 (.tmp 2) (.tmp 27) rfl (w.heap.size + 1) Pdu.pdZero p (.slice none 0 0) (.slice da dl dc) rfl rfl HZ.out HF.out rfl HI2.out ?_; intro W9 hc9 hf9 hk9 hs9; have HC9 := Lib.hid hc9; have HK9 := Lib.hid hk9; clear hc9 hf9 hk9))
  (try simp only [Exit.inBlock, Exit.then])
  refine bodyPost_ret (results_cell (cs := (p.cells (.slice da dl dc)).toList) rfl _ rfl (pd_range p _ _ _ HC9.out) HU2.out rfl (by rw [HI2.out]; rfl)) rfl ?_
  exact ⟨rfl, HB.out.trans (HK9.out.below (by omega) (fun z h1 h2 => by omega))⟩

set_option maxRecDepth 100000 in
set_option maxHeartbeats 6400000 in
theorem told_any (p : Pdu.PD) (dv : Value) (w : World) (hd : BytesAt w dv p.data) :
    Calls Try.prog 16 #[.agg (p.cells dv)] w fun e w' => e = .returned (.agg (p.cells dv)) ∧ Below w.heap.size w w' := by
  obtain ⟨da, dc, rfl, _⟩ := hd.form
  clear hd
  obtain ⟨dl, hdl⟩ : ∃ dl, dl = p.data.length := ⟨_, rfl⟩
  rw [← hdl]
  clear hdl
  obtain ⟨W, hW⟩ : ∃ W, W = (w.alloc (.cells (p.cells (.slice da dl dc)) 32)).alloc (.cells #[.int .i64 0, .bool false, .int .i64 0, .int .i64 0, .int .i64 0, .int .i64 0, .int .i64 0, .int .i64 0, .int .i64 0, .int .i64 0, .int .u8 0, .int .u8 0, .int .u8 0, .int .u8 0, .int .u8 0, .int .u8 0, .int .u8 0, .int .u8 0, .int .u8 0, .int .u8 0, .int .u8 0, .int .u8 0, .int .u8 0, .int .u8 0, .int .u8 0, .int .u8 0, .slice none 0 0] 25) := ⟨_, rfl⟩
  have HC := Lib.hid (show ∀ j, W.cell? ⟨w.heap.size, j, none⟩ = (p.cells (.slice da dl dc))[j]? from fun j => by rw [hW, World.cell?_alloc_lt _ _ _ (by simp)]; exact World.cell?_alloc_new _ _ _ _)
  have HZ := Lib.hid (show ∀ j, W.cell? ⟨w.heap.size + 1, j, none⟩ = (Pdu.pdZero.cells (.slice none 0 0))[j]? from fun j => by
    have e : w.heap.size + 1 = (w.alloc (.cells (p.cells (.slice da dl dc)) 32)).heap.size := by simp
    rw [hW, e]; exact World.cell?_alloc_new _ _ _ _)
  have HF := Lib.hid (show ∀ j, W.frozen? ⟨w.heap.size + 1, j, none⟩ = false from fun j => by
    have e : w.heap.size + 1 = (w.alloc (.cells (p.cells (.slice da dl dc)) 32)).heap.size := by simp
    rw [hW, e]; exact frozen_new _ _ _ _)
  have HB := Lib.hid (show Below w.heap.size w W from by rw [hW]; exact ((Below.refl _ _).alloc (Nat.le_refl _) _).alloc (by simp) _)
  have hsW : W.heap.size = w.heap.size + 2 := by rw [hW]; simp
  have HI2 := Lib.hid (show (Try.prog.info? 25).map (·.size) = some 27 by kernel_rfl)
  have HU2 := Lib.hid (Try.underlying25)
  have HIA := Lib.hid (show (Try.prog.info? 22).map (·.size) = some 16 by kernel_rfl)
  have HUA := Lib.hid (Try.underlying22)
  have HRg := Lib.hid (tail_range p (.slice da dl dc) w.heap.size W HC.out)
  have x0 : W.cell? ⟨w.heap.size, 0, none⟩ = some (.int .i64 p.op) := HC.out 0
  have x1 : W.cell? ⟨w.heap.size, 1, none⟩ = some (.bool p.imm) := HC.out 1
  have x2 : W.cell? ⟨w.heap.size, 2, none⟩ = some (.int .i64 p.flags) := HC.out 2
  have x3 : W.cell? ⟨w.heap.size, 3, none⟩ = some (.int .i64 p.info) := HC.out 3
  have x4 : W.cell? ⟨w.heap.size, 4, none⟩ = some (.int .i64 p.wide) := HC.out 4
  have x5 : W.cell? ⟨w.heap.size, 5, none⟩ = some (.int .i64 p.short) := HC.out 5
  have x6 : W.cell? ⟨w.heap.size, 6, none⟩ = some (.int .i64 p.tag) := HC.out 6
  have x7 : W.cell? ⟨w.heap.size, 7, none⟩ = some (.int .i64 p.word) := HC.out 7
  have x8 : W.cell? ⟨w.heap.size, 8, none⟩ = some (.int .i64 p.num) := HC.out 8
  have x9 : W.cell? ⟨w.heap.size, 9, none⟩ = some (.int .i64 p.exp) := HC.out 9
  have x26 : W.cell? ⟨w.heap.size, 26, none⟩ = some (.slice da dl dc) := HC.out 26
  go_enter Try.func16, Try.ntmps16
  go_upto_region 1 with fail
  rw [← hW]
  clear hW
  go_wp2_with (first | refine wpList_load_mid rfl 22 _ rfl w.heap.size 10 rfl [.int .u8 (p.tb 0 : Nat), .int .u8 (p.tb 1 : Nat), .int .u8 (p.tb 2 : Nat), .int .u8 (p.tb 3 : Nat), .int .u8 (p.tb 4 : Nat), .int .u8 (p.tb 5 : Nat), .int .u8 (p.tb 6 : Nat), .int .u8 (p.tb 7 : Nat), .int .u8 (p.tb 8 : Nat), .int .u8 (p.tb 9 : Nat), .int .u8 (p.tb 10 : Nat), .int .u8 (p.tb 11 : Nat), .int .u8 (p.tb 12 : Nat), .int .u8 (p.tb 13 : Nat), .int .u8 (p.tb 14 : Nat), .int .u8 (p.tb 15 : Nat)] _ HRg.out HUA.out rfl HIA.out ?_ | (refine wpList_store_pd rfl 25 (.tmp 2) (.tmp 27) rfl (w.heap.size + 1) Pdu.pdZero p (.slice none 0 0) (.slice da dl dc) rfl rfl HZ.out HF.out rfl HI2.out ?_; intro W9 hc9 hf9 hk9 hs9; have HC9 := Lib.hid hc9; have HK9 := Lib.hid hk9; clear hc9 hf9 hk9))
  (try simp only [Exit.inBlock, Exit.then])
  refine bodyPost_ret (results_cell (cs := (p.cells (.slice da dl dc)).toList) rfl _ rfl (pd_range p _ _ _ HC9.out) HU2.out rfl (by rw [HI2.out]; rfl)) rfl ?_
  exact ⟨rfl, HB.out.trans (HK9.out.below (by omega) (fun z h1 h2 => by omega))⟩

end Go.Proofs.Ytodmpchnjakchaa
