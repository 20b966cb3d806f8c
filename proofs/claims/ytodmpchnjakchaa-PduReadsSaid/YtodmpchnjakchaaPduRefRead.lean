/-
  PDUs: the document's read.
-/
import Derived.Test.YtodmpchnjakchaaPduKnown
namespace Go.Proofs.Ytodmpchnjakchaa
open Go.RowKit

/-- What is read so far: i bytes of the tail. -/
def tlP (l : List Nat) (i : Nat) : Pdu.PD := { Pdu.read l with tail := (List.range 16).map fun m => if m < i then l.getD (32 + m) 0 else 0 }
theorem tlP_end (l : List Nat) (h : 48 ≤ l.length) : tlP l 16 = Pdu.read l := by
  have e : ((List.range 16).map fun m => if m < 16 then l.getD (32 + m) 0 else 0) = (l.drop 32).take 16 := by
    apply List.ext_getElem
    · simp; omega
    · intro i h1 h2
      simp at h1
      simp [h1, List.getD, show 32 + i < l.length by omega]
  unfold tlP
  rw [e]
  rfl
theorem tlP_cells_set (l : List Nat) (i : Nat) (h : i < 16) (dv : Value) (j : Nat) : ((tlP l (i + 1)).cells dv)[j]? = if j = 10 + i then some (.int .u8 (l.getD (32 + i) 0 : Nat)) else ((tlP l i).cells dv)[j]? := by
  have : i = 0 ∨ i = 1 ∨ i = 2 ∨ i = 3 ∨ i = 4 ∨ i = 5 ∨ i = 6 ∨ i = 7 ∨ i = 8 ∨ i = 9 ∨ i = 10 ∨ i = 11 ∨ i = 12 ∨ i = 13 ∨ i = 14 ∨ i = 15 := by omega
  have e : (tlP l (i + 1)).cells dv = ((tlP l i).cells dv).setIfInBounds (10 + i) (.int .u8 (l.getD (32 + i) 0 : Nat)) := by
    rcases this with rfl | rfl | rfl | rfl | rfl | rfl | rfl | rfl | rfl | rfl | rfl | rfl | rfl | rfl | rfl | rfl <;> rfl
  have s : 10 + i < ((tlP l i).cells dv).size := by rw [cells_size]; omega
  rw [e]
  by_cases hj : j = 10 + i
  · subst hj
    rw [if_pos rfl, Array.getElem?_setIfInBounds_self_of_lt s]
  · rw [if_neg hj, Array.getElem?_setIfInBounds_ne (fun e => hj e.symm)]
theorem tlP_cell (l : List Nat) (i : Nat) (h : i < 16) (dv : Value) : ∃ u : Nat, ((tlP l i).cells dv)[10 + i]? = some (.int .u8 (u : Int)) := by
  exact ⟨_, cells_tail (tlP l i) dv i h⟩
theorem numAt_one (l : List Nat) (h : 2 ≤ l.length) : Pdu.numAt l 1 1 = l.getD 1 0 := by
  have e0 : Pdu.numAt l 1 0 = 0 := by simp [Pdu.numAt, Pdu.num]
  rw [numAt_succ l 1 0 (by omega), e0]
  simp

set_option maxRecDepth 100000 in
set_option maxHeartbeats 6400000 in
theorem read18_any (B o n c : Nat) (l : List Nat) (w : World) (h : BytesAt w (.slice (some ⟨B, o, none⟩) n c) l) (hB : Crc.Bytes l) (h48 : 48 ≤ n) (hcap : n ≤ c) (hmax : n ≤ 9223372036854775807) :
    Calls Try.prog 28 #[.slice (some ⟨B, o, none⟩) n c] w fun e w' => e = .returned (.agg ((Pdu.read l).cells (.slice none 0 0))) ∧ Below w.heap.size w w' := by
  have hn := h.length
  have hcell : ∀ j, j < l.length → w.cell? ⟨B, o + j, none⟩ = some (.int .u8 (l.getD j 0 : Nat)) := fun j hj => by
    obtain ⟨b', o', e, _, hc⟩ := h.at j hj
    injection e with e
    injection e with e1 e2
    subst e1; subst e2
    exact hc
  have hBl : B < w.heap.size := block_lt (hcell 0 (by omega))
  have HCell := Lib.hid (show ∀ V, Below w.heap.size w V → ∀ j, j < l.length → V.cell? ⟨B, o + j, none⟩ = some (.int .u8 (l.getD j 0 : Nat)) from fun V hV j hj => (hV.cell (p := ⟨B, o + j, none⟩) hBl).trans (hcell j hj))
  have HByt := Lib.hid hB
  have hb0 : l.getD 0 0 < 256 := getD_byte hB 0
  have hb1 : l.getD 1 0 < 256 := getD_byte hB 1
  have HIR := Lib.hid (show (Try.prog.info? 25).map (·.size) = some 27 by kernel_rfl)
  have HUR := Lib.hid (Try.underlying25)
  obtain ⟨W0, hW0⟩ : ∃ W0, W0 = w.alloc (.cells #[.int .i64 0, .bool false, .int .i64 0, .int .i64 0, .int .i64 0, .int .i64 0, .int .i64 0, .int .i64 0, .int .i64 0, .int .i64 0, .int .u8 0, .int .u8 0, .int .u8 0, .int .u8 0, .int .u8 0, .int .u8 0, .int .u8 0, .int .u8 0, .int .u8 0, .int .u8 0, .int .u8 0, .int .u8 0, .int .u8 0, .int .u8 0, .int .u8 0, .int .u8 0, .slice none 0 0] 25) := ⟨_, rfl⟩
  have hbW0 : Below w.heap.size w W0 := by rw [hW0]; exact allocBelow w _
  have hs0 : W0.heap.size = w.heap.size + 1 := by rw [hW0]; simp
  have HR0 := Lib.hid (show ∀ j, W0.cell? ⟨w.heap.size, j, none⟩ = (Pdu.pdZero.cells (.slice none 0 0))[j]? from fun j => by rw [hW0]; exact World.cell?_alloc_new _ _ _ _)
  have HG0 := Lib.hid (show ∀ j, W0.frozen? ⟨w.heap.size, j, none⟩ = false from fun j => by rw [hW0]; exact frozen_new _ _ _ _)
  have HBW0 := Lib.hid hbW0
  have HDof : ∀ V, Below W0.heap.size W0 V → Hid (BytesAt V (.slice (some ⟨B, o, none⟩) n c) l) := fun V hV => (h.later hbW0).below hV (h.lies.mono fun k hk => by omega)
  have HXof : ∀ V, Below W0.heap.size W0 V → Hid (V.cell? ⟨B, o, none⟩ = some (.int .u8 (l.getD 0 0 : Nat)) ∧ V.cell? ⟨B, o + 1, none⟩ = some (.int .u8 (l.getD 1 0 : Nat))) := fun V hV => ⟨HCell.out V (hbW0.trans (hV.mono (by omega))) 0 (by omega), HCell.out V (hbW0.trans (hV.mono (by omega))) 1 (by omega)⟩
  have HIm := Lib.hid (rfl : (l.getD 0 0 / 64 % 2 == 1) = (l.getD 0 0 / 64 % 2 == 1))
  have HV0 : Hid (∀ im : Bool, im = (l.getD 0 0 / 64 % 2 == 1) → (.agg #[.int .i64 ((l.getD 0 0 % 64 : Nat) : Int), .bool im, .int .i64 (l.getD 1 0 : Nat), .int .i64 (Pdu.numAt l 2 2 : Nat), .int .i64 (Pdu.numAt l 8 6 : Nat), .int .i64 (Pdu.numAt l 14 2 : Nat), .int .i64 (Pdu.numAt l 16 4 : Nat), .int .i64 (Pdu.numAt l 20 4 : Nat), .int .i64 (Pdu.numAt l 24 4 : Nat), .int .i64 (Pdu.numAt l 28 4 : Nat), .int .u8 0, .int .u8 0, .int .u8 0, .int .u8 0, .int .u8 0, .int .u8 0, .int .u8 0, .int .u8 0, .int .u8 0, .int .u8 0, .int .u8 0, .int .u8 0, .int .u8 0, .int .u8 0, .int .u8 0, .int .u8 0, .slice none 0 0] : Value) = .agg ((tlP l 0).cells (.slice none 0 0))) := fun im him => by
    rw [him, ← numAt_one l (by omega)]
    rfl
  clear h hcell hB hbW0 HIm
  obtain ⟨b0, hb0e⟩ : ∃ b0, b0 = l.getD 0 0 := ⟨_, rfl⟩
  obtain ⟨b1, hb1e⟩ : ∃ b1, b1 = l.getD 1 0 := ⟨_, rfl⟩
  rw [← hb0e] at hb0 HV0
  rw [← hb1e] at hb1 HV0
  simp only [← hb0e, ← hb1e] at HXof
  clear hb0e hb1e
  obtain ⟨c0, hc0⟩ : ∃ c0, c0 = b0 % 64 := ⟨_, rfl⟩
  obtain ⟨d0, hd0⟩ : ∃ d0, d0 = b0 / 64 := ⟨_, rfl⟩
  obtain ⟨e0, he0⟩ : ∃ e0, e0 = d0 % 2 := ⟨_, rfl⟩
  obtain ⟨im, him⟩ : ∃ im, im = (e0 == 1) := ⟨_, rfl⟩
  have HVal := Lib.hid (HV0.out im (by rw [him, he0, hd0]))
  rw [← hc0] at HVal
  have hrem : (b0 : Int).tmod 64 = (c0 : Int) := by rw [hc0, Int.tmod_eq_emod_of_nonneg (Int.natCast_nonneg _)]; omega
  have hquo : (b0 : Int).tdiv 64 = (d0 : Int) := by rw [hd0, Int.tdiv_eq_ediv_of_nonneg (Int.natCast_nonneg _)]; omega
  have hrem2 : (d0 : Int).tmod 2 = (e0 : Int) := by rw [he0, Int.tmod_eq_emod_of_nonneg (Int.natCast_nonneg _)]; omega
  have hquo' : (b0 : Int) / 64 = (d0 : Int) := by omega
  have hrem' : (b0 : Int) % 64 = (c0 : Int) := by omega
  have hrem2' : (d0 : Int) % 2 = (e0 : Int) := by omega
  have him' : ((e0 : Int) == 1) = im := by
    rw [him]
    have : e0 = 0 ∨ e0 = 1 := by omega
    rcases this with h | h <;> rw [h] <;> rfl
  have hbd : c0 < 64 ∧ d0 < 4 ∧ e0 < 2 := by omega
  clear hc0 hd0 he0 him HV0
  have hi0 : (0 : Int) < (n : Int) := by omega
  have hi1 : (1 : Int) < (n : Int) := by omega
  have HVal := Lib.hid (show ∀ _ : Unit, (.agg #[.int .i64 (c0 : Int), .bool im, .int .i64 (b1 : Int), .int .i64 (Pdu.numAt l 2 2 : Nat), .int .i64 (Pdu.numAt l 8 6 : Nat), .int .i64 (Pdu.numAt l 14 2 : Nat), .int .i64 (Pdu.numAt l 16 4 : Nat), .int .i64 (Pdu.numAt l 20 4 : Nat), .int .i64 (Pdu.numAt l 24 4 : Nat), .int .i64 (Pdu.numAt l 28 4 : Nat), .int .u8 0, .int .u8 0, .int .u8 0, .int .u8 0, .int .u8 0, .int .u8 0, .int .u8 0, .int .u8 0, .int .u8 0, .int .u8 0, .int .u8 0, .int .u8 0, .int .u8 0, .int .u8 0, .int .u8 0, .int .u8 0, .slice none 0 0] : Value) = .agg ((tlP l 0).cells (.slice none 0 0)) from fun _ => HVal.out)
  go_enter Try.func28, Try.ntmps28
  go_upto_region 1 with fail
  rw [← hW0]
  clear hW0
  go_cut [3] from 5 to 35 (fun s3 wx => s3 = .pointer (some ⟨W0.heap.size, 0, none⟩) ∧ (∀ j, wx.cell? ⟨W0.heap.size, j, none⟩ = ((tlP l 0).cells (.slice none 0 0))[j]?) ∧ (∀ j, wx.frozen? ⟨W0.heap.size, j, none⟩ = false) ∧ Below W0.heap.size W0 wx ∧ wx.heap.size = W0.heap.size + 1)
  case first =>
    have hk0 : Below W0.heap.size W0 W0.drew := (Below.refl _ _).drew
    have hk1 : Below W0.heap.size W0 (W0.alloc (.cells #[.int .i64 0, .bool false, .int .i64 0, .int .i64 0, .int .i64 0, .int .i64 0, .int .i64 0, .int .i64 0, .int .i64 0, .int .i64 0, .int .u8 0, .int .u8 0, .int .u8 0, .int .u8 0, .int .u8 0, .int .u8 0, .int .u8 0, .int .u8 0, .int .u8 0, .int .u8 0, .int .u8 0, .int .u8 0, .int .u8 0, .int .u8 0, .int .u8 0, .int .u8 0, .slice none 0 0] 25)).drew := (allocBelow W0 _).drew
    have HBz := Lib.hid hk1
    have HZ1 := Lib.hid (show ∀ j, (W0.alloc (.cells #[.int .i64 0, .bool false, .int .i64 0, .int .i64 0, .int .i64 0, .int .i64 0, .int .i64 0, .int .i64 0, .int .i64 0, .int .i64 0, .int .u8 0, .int .u8 0, .int .u8 0, .int .u8 0, .int .u8 0, .int .u8 0, .int .u8 0, .int .u8 0, .int .u8 0, .int .u8 0, .int .u8 0, .int .u8 0, .int .u8 0, .int .u8 0, .int .u8 0, .int .u8 0, .slice none 0 0] 25)).drew.cell? ⟨W0.heap.size, j, none⟩ = (Pdu.pdZero.cells (.slice none 0 0))[j]? from fun j => World.cell?_alloc_new _ _ _ _)
    have HF1 := Lib.hid (show ∀ j, (W0.alloc (.cells #[.int .i64 0, .bool false, .int .i64 0, .int .i64 0, .int .i64 0, .int .i64 0, .int .i64 0, .int .i64 0, .int .i64 0, .int .i64 0, .int .u8 0, .int .u8 0, .int .u8 0, .int .u8 0, .int .u8 0, .int .u8 0, .int .u8 0, .int .u8 0, .int .u8 0, .int .u8 0, .int .u8 0, .int .u8 0, .int .u8 0, .int .u8 0, .int .u8 0, .int .u8 0, .slice none 0 0] 25)).drew.frozen? ⟨W0.heap.size, j, none⟩ = false from fun j => frozen_new _ _ _ _)
    refine wp_region_held_drew (S := fun w' => Below W0.heap.size W0 w') (by kernel_rfl) hk0 (fun hHeld => ?_)
    refine wpAnyH_take (i := 0) (v := .slice (some ⟨B, o, none⟩) n c) ops_at0 (by kernel_rfl) (by kernel_rfl) (by kernel_rfl) (fun _ _ _ h => h) (Or.inl ⟨by rfl, fun V hV => ?_⟩) hHeld ?_
    · go_simp
    simp only [Act.put, List.setIfInBounds_toArray, List.set_cons_zero, List.set_cons_succ]
    refine wpAnyH_take (i := 1) (v := .pointer (some ⟨B, o, none⟩)) ops_at1 (by kernel_rfl) (by kernel_rfl) (by kernel_rfl) (fun _ _ _ h => h) (Or.inl ⟨by rfl, fun V hV => ?_⟩) hHeld ?_
    · go_simp
      intro h; omega
    simp only [Act.put, List.setIfInBounds_toArray, List.set_cons_zero, List.set_cons_succ]
    refine wpAnyH_take (i := 2) (v := .int .u8 (b0 : Int)) ops_at2 (by kernel_rfl) (by kernel_rfl) (by kernel_rfl) (fun _ _ _ h => h) (Or.inl ⟨by rfl, fun V hV => ?_⟩) hHeld ?_
    · obtain ⟨hx0, hx1⟩ := (HXof V hV).out
      go_simp
    simp only [Act.put, List.setIfInBounds_toArray, List.set_cons_zero, List.set_cons_succ]
    refine wpAnyH_take (i := 3) (v := .int .i64 (b0 : Int)) ops_at3 (by kernel_rfl) (by kernel_rfl) (by kernel_rfl) (fun _ _ _ h => h) (Or.inl ⟨by rfl, fun V hV => ?_⟩) hHeld ?_
    · go_simp
      exact IntWalk.i64_in _ (by omega)
    simp only [Act.put, List.setIfInBounds_toArray, List.set_cons_zero, List.set_cons_succ]
    refine wpAnyH_take (i := 4) (v := .int .i64 (c0 : Int)) ops_at4 (by kernel_rfl) (by kernel_rfl) (by kernel_rfl) (fun _ _ _ h => h) (Or.inl ⟨by rfl, fun V hV => ?_⟩) hHeld ?_
    · go_simp
    simp only [Act.put, List.setIfInBounds_toArray, List.set_cons_zero, List.set_cons_succ]
    refine wpAnyH_take (i := 5) (v := .slice (some ⟨B, o, none⟩) n c) ops_at5 (by kernel_rfl) (by kernel_rfl) (by kernel_rfl) (fun _ _ _ h => h) (Or.inl ⟨by rfl, fun V hV => ?_⟩) hHeld ?_
    · go_simp
    simp only [Act.put, List.setIfInBounds_toArray, List.set_cons_zero, List.set_cons_succ]
    refine wpAnyH_take (i := 6) (v := .pointer (some ⟨B, o, none⟩)) ops_at6 (by kernel_rfl) (by kernel_rfl) (by kernel_rfl) (fun _ _ _ h => h) (Or.inl ⟨by rfl, fun V hV => ?_⟩) hHeld ?_
    · go_simp
      intro h; omega
    simp only [Act.put, List.setIfInBounds_toArray, List.set_cons_zero, List.set_cons_succ]
    refine wpAnyH_take (i := 7) (v := .int .u8 (b0 : Int)) ops_at7 (by kernel_rfl) (by kernel_rfl) (by kernel_rfl) (fun _ _ _ h => h) (Or.inl ⟨by rfl, fun V hV => ?_⟩) hHeld ?_
    · obtain ⟨hx0, hx1⟩ := (HXof V hV).out
      go_simp
    simp only [Act.put, List.setIfInBounds_toArray, List.set_cons_zero, List.set_cons_succ]
    refine wpAnyH_take (i := 8) (v := .int .i64 (b0 : Int)) ops_at8 (by kernel_rfl) (by kernel_rfl) (by kernel_rfl) (fun _ _ _ h => h) (Or.inl ⟨by rfl, fun V hV => ?_⟩) hHeld ?_
    · go_simp
      exact IntWalk.i64_in _ (by omega)
    simp only [Act.put, List.setIfInBounds_toArray, List.set_cons_zero, List.set_cons_succ]
    refine wpAnyH_take (i := 9) (v := .int .i64 (d0 : Int)) ops_at9 (by kernel_rfl) (by kernel_rfl) (by kernel_rfl) (fun _ _ _ h => h) (Or.inl ⟨by rfl, fun V hV => ?_⟩) hHeld ?_
    · go_simp
      exact IntWalk.i64_in _ (by omega)
    simp only [Act.put, List.setIfInBounds_toArray, List.set_cons_zero, List.set_cons_succ]
    refine wpAnyH_take (i := 10) (v := .int .i64 (e0 : Int)) ops_at10 (by kernel_rfl) (by kernel_rfl) (by kernel_rfl) (fun _ _ _ h => h) (Or.inl ⟨by rfl, fun V hV => ?_⟩) hHeld ?_
    · go_simp
    simp only [Act.put, List.setIfInBounds_toArray, List.set_cons_zero, List.set_cons_succ]
    refine wpAnyH_take (i := 11) (v := .bool im) ops_at11 (by kernel_rfl) (by kernel_rfl) (by kernel_rfl) (fun _ _ _ h => h) (Or.inl ⟨by rfl, fun V hV => ?_⟩) hHeld ?_
    · go_simp
    simp only [Act.put, List.setIfInBounds_toArray, List.set_cons_zero, List.set_cons_succ]
    refine wpAnyH_take (i := 12) (v := .slice (some ⟨B, o, none⟩) n c) ops_at12 (by kernel_rfl) (by kernel_rfl) (by kernel_rfl) (fun _ _ _ h => h) (Or.inl ⟨by rfl, fun V hV => ?_⟩) hHeld ?_
    · go_simp
    simp only [Act.put, List.setIfInBounds_toArray, List.set_cons_zero, List.set_cons_succ]
    refine wpAnyH_take (i := 13) (v := .pointer (some ⟨B, o + 1, none⟩)) ops_at13 (by kernel_rfl) (by kernel_rfl) (by kernel_rfl) (fun _ _ _ h => h) (Or.inl ⟨by rfl, fun V hV => ?_⟩) hHeld ?_
    · go_simp
    simp only [Act.put, List.setIfInBounds_toArray, List.set_cons_zero, List.set_cons_succ]
    refine wpAnyH_take (i := 14) (v := .int .u8 (b1 : Int)) ops_at14 (by kernel_rfl) (by kernel_rfl) (by kernel_rfl) (fun _ _ _ h => h) (Or.inl ⟨by rfl, fun V hV => ?_⟩) hHeld ?_
    · obtain ⟨hx0, hx1⟩ := (HXof V hV).out
      go_simp
    simp only [Act.put, List.setIfInBounds_toArray, List.set_cons_zero, List.set_cons_succ]
    refine wpAnyH_take (i := 15) (v := .int .i64 (b1 : Int)) ops_at15 (by kernel_rfl) (by kernel_rfl) (by kernel_rfl) (fun _ _ _ h => h) (Or.inl ⟨by rfl, fun V hV => ?_⟩) hHeld ?_
    · go_simp
      exact IntWalk.i64_in _ (by omega)
    simp only [Act.put, List.setIfInBounds_toArray, List.set_cons_zero, List.set_cons_succ]
    refine wpAnyH_take (i := 16) (v := .slice (some ⟨B, o, none⟩) n c) ops_at16 (by kernel_rfl) (by kernel_rfl) (by kernel_rfl) (fun _ _ _ h => h) (Or.inl ⟨by rfl, fun V hV => ?_⟩) hHeld ?_
    · go_simp
    simp only [Act.put, List.setIfInBounds_toArray, List.set_cons_zero, List.set_cons_succ]
    refine wpAnyH_take (i := 18) (v := .slice (some ⟨B, o, none⟩) n c) ops_at18 (by kernel_rfl) (by kernel_rfl) (by kernel_rfl) (fun _ _ _ h => h) (Or.inl ⟨by rfl, fun V hV => ?_⟩) hHeld ?_
    · go_simp
    simp only [Act.put, List.setIfInBounds_toArray, List.set_cons_zero, List.set_cons_succ]
    refine wpAnyH_take (i := 20) (v := .slice (some ⟨B, o, none⟩) n c) ops_at20 (by kernel_rfl) (by kernel_rfl) (by kernel_rfl) (fun _ _ _ h => h) (Or.inl ⟨by rfl, fun V hV => ?_⟩) hHeld ?_
    · go_simp
    simp only [Act.put, List.setIfInBounds_toArray, List.set_cons_zero, List.set_cons_succ]
    refine wpAnyH_take (i := 22) (v := .slice (some ⟨B, o, none⟩) n c) ops_at22 (by kernel_rfl) (by kernel_rfl) (by kernel_rfl) (fun _ _ _ h => h) (Or.inl ⟨by rfl, fun V hV => ?_⟩) hHeld ?_
    · go_simp
    simp only [Act.put, List.setIfInBounds_toArray, List.set_cons_zero, List.set_cons_succ]
    refine wpAnyH_take (i := 24) (v := .slice (some ⟨B, o, none⟩) n c) ops_at24 (by kernel_rfl) (by kernel_rfl) (by kernel_rfl) (fun _ _ _ h => h) (Or.inl ⟨by rfl, fun V hV => ?_⟩) hHeld ?_
    · go_simp
    simp only [Act.put, List.setIfInBounds_toArray, List.set_cons_zero, List.set_cons_succ]
    refine wpAnyH_take (i := 26) (v := .slice (some ⟨B, o, none⟩) n c) ops_at26 (by kernel_rfl) (by kernel_rfl) (by kernel_rfl) (fun _ _ _ h => h) (Or.inl ⟨by rfl, fun V hV => ?_⟩) hHeld ?_
    · go_simp
    simp only [Act.put, List.setIfInBounds_toArray, List.set_cons_zero, List.set_cons_succ]
    refine wpAnyH_take (i := 28) (v := .slice (some ⟨B, o, none⟩) n c) ops_at28 (by kernel_rfl) (by kernel_rfl) (by kernel_rfl) (fun _ _ _ h => h) (Or.inl ⟨by rfl, fun V hV => ?_⟩) hHeld ?_
    · go_simp
    simp only [Act.put, List.setIfInBounds_toArray, List.set_cons_zero, List.set_cons_succ]
    refine wpAnyH_ready (rs := [17, 31]) (by kernel_rfl) (by simp) ?_
    refine AllReadyH.cons ops_at17 (fun K hK => ?_) (AllReadyH.cons ops_at31 (fun K hK => ?_) AllReadyH.nil)
    · skip
      rw [if_pos (by rfl)]
      go_simp
      refine (number_any _ l 2 2 _ (HDof _ hk0).out HByt.out (by omega) (by omega) (by omega) (by omega)).mono ?_
      rintro e V ⟨rfl, hVw⟩
      subst hVw
      go_wp2_with fail
      refine hK.out _ _ hk0 (fun hHeld => ?_)
      clear hK K
      refine wpAnyH_ready (rs := [19, 31]) (by kernel_rfl) (by simp) ?_
      refine AllReadyH.cons ops_at19 (fun K hK => ?_) (AllReadyH.cons ops_at31 (fun K hK => ?_) AllReadyH.nil)
      · skip
        rw [if_pos (by rfl)]
        go_simp
        refine (number_any _ l 8 6 _ (HDof _ hk0).out HByt.out (by omega) (by omega) (by omega) (by omega)).mono ?_
        rintro e V ⟨rfl, hVw⟩
        subst hVw
        go_wp2_with fail
        refine hK.out _ _ hk0 (fun hHeld => ?_)
        clear hK K
        refine wpAnyH_ready (rs := [21, 31]) (by kernel_rfl) (by simp) ?_
        refine AllReadyH.cons ops_at21 (fun K hK => ?_) (AllReadyH.cons ops_at31 (fun K hK => ?_) AllReadyH.nil)
        · skip
          rw [if_pos (by rfl)]
          go_simp
          refine (number_any _ l 14 2 _ (HDof _ hk0).out HByt.out (by omega) (by omega) (by omega) (by omega)).mono ?_
          rintro e V ⟨rfl, hVw⟩
          subst hVw
          go_wp2_with fail
          refine hK.out _ _ hk0 (fun hHeld => ?_)
          clear hK K
          refine wpAnyH_ready (rs := [23, 31]) (by kernel_rfl) (by simp) ?_
          refine AllReadyH.cons ops_at23 (fun K hK => ?_) (AllReadyH.cons ops_at31 (fun K hK => ?_) AllReadyH.nil)
          · skip
            rw [if_pos (by rfl)]
            go_simp
            refine (number_any _ l 16 4 _ (HDof _ hk0).out HByt.out (by omega) (by omega) (by omega) (by omega)).mono ?_
            rintro e V ⟨rfl, hVw⟩
            subst hVw
            go_wp2_with fail
            refine hK.out _ _ hk0 (fun hHeld => ?_)
            clear hK K
            refine wpAnyH_ready (rs := [25, 31]) (by kernel_rfl) (by simp) ?_
            refine AllReadyH.cons ops_at25 (fun K hK => ?_) (AllReadyH.cons ops_at31 (fun K hK => ?_) AllReadyH.nil)
            · skip
              rw [if_pos (by rfl)]
              go_simp
              refine (number_any _ l 20 4 _ (HDof _ hk0).out HByt.out (by omega) (by omega) (by omega) (by omega)).mono ?_
              rintro e V ⟨rfl, hVw⟩
              subst hVw
              go_wp2_with fail
              refine hK.out _ _ hk0 (fun hHeld => ?_)
              clear hK K
              refine wpAnyH_ready (rs := [27, 31]) (by kernel_rfl) (by simp) ?_
              refine AllReadyH.cons ops_at27 (fun K hK => ?_) (AllReadyH.cons ops_at31 (fun K hK => ?_) AllReadyH.nil)
              · skip
                rw [if_pos (by rfl)]
                go_simp
                refine (number_any _ l 24 4 _ (HDof _ hk0).out HByt.out (by omega) (by omega) (by omega) (by omega)).mono ?_
                rintro e V ⟨rfl, hVw⟩
                subst hVw
                go_wp2_with fail
                refine hK.out _ _ hk0 (fun hHeld => ?_)
                clear hK K
                refine wpAnyH_ready (rs := [29, 31]) (by kernel_rfl) (by simp) ?_
                refine AllReadyH.cons ops_at29 (fun K hK => ?_) (AllReadyH.cons ops_at31 (fun K hK => ?_) AllReadyH.nil)
                · skip
                  rw [if_pos (by rfl)]
                  go_simp
                  refine (number_any _ l 28 4 _ (HDof _ hk0).out HByt.out (by omega) (by omega) (by omega) (by omega)).mono ?_
                  rintro e V ⟨rfl, hVw⟩
                  subst hVw
                  go_wp2_with fail
                  refine hK.out _ _ hk0 (fun hHeld => ?_)
                  clear hK K
                  refine wpAnyH_take (i := 30) (v := .agg #[.int .i64 (c0 : Int), .bool im, .int .i64 (b1 : Int), .int .i64 (Pdu.numAt l 2 2 : Nat), .int .i64 (Pdu.numAt l 8 6 : Nat), .int .i64 (Pdu.numAt l 14 2 : Nat), .int .i64 (Pdu.numAt l 16 4 : Nat), .int .i64 (Pdu.numAt l 20 4 : Nat), .int .i64 (Pdu.numAt l 24 4 : Nat), .int .i64 (Pdu.numAt l 28 4 : Nat), .int .u8 0, .int .u8 0, .int .u8 0, .int .u8 0, .int .u8 0, .int .u8 0, .int .u8 0, .int .u8 0, .int .u8 0, .int .u8 0, .int .u8 0, .int .u8 0, .int .u8 0, .int .u8 0, .int .u8 0, .int .u8 0, .slice none 0 0]) ops_at30 (by kernel_rfl) (by kernel_rfl) (by kernel_rfl) (fun _ _ _ h => h) (Or.inl ⟨by rfl, fun V hV => ?_⟩) hHeld ?_
                  · go_simp
                  simp only [Act.put, List.setIfInBounds_toArray, List.set_cons_zero, List.set_cons_succ]
                  refine wpAnyH_ready (rs := [31]) (by kernel_rfl) (by simp) ?_
                  refine AllReadyH.cons ops_at31 (fun K hK => ?_) AllReadyH.nil
                  rw [if_pos (by rfl)]
                  go_simp
                  refine hK.out _ _ hk1 (fun hHeld => ?_)
                  clear hK K
                  refine wpAnyH_ready (rs := [32]) (by kernel_rfl) (by simp) ?_
                  refine AllReadyH.cons ops_at32 (fun K hK => ?_) AllReadyH.nil
                  rw [if_pos (by rfl)]
                  refine wp_store_pd 25 _ _ rfl W0.heap.size Pdu.pdZero (tlP l 0) (.slice none 0 0) (.slice none 0 0) ?_ (HVal.out ()) HZ1.out HF1.out rfl HIR.out (fun W2 hc2 hf2 hk2 hs2 => ?_)
                  · show Value.pointer _ = _
                    rw [hs0]
                  have hbel : Below W0.heap.size W0 W2 := HBz.out.trans (hk2.below (B := W0.heap.size) (by simp) (fun z h1 h2 => by omega))
                  have HC2 := Lib.hid hc2
                  have HF2 := Lib.hid hf2
                  clear hc2 hf2 hk2
                  refine hK.out _ _ hbel (fun hHeld => ?_)
                  clear hK K
                  refine wpAnyH_done (by kernel_rfl) ?_ _
                  go_wp2_with fail
                  go_meet
                  exact ⟨by rw [hs0], HC2.out, HF2.out, hbel, by rw [hs2]; simp⟩
                · skip
                  rw [if_pos (by rfl)]
                  go_simp
                  refine hK.out _ _ hk1 (fun hHeld => ?_)
                  clear hK K
                  refine wpAnyH_ready (rs := [29]) (by kernel_rfl) (by simp) ?_
                  refine AllReadyH.cons ops_at29 (fun K hK => ?_) AllReadyH.nil
                  rw [if_pos (by rfl)]
                  go_simp
                  refine (number_any _ l 28 4 _ (HDof _ hk1).out HByt.out (by omega) (by omega) (by omega) (by omega)).mono ?_
                  rintro e V ⟨rfl, hVw⟩
                  subst hVw
                  go_wp2_with fail
                  refine hK.out _ _ hk1 (fun hHeld => ?_)
                  clear hK K
                  refine wpAnyH_take (i := 30) (v := .agg #[.int .i64 (c0 : Int), .bool im, .int .i64 (b1 : Int), .int .i64 (Pdu.numAt l 2 2 : Nat), .int .i64 (Pdu.numAt l 8 6 : Nat), .int .i64 (Pdu.numAt l 14 2 : Nat), .int .i64 (Pdu.numAt l 16 4 : Nat), .int .i64 (Pdu.numAt l 20 4 : Nat), .int .i64 (Pdu.numAt l 24 4 : Nat), .int .i64 (Pdu.numAt l 28 4 : Nat), .int .u8 0, .int .u8 0, .int .u8 0, .int .u8 0, .int .u8 0, .int .u8 0, .int .u8 0, .int .u8 0, .int .u8 0, .int .u8 0, .int .u8 0, .int .u8 0, .int .u8 0, .int .u8 0, .int .u8 0, .int .u8 0, .slice none 0 0]) ops_at30 (by kernel_rfl) (by kernel_rfl) (by kernel_rfl) (fun _ _ _ h => h) (Or.inl ⟨by rfl, fun V hV => ?_⟩) hHeld ?_
                  · go_simp
                  simp only [Act.put, List.setIfInBounds_toArray, List.set_cons_zero, List.set_cons_succ]
                  refine wpAnyH_ready (rs := [32]) (by kernel_rfl) (by simp) ?_
                  refine AllReadyH.cons ops_at32 (fun K hK => ?_) AllReadyH.nil
                  rw [if_pos (by rfl)]
                  refine wp_store_pd 25 _ _ rfl W0.heap.size Pdu.pdZero (tlP l 0) (.slice none 0 0) (.slice none 0 0) ?_ (HVal.out ()) HZ1.out HF1.out rfl HIR.out (fun W2 hc2 hf2 hk2 hs2 => ?_)
                  · show Value.pointer _ = _
                    rw [hs0]
                  have hbel : Below W0.heap.size W0 W2 := HBz.out.trans (hk2.below (B := W0.heap.size) (by simp) (fun z h1 h2 => by omega))
                  have HC2 := Lib.hid hc2
                  have HF2 := Lib.hid hf2
                  clear hc2 hf2 hk2
                  refine hK.out _ _ hbel (fun hHeld => ?_)
                  clear hK K
                  refine wpAnyH_done (by kernel_rfl) ?_ _
                  go_wp2_with fail
                  go_meet
                  exact ⟨by rw [hs0], HC2.out, HF2.out, hbel, by rw [hs2]; simp⟩
              · skip
                rw [if_pos (by rfl)]
                go_simp
                refine hK.out _ _ hk1 (fun hHeld => ?_)
                clear hK K
                refine wpAnyH_ready (rs := [27]) (by kernel_rfl) (by simp) ?_
                refine AllReadyH.cons ops_at27 (fun K hK => ?_) AllReadyH.nil
                rw [if_pos (by rfl)]
                go_simp
                refine (number_any _ l 24 4 _ (HDof _ hk1).out HByt.out (by omega) (by omega) (by omega) (by omega)).mono ?_
                rintro e V ⟨rfl, hVw⟩
                subst hVw
                go_wp2_with fail
                refine hK.out _ _ hk1 (fun hHeld => ?_)
                clear hK K
                refine wpAnyH_ready (rs := [29]) (by kernel_rfl) (by simp) ?_
                refine AllReadyH.cons ops_at29 (fun K hK => ?_) AllReadyH.nil
                rw [if_pos (by rfl)]
                go_simp
                refine (number_any _ l 28 4 _ (HDof _ hk1).out HByt.out (by omega) (by omega) (by omega) (by omega)).mono ?_
                rintro e V ⟨rfl, hVw⟩
                subst hVw
                go_wp2_with fail
                refine hK.out _ _ hk1 (fun hHeld => ?_)
                clear hK K
                refine wpAnyH_take (i := 30) (v := .agg #[.int .i64 (c0 : Int), .bool im, .int .i64 (b1 : Int), .int .i64 (Pdu.numAt l 2 2 : Nat), .int .i64 (Pdu.numAt l 8 6 : Nat), .int .i64 (Pdu.numAt l 14 2 : Nat), .int .i64 (Pdu.numAt l 16 4 : Nat), .int .i64 (Pdu.numAt l 20 4 : Nat), .int .i64 (Pdu.numAt l 24 4 : Nat), .int .i64 (Pdu.numAt l 28 4 : Nat), .int .u8 0, .int .u8 0, .int .u8 0, .int .u8 0, .int .u8 0, .int .u8 0, .int .u8 0, .int .u8 0, .int .u8 0, .int .u8 0, .int .u8 0, .int .u8 0, .int .u8 0, .int .u8 0, .int .u8 0, .int .u8 0, .slice none 0 0]) ops_at30 (by kernel_rfl) (by kernel_rfl) (by kernel_rfl) (fun _ _ _ h => h) (Or.inl ⟨by rfl, fun V hV => ?_⟩) hHeld ?_
                · go_simp
                simp only [Act.put, List.setIfInBounds_toArray, List.set_cons_zero, List.set_cons_succ]
                refine wpAnyH_ready (rs := [32]) (by kernel_rfl) (by simp) ?_
                refine AllReadyH.cons ops_at32 (fun K hK => ?_) AllReadyH.nil
                rw [if_pos (by rfl)]
                refine wp_store_pd 25 _ _ rfl W0.heap.size Pdu.pdZero (tlP l 0) (.slice none 0 0) (.slice none 0 0) ?_ (HVal.out ()) HZ1.out HF1.out rfl HIR.out (fun W2 hc2 hf2 hk2 hs2 => ?_)
                · show Value.pointer _ = _
                  rw [hs0]
                have hbel : Below W0.heap.size W0 W2 := HBz.out.trans (hk2.below (B := W0.heap.size) (by simp) (fun z h1 h2 => by omega))
                have HC2 := Lib.hid hc2
                have HF2 := Lib.hid hf2
                clear hc2 hf2 hk2
                refine hK.out _ _ hbel (fun hHeld => ?_)
                clear hK K
                refine wpAnyH_done (by kernel_rfl) ?_ _
                go_wp2_with fail
                go_meet
                exact ⟨by rw [hs0], HC2.out, HF2.out, hbel, by rw [hs2]; simp⟩
            · skip
              rw [if_pos (by rfl)]
              go_simp
              refine hK.out _ _ hk1 (fun hHeld => ?_)
              clear hK K
              refine wpAnyH_ready (rs := [25]) (by kernel_rfl) (by simp) ?_
              refine AllReadyH.cons ops_at25 (fun K hK => ?_) AllReadyH.nil
              rw [if_pos (by rfl)]
              go_simp
              refine (number_any _ l 20 4 _ (HDof _ hk1).out HByt.out (by omega) (by omega) (by omega) (by omega)).mono ?_
              rintro e V ⟨rfl, hVw⟩
              subst hVw
              go_wp2_with fail
              refine hK.out _ _ hk1 (fun hHeld => ?_)
              clear hK K
              refine wpAnyH_ready (rs := [27]) (by kernel_rfl) (by simp) ?_
              refine AllReadyH.cons ops_at27 (fun K hK => ?_) AllReadyH.nil
              rw [if_pos (by rfl)]
              go_simp
              refine (number_any _ l 24 4 _ (HDof _ hk1).out HByt.out (by omega) (by omega) (by omega) (by omega)).mono ?_
              rintro e V ⟨rfl, hVw⟩
              subst hVw
              go_wp2_with fail
              refine hK.out _ _ hk1 (fun hHeld => ?_)
              clear hK K
              refine wpAnyH_ready (rs := [29]) (by kernel_rfl) (by simp) ?_
              refine AllReadyH.cons ops_at29 (fun K hK => ?_) AllReadyH.nil
              rw [if_pos (by rfl)]
              go_simp
              refine (number_any _ l 28 4 _ (HDof _ hk1).out HByt.out (by omega) (by omega) (by omega) (by omega)).mono ?_
              rintro e V ⟨rfl, hVw⟩
              subst hVw
              go_wp2_with fail
              refine hK.out _ _ hk1 (fun hHeld => ?_)
              clear hK K
              refine wpAnyH_take (i := 30) (v := .agg #[.int .i64 (c0 : Int), .bool im, .int .i64 (b1 : Int), .int .i64 (Pdu.numAt l 2 2 : Nat), .int .i64 (Pdu.numAt l 8 6 : Nat), .int .i64 (Pdu.numAt l 14 2 : Nat), .int .i64 (Pdu.numAt l 16 4 : Nat), .int .i64 (Pdu.numAt l 20 4 : Nat), .int .i64 (Pdu.numAt l 24 4 : Nat), .int .i64 (Pdu.numAt l 28 4 : Nat), .int .u8 0, .int .u8 0, .int .u8 0, .int .u8 0, .int .u8 0, .int .u8 0, .int .u8 0, .int .u8 0, .int .u8 0, .int .u8 0, .int .u8 0, .int .u8 0, .int .u8 0, .int .u8 0, .int .u8 0, .int .u8 0, .slice none 0 0]) ops_at30 (by kernel_rfl) (by kernel_rfl) (by kernel_rfl) (fun _ _ _ h => h) (Or.inl ⟨by rfl, fun V hV => ?_⟩) hHeld ?_
              · go_simp
              simp only [Act.put, List.setIfInBounds_toArray, List.set_cons_zero, List.set_cons_succ]
              refine wpAnyH_ready (rs := [32]) (by kernel_rfl) (by simp) ?_
              refine AllReadyH.cons ops_at32 (fun K hK => ?_) AllReadyH.nil
              rw [if_pos (by rfl)]
              refine wp_store_pd 25 _ _ rfl W0.heap.size Pdu.pdZero (tlP l 0) (.slice none 0 0) (.slice none 0 0) ?_ (HVal.out ()) HZ1.out HF1.out rfl HIR.out (fun W2 hc2 hf2 hk2 hs2 => ?_)
              · show Value.pointer _ = _
                rw [hs0]
              have hbel : Below W0.heap.size W0 W2 := HBz.out.trans (hk2.below (B := W0.heap.size) (by simp) (fun z h1 h2 => by omega))
              have HC2 := Lib.hid hc2
              have HF2 := Lib.hid hf2
              clear hc2 hf2 hk2
              refine hK.out _ _ hbel (fun hHeld => ?_)
              clear hK K
              refine wpAnyH_done (by kernel_rfl) ?_ _
              go_wp2_with fail
              go_meet
              exact ⟨by rw [hs0], HC2.out, HF2.out, hbel, by rw [hs2]; simp⟩
          · skip
            rw [if_pos (by rfl)]
            go_simp
            refine hK.out _ _ hk1 (fun hHeld => ?_)
            clear hK K
            refine wpAnyH_ready (rs := [23]) (by kernel_rfl) (by simp) ?_
            refine AllReadyH.cons ops_at23 (fun K hK => ?_) AllReadyH.nil
            rw [if_pos (by rfl)]
            go_simp
            refine (number_any _ l 16 4 _ (HDof _ hk1).out HByt.out (by omega) (by omega) (by omega) (by omega)).mono ?_
            rintro e V ⟨rfl, hVw⟩
            subst hVw
            go_wp2_with fail
            refine hK.out _ _ hk1 (fun hHeld => ?_)
            clear hK K
            refine wpAnyH_ready (rs := [25]) (by kernel_rfl) (by simp) ?_
            refine AllReadyH.cons ops_at25 (fun K hK => ?_) AllReadyH.nil
            rw [if_pos (by rfl)]
            go_simp
            refine (number_any _ l 20 4 _ (HDof _ hk1).out HByt.out (by omega) (by omega) (by omega) (by omega)).mono ?_
            rintro e V ⟨rfl, hVw⟩
            subst hVw
            go_wp2_with fail
            refine hK.out _ _ hk1 (fun hHeld => ?_)
            clear hK K
            refine wpAnyH_ready (rs := [27]) (by kernel_rfl) (by simp) ?_
            refine AllReadyH.cons ops_at27 (fun K hK => ?_) AllReadyH.nil
            rw [if_pos (by rfl)]
            go_simp
            refine (number_any _ l 24 4 _ (HDof _ hk1).out HByt.out (by omega) (by omega) (by omega) (by omega)).mono ?_
            rintro e V ⟨rfl, hVw⟩
            subst hVw
            go_wp2_with fail
            refine hK.out _ _ hk1 (fun hHeld => ?_)
            clear hK K
            refine wpAnyH_ready (rs := [29]) (by kernel_rfl) (by simp) ?_
            refine AllReadyH.cons ops_at29 (fun K hK => ?_) AllReadyH.nil
            rw [if_pos (by rfl)]
            go_simp
            refine (number_any _ l 28 4 _ (HDof _ hk1).out HByt.out (by omega) (by omega) (by omega) (by omega)).mono ?_
            rintro e V ⟨rfl, hVw⟩
            subst hVw
            go_wp2_with fail
            refine hK.out _ _ hk1 (fun hHeld => ?_)
            clear hK K
            refine wpAnyH_take (i := 30) (v := .agg #[.int .i64 (c0 : Int), .bool im, .int .i64 (b1 : Int), .int .i64 (Pdu.numAt l 2 2 : Nat), .int .i64 (Pdu.numAt l 8 6 : Nat), .int .i64 (Pdu.numAt l 14 2 : Nat), .int .i64 (Pdu.numAt l 16 4 : Nat), .int .i64 (Pdu.numAt l 20 4 : Nat), .int .i64 (Pdu.numAt l 24 4 : Nat), .int .i64 (Pdu.numAt l 28 4 : Nat), .int .u8 0, .int .u8 0, .int .u8 0, .int .u8 0, .int .u8 0, .int .u8 0, .int .u8 0, .int .u8 0, .int .u8 0, .int .u8 0, .int .u8 0, .int .u8 0, .int .u8 0, .int .u8 0, .int .u8 0, .int .u8 0, .slice none 0 0]) ops_at30 (by kernel_rfl) (by kernel_rfl) (by kernel_rfl) (fun _ _ _ h => h) (Or.inl ⟨by rfl, fun V hV => ?_⟩) hHeld ?_
            · go_simp
            simp only [Act.put, List.setIfInBounds_toArray, List.set_cons_zero, List.set_cons_succ]
            refine wpAnyH_ready (rs := [32]) (by kernel_rfl) (by simp) ?_
            refine AllReadyH.cons ops_at32 (fun K hK => ?_) AllReadyH.nil
            rw [if_pos (by rfl)]
            refine wp_store_pd 25 _ _ rfl W0.heap.size Pdu.pdZero (tlP l 0) (.slice none 0 0) (.slice none 0 0) ?_ (HVal.out ()) HZ1.out HF1.out rfl HIR.out (fun W2 hc2 hf2 hk2 hs2 => ?_)
            · show Value.pointer _ = _
              rw [hs0]
            have hbel : Below W0.heap.size W0 W2 := HBz.out.trans (hk2.below (B := W0.heap.size) (by simp) (fun z h1 h2 => by omega))
            have HC2 := Lib.hid hc2
            have HF2 := Lib.hid hf2
            clear hc2 hf2 hk2
            refine hK.out _ _ hbel (fun hHeld => ?_)
            clear hK K
            refine wpAnyH_done (by kernel_rfl) ?_ _
            go_wp2_with fail
            go_meet
            exact ⟨by rw [hs0], HC2.out, HF2.out, hbel, by rw [hs2]; simp⟩
        · skip
          rw [if_pos (by rfl)]
          go_simp
          refine hK.out _ _ hk1 (fun hHeld => ?_)
          clear hK K
          refine wpAnyH_ready (rs := [21]) (by kernel_rfl) (by simp) ?_
          refine AllReadyH.cons ops_at21 (fun K hK => ?_) AllReadyH.nil
          rw [if_pos (by rfl)]
          go_simp
          refine (number_any _ l 14 2 _ (HDof _ hk1).out HByt.out (by omega) (by omega) (by omega) (by omega)).mono ?_
          rintro e V ⟨rfl, hVw⟩
          subst hVw
          go_wp2_with fail
          refine hK.out _ _ hk1 (fun hHeld => ?_)
          clear hK K
          refine wpAnyH_ready (rs := [23]) (by kernel_rfl) (by simp) ?_
          refine AllReadyH.cons ops_at23 (fun K hK => ?_) AllReadyH.nil
          rw [if_pos (by rfl)]
          go_simp
          refine (number_any _ l 16 4 _ (HDof _ hk1).out HByt.out (by omega) (by omega) (by omega) (by omega)).mono ?_
          rintro e V ⟨rfl, hVw⟩
          subst hVw
          go_wp2_with fail
          refine hK.out _ _ hk1 (fun hHeld => ?_)
          clear hK K
          refine wpAnyH_ready (rs := [25]) (by kernel_rfl) (by simp) ?_
          refine AllReadyH.cons ops_at25 (fun K hK => ?_) AllReadyH.nil
          rw [if_pos (by rfl)]
          go_simp
          refine (number_any _ l 20 4 _ (HDof _ hk1).out HByt.out (by omega) (by omega) (by omega) (by omega)).mono ?_
          rintro e V ⟨rfl, hVw⟩
          subst hVw
          go_wp2_with fail
          refine hK.out _ _ hk1 (fun hHeld => ?_)
          clear hK K
          refine wpAnyH_ready (rs := [27]) (by kernel_rfl) (by simp) ?_
          refine AllReadyH.cons ops_at27 (fun K hK => ?_) AllReadyH.nil
          rw [if_pos (by rfl)]
          go_simp
          refine (number_any _ l 24 4 _ (HDof _ hk1).out HByt.out (by omega) (by omega) (by omega) (by omega)).mono ?_
          rintro e V ⟨rfl, hVw⟩
          subst hVw
          go_wp2_with fail
          refine hK.out _ _ hk1 (fun hHeld => ?_)
          clear hK K
          refine wpAnyH_ready (rs := [29]) (by kernel_rfl) (by simp) ?_
          refine AllReadyH.cons ops_at29 (fun K hK => ?_) AllReadyH.nil
          rw [if_pos (by rfl)]
          go_simp
          refine (number_any _ l 28 4 _ (HDof _ hk1).out HByt.out (by omega) (by omega) (by omega) (by omega)).mono ?_
          rintro e V ⟨rfl, hVw⟩
          subst hVw
          go_wp2_with fail
          refine hK.out _ _ hk1 (fun hHeld => ?_)
          clear hK K
          refine wpAnyH_take (i := 30) (v := .agg #[.int .i64 (c0 : Int), .bool im, .int .i64 (b1 : Int), .int .i64 (Pdu.numAt l 2 2 : Nat), .int .i64 (Pdu.numAt l 8 6 : Nat), .int .i64 (Pdu.numAt l 14 2 : Nat), .int .i64 (Pdu.numAt l 16 4 : Nat), .int .i64 (Pdu.numAt l 20 4 : Nat), .int .i64 (Pdu.numAt l 24 4 : Nat), .int .i64 (Pdu.numAt l 28 4 : Nat), .int .u8 0, .int .u8 0, .int .u8 0, .int .u8 0, .int .u8 0, .int .u8 0, .int .u8 0, .int .u8 0, .int .u8 0, .int .u8 0, .int .u8 0, .int .u8 0, .int .u8 0, .int .u8 0, .int .u8 0, .int .u8 0, .slice none 0 0]) ops_at30 (by kernel_rfl) (by kernel_rfl) (by kernel_rfl) (fun _ _ _ h => h) (Or.inl ⟨by rfl, fun V hV => ?_⟩) hHeld ?_
          · go_simp
          simp only [Act.put, List.setIfInBounds_toArray, List.set_cons_zero, List.set_cons_succ]
          refine wpAnyH_ready (rs := [32]) (by kernel_rfl) (by simp) ?_
          refine AllReadyH.cons ops_at32 (fun K hK => ?_) AllReadyH.nil
          rw [if_pos (by rfl)]
          refine wp_store_pd 25 _ _ rfl W0.heap.size Pdu.pdZero (tlP l 0) (.slice none 0 0) (.slice none 0 0) ?_ (HVal.out ()) HZ1.out HF1.out rfl HIR.out (fun W2 hc2 hf2 hk2 hs2 => ?_)
          · show Value.pointer _ = _
            rw [hs0]
          have hbel : Below W0.heap.size W0 W2 := HBz.out.trans (hk2.below (B := W0.heap.size) (by simp) (fun z h1 h2 => by omega))
          have HC2 := Lib.hid hc2
          have HF2 := Lib.hid hf2
          clear hc2 hf2 hk2
          refine hK.out _ _ hbel (fun hHeld => ?_)
          clear hK K
          refine wpAnyH_done (by kernel_rfl) ?_ _
          go_wp2_with fail
          go_meet
          exact ⟨by rw [hs0], HC2.out, HF2.out, hbel, by rw [hs2]; simp⟩
      · skip
        rw [if_pos (by rfl)]
        go_simp
        refine hK.out _ _ hk1 (fun hHeld => ?_)
        clear hK K
        refine wpAnyH_ready (rs := [19]) (by kernel_rfl) (by simp) ?_
        refine AllReadyH.cons ops_at19 (fun K hK => ?_) AllReadyH.nil
        rw [if_pos (by rfl)]
        go_simp
        refine (number_any _ l 8 6 _ (HDof _ hk1).out HByt.out (by omega) (by omega) (by omega) (by omega)).mono ?_
        rintro e V ⟨rfl, hVw⟩
        subst hVw
        go_wp2_with fail
        refine hK.out _ _ hk1 (fun hHeld => ?_)
        clear hK K
        refine wpAnyH_ready (rs := [21]) (by kernel_rfl) (by simp) ?_
        refine AllReadyH.cons ops_at21 (fun K hK => ?_) AllReadyH.nil
        rw [if_pos (by rfl)]
        go_simp
        refine (number_any _ l 14 2 _ (HDof _ hk1).out HByt.out (by omega) (by omega) (by omega) (by omega)).mono ?_
        rintro e V ⟨rfl, hVw⟩
        subst hVw
        go_wp2_with fail
        refine hK.out _ _ hk1 (fun hHeld => ?_)
        clear hK K
        refine wpAnyH_ready (rs := [23]) (by kernel_rfl) (by simp) ?_
        refine AllReadyH.cons ops_at23 (fun K hK => ?_) AllReadyH.nil
        rw [if_pos (by rfl)]
        go_simp
        refine (number_any _ l 16 4 _ (HDof _ hk1).out HByt.out (by omega) (by omega) (by omega) (by omega)).mono ?_
        rintro e V ⟨rfl, hVw⟩
        subst hVw
        go_wp2_with fail
        refine hK.out _ _ hk1 (fun hHeld => ?_)
        clear hK K
        refine wpAnyH_ready (rs := [25]) (by kernel_rfl) (by simp) ?_
        refine AllReadyH.cons ops_at25 (fun K hK => ?_) AllReadyH.nil
        rw [if_pos (by rfl)]
        go_simp
        refine (number_any _ l 20 4 _ (HDof _ hk1).out HByt.out (by omega) (by omega) (by omega) (by omega)).mono ?_
        rintro e V ⟨rfl, hVw⟩
        subst hVw
        go_wp2_with fail
        refine hK.out _ _ hk1 (fun hHeld => ?_)
        clear hK K
        refine wpAnyH_ready (rs := [27]) (by kernel_rfl) (by simp) ?_
        refine AllReadyH.cons ops_at27 (fun K hK => ?_) AllReadyH.nil
        rw [if_pos (by rfl)]
        go_simp
        refine (number_any _ l 24 4 _ (HDof _ hk1).out HByt.out (by omega) (by omega) (by omega) (by omega)).mono ?_
        rintro e V ⟨rfl, hVw⟩
        subst hVw
        go_wp2_with fail
        refine hK.out _ _ hk1 (fun hHeld => ?_)
        clear hK K
        refine wpAnyH_ready (rs := [29]) (by kernel_rfl) (by simp) ?_
        refine AllReadyH.cons ops_at29 (fun K hK => ?_) AllReadyH.nil
        rw [if_pos (by rfl)]
        go_simp
        refine (number_any _ l 28 4 _ (HDof _ hk1).out HByt.out (by omega) (by omega) (by omega) (by omega)).mono ?_
        rintro e V ⟨rfl, hVw⟩
        subst hVw
        go_wp2_with fail
        refine hK.out _ _ hk1 (fun hHeld => ?_)
        clear hK K
        refine wpAnyH_take (i := 30) (v := .agg #[.int .i64 (c0 : Int), .bool im, .int .i64 (b1 : Int), .int .i64 (Pdu.numAt l 2 2 : Nat), .int .i64 (Pdu.numAt l 8 6 : Nat), .int .i64 (Pdu.numAt l 14 2 : Nat), .int .i64 (Pdu.numAt l 16 4 : Nat), .int .i64 (Pdu.numAt l 20 4 : Nat), .int .i64 (Pdu.numAt l 24 4 : Nat), .int .i64 (Pdu.numAt l 28 4 : Nat), .int .u8 0, .int .u8 0, .int .u8 0, .int .u8 0, .int .u8 0, .int .u8 0, .int .u8 0, .int .u8 0, .int .u8 0, .int .u8 0, .int .u8 0, .int .u8 0, .int .u8 0, .int .u8 0, .int .u8 0, .int .u8 0, .slice none 0 0]) ops_at30 (by kernel_rfl) (by kernel_rfl) (by kernel_rfl) (fun _ _ _ h => h) (Or.inl ⟨by rfl, fun V hV => ?_⟩) hHeld ?_
        · go_simp
        simp only [Act.put, List.setIfInBounds_toArray, List.set_cons_zero, List.set_cons_succ]
        refine wpAnyH_ready (rs := [32]) (by kernel_rfl) (by simp) ?_
        refine AllReadyH.cons ops_at32 (fun K hK => ?_) AllReadyH.nil
        rw [if_pos (by rfl)]
        refine wp_store_pd 25 _ _ rfl W0.heap.size Pdu.pdZero (tlP l 0) (.slice none 0 0) (.slice none 0 0) ?_ (HVal.out ()) HZ1.out HF1.out rfl HIR.out (fun W2 hc2 hf2 hk2 hs2 => ?_)
        · show Value.pointer _ = _
          rw [hs0]
        have hbel : Below W0.heap.size W0 W2 := HBz.out.trans (hk2.below (B := W0.heap.size) (by simp) (fun z h1 h2 => by omega))
        have HC2 := Lib.hid hc2
        have HF2 := Lib.hid hf2
        clear hc2 hf2 hk2
        refine hK.out _ _ hbel (fun hHeld => ?_)
        clear hK K
        refine wpAnyH_done (by kernel_rfl) ?_ _
        go_wp2_with fail
        go_meet
        exact ⟨by rw [hs0], HC2.out, HF2.out, hbel, by rw [hs2]; simp⟩
    · skip
      rw [if_pos (by rfl)]
      go_simp
      refine hK.out _ _ hk1 (fun hHeld => ?_)
      clear hK K
      refine wpAnyH_ready (rs := [17]) (by kernel_rfl) (by simp) ?_
      refine AllReadyH.cons ops_at17 (fun K hK => ?_) AllReadyH.nil
      rw [if_pos (by rfl)]
      go_simp
      refine (number_any _ l 2 2 _ (HDof _ hk1).out HByt.out (by omega) (by omega) (by omega) (by omega)).mono ?_
      rintro e V ⟨rfl, hVw⟩
      subst hVw
      go_wp2_with fail
      refine hK.out _ _ hk1 (fun hHeld => ?_)
      clear hK K
      refine wpAnyH_ready (rs := [19]) (by kernel_rfl) (by simp) ?_
      refine AllReadyH.cons ops_at19 (fun K hK => ?_) AllReadyH.nil
      rw [if_pos (by rfl)]
      go_simp
      refine (number_any _ l 8 6 _ (HDof _ hk1).out HByt.out (by omega) (by omega) (by omega) (by omega)).mono ?_
      rintro e V ⟨rfl, hVw⟩
      subst hVw
      go_wp2_with fail
      refine hK.out _ _ hk1 (fun hHeld => ?_)
      clear hK K
      refine wpAnyH_ready (rs := [21]) (by kernel_rfl) (by simp) ?_
      refine AllReadyH.cons ops_at21 (fun K hK => ?_) AllReadyH.nil
      rw [if_pos (by rfl)]
      go_simp
      refine (number_any _ l 14 2 _ (HDof _ hk1).out HByt.out (by omega) (by omega) (by omega) (by omega)).mono ?_
      rintro e V ⟨rfl, hVw⟩
      subst hVw
      go_wp2_with fail
      refine hK.out _ _ hk1 (fun hHeld => ?_)
      clear hK K
      refine wpAnyH_ready (rs := [23]) (by kernel_rfl) (by simp) ?_
      refine AllReadyH.cons ops_at23 (fun K hK => ?_) AllReadyH.nil
      rw [if_pos (by rfl)]
      go_simp
      refine (number_any _ l 16 4 _ (HDof _ hk1).out HByt.out (by omega) (by omega) (by omega) (by omega)).mono ?_
      rintro e V ⟨rfl, hVw⟩
      subst hVw
      go_wp2_with fail
      refine hK.out _ _ hk1 (fun hHeld => ?_)
      clear hK K
      refine wpAnyH_ready (rs := [25]) (by kernel_rfl) (by simp) ?_
      refine AllReadyH.cons ops_at25 (fun K hK => ?_) AllReadyH.nil
      rw [if_pos (by rfl)]
      go_simp
      refine (number_any _ l 20 4 _ (HDof _ hk1).out HByt.out (by omega) (by omega) (by omega) (by omega)).mono ?_
      rintro e V ⟨rfl, hVw⟩
      subst hVw
      go_wp2_with fail
      refine hK.out _ _ hk1 (fun hHeld => ?_)
      clear hK K
      refine wpAnyH_ready (rs := [27]) (by kernel_rfl) (by simp) ?_
      refine AllReadyH.cons ops_at27 (fun K hK => ?_) AllReadyH.nil
      rw [if_pos (by rfl)]
      go_simp
      refine (number_any _ l 24 4 _ (HDof _ hk1).out HByt.out (by omega) (by omega) (by omega) (by omega)).mono ?_
      rintro e V ⟨rfl, hVw⟩
      subst hVw
      go_wp2_with fail
      refine hK.out _ _ hk1 (fun hHeld => ?_)
      clear hK K
      refine wpAnyH_ready (rs := [29]) (by kernel_rfl) (by simp) ?_
      refine AllReadyH.cons ops_at29 (fun K hK => ?_) AllReadyH.nil
      rw [if_pos (by rfl)]
      go_simp
      refine (number_any _ l 28 4 _ (HDof _ hk1).out HByt.out (by omega) (by omega) (by omega) (by omega)).mono ?_
      rintro e V ⟨rfl, hVw⟩
      subst hVw
      go_wp2_with fail
      refine hK.out _ _ hk1 (fun hHeld => ?_)
      clear hK K
      refine wpAnyH_take (i := 30) (v := .agg #[.int .i64 (c0 : Int), .bool im, .int .i64 (b1 : Int), .int .i64 (Pdu.numAt l 2 2 : Nat), .int .i64 (Pdu.numAt l 8 6 : Nat), .int .i64 (Pdu.numAt l 14 2 : Nat), .int .i64 (Pdu.numAt l 16 4 : Nat), .int .i64 (Pdu.numAt l 20 4 : Nat), .int .i64 (Pdu.numAt l 24 4 : Nat), .int .i64 (Pdu.numAt l 28 4 : Nat), .int .u8 0, .int .u8 0, .int .u8 0, .int .u8 0, .int .u8 0, .int .u8 0, .int .u8 0, .int .u8 0, .int .u8 0, .int .u8 0, .int .u8 0, .int .u8 0, .int .u8 0, .int .u8 0, .int .u8 0, .int .u8 0, .slice none 0 0]) ops_at30 (by kernel_rfl) (by kernel_rfl) (by kernel_rfl) (fun _ _ _ h => h) (Or.inl ⟨by rfl, fun V hV => ?_⟩) hHeld ?_
      · go_simp
      simp only [Act.put, List.setIfInBounds_toArray, List.set_cons_zero, List.set_cons_succ]
      refine wpAnyH_ready (rs := [32]) (by kernel_rfl) (by simp) ?_
      refine AllReadyH.cons ops_at32 (fun K hK => ?_) AllReadyH.nil
      rw [if_pos (by rfl)]
      refine wp_store_pd 25 _ _ rfl W0.heap.size Pdu.pdZero (tlP l 0) (.slice none 0 0) (.slice none 0 0) ?_ (HVal.out ()) HZ1.out HF1.out rfl HIR.out (fun W2 hc2 hf2 hk2 hs2 => ?_)
      · show Value.pointer _ = _
        rw [hs0]
      have hbel : Below W0.heap.size W0 W2 := HBz.out.trans (hk2.below (B := W0.heap.size) (by simp) (fun z h1 h2 => by omega))
      have HC2 := Lib.hid hc2
      have HF2 := Lib.hid hf2
      clear hc2 hf2 hk2
      refine hK.out _ _ hbel (fun hHeld => ?_)
      clear hK K
      refine wpAnyH_done (by kernel_rfl) ?_ _
      go_wp2_with fail
      go_meet
      exact ⟨by rw [hs0], HC2.out, HF2.out, hbel, by rw [hs2]; simp⟩
  case rest =>
    obtain ⟨rfl, hc, hf, hb, hsz⟩ := hcut
    obtain ⟨P, hP⟩ : ∃ P, P = W0.heap.size := ⟨_, rfl⟩
    rw [← hP] at hc hf hsz ⊢
    have HCP := Lib.hid hc
    have HFP := Lib.hid hf
    have HRc := Lib.hid (show ∀ j, wc.cell? ⟨w.heap.size, j, none⟩ = (Pdu.pdZero.cells (.slice none 0 0))[j]? from fun j => (hb.cell (p := ⟨w.heap.size, j, none⟩) (by simp; omega)).trans (HR0.out j))
    have HGc := Lib.hid (show ∀ j, wc.frozen? ⟨w.heap.size, j, none⟩ = false from fun j => (hb.frozen (p := ⟨w.heap.size, j, none⟩) (by simp; omega)).trans (HG0.out j))
    have HBc := Lib.hid (show Below w.heap.size w wc from HBW0.out.trans (hb.mono (by omega)))
    have hPw : w.heap.size + 1 ≤ P ∧ P ≤ w.heap.size + 1 := by omega
    have hPc : P + 1 ≤ wc.heap.size := by omega
    clear hc hf hb hsz hP HDof HXof HR0 HG0 HBW0 hs0 HVal hrem hquo hrem2 hquo' hrem' hrem2' him' hi0 hi1 hbd
    go_wp2_with fail
    go_loopg [4] 16 (fun g s4 wx => ∃ i : Nat, s4 = .int .i64 i ∧ i + g = 16 ∧ (∀ j, wx.cell? ⟨P, j, none⟩ = ((tlP l i).cells (.slice none 0 0))[j]?) ∧ (∀ j, wx.frozen? ⟨P, j, none⟩ = false) ∧ Keeps (· = P) wc wx)
    case atStart => exact ⟨0, rfl, by omega, HCP.out, HFP.out, Keeps.refl _ _⟩
    case round =>
      clear HCP HFP
      obtain ⟨i, rfl, hig, hcr, hfr, hkr⟩ := hrel
      have HCr := Lib.hid hcr; clear hcr
      have HFr := Lib.hid hfr; clear hfr
      have HKr := Lib.hid hkr; clear hkr
      have HBr := Lib.hid (show Below w.heap.size w wr from HBc.out.trans (HKr.out.below (B := w.heap.size) (by omega) (fun z h1 h2 => by omega)))
      by_cases hi : i < 16
      case pos =>
        have xb := HCell.out wr HBr.out (32 + i) (by omega)
        obtain ⟨u, xp⟩ := tlP_cell l i hi (.slice none 0 0)
        have xp := (HCr.out (10 + i)).trans xp
        have xf := HFr.out (10 + i)
        have hidx : (32 : Int) + (i : Int) < (n : Int) := by omega
        have hby : l.getD (32 + i) 0 < 256 := getD_byte HByt.out _
        have HSet := Lib.hid (tlP_cells_set l i hi (.slice none 0 0))
        generalize l.getD (32 + i) 0 = byte at *
        go_wp2_with fail
        go_roundg (gk - 1)
        case measure => omega
        case rel =>
          refine ⟨i + 1, by go_num, by omega, fun j => ?_, fun j => ?_, HKr.out.setCell (fun _ => rfl) _⟩
          · rw [HSet.out j]
            by_cases hj : j = 10 + i
            · subst hj
              rw [if_pos rfl]
              exact World.cell?_setCell_same _ _ _ xp
            · rw [if_neg hj]
              exact (World.cell?_setCell_other _ _ _ _ (fun e => hj (by injection e with e1 e2; exact e2.symm))).trans (HCr.out j)
          · rw [World.frozen?_setCell]; exact HFr.out j
      case neg =>
        obtain rfl : i = 16 := by omega
        have HRr := Lib.hid (show ∀ j, wr.cell? ⟨w.heap.size, j, none⟩ = (Pdu.pdZero.cells (.slice none 0 0))[j]? from fun j => (HKr.out.cell (p := ⟨w.heap.size, j, none⟩) (by simp; omega) (by simp; omega)).trans (HRc.out j))
        have HGr := Lib.hid (show ∀ j, wr.frozen? ⟨w.heap.size, j, none⟩ = false from fun j => (HKr.out.frozen (p := ⟨w.heap.size, j, none⟩) (by simp; omega) (by simp; omega)).trans (HGc.out j))
        go_wp2_with (first | refine wpList_load_pd rfl 25 (.tmp 3) rfl P rfl (tlP l 16) (.slice none 0 0) _ HUR.out rfl HIR.out HCr.out ?_ | (refine wpList_store_pd rfl 25 (.tmp 2) (.tmp 48) rfl w.heap.size Pdu.pdZero (tlP l 16) (.slice none 0 0) (.slice none 0 0) rfl rfl HRr.out HGr.out rfl HIR.out ?_; intro W3 hc3 hf3 hk3 hs3; have HC3 := Lib.hid hc3; have HK3 := Lib.hid hk3; clear hc3 hf3 hk3))
        (try simp only [Exit.inBlock, Exit.then])
        refine bodyPost_ret (results_cell (cs := ((tlP l 16).cells (.slice none 0 0)).toList) rfl _ rfl (pd_range (tlP l 16) _ _ _ HC3.out) HUR.out rfl (by rw [HIR.out]; rfl)) rfl ?_
        refine ⟨?_, HBr.out.trans (HK3.out.below (B := w.heap.size) (by have := HBr.out.size; omega) (fun z h1 h2 => by omega))⟩
        rw [tlP_end l (by omega)]
end Go.Proofs.Ytodmpchnjakchaa
