/-
  The model: refusal. (Written by gen_mdrefuse.py.)
-/
import Derived.Test.YtmanldcohbegkaaMdList
import Derived.BigQuiet
namespace Go.Proofs.Ytmanldcohbegkaa
open Go.RowKit
set_option linter.unusedVariables false
set_option linter.unusedSimpArgs false

set_option maxRecDepth 100000 in
set_option maxHeartbeats 6400000 in
theorem rf_u_none [Zs] (m : Nat) (rv : Value) (ps : List (Nat × Nat)) (S : Mo) (t : Tk) (da : Option Addr) (dn dc : Nat) (lost : Bool) (w : World) (h : ModelIs w m rv ps S) (hlen : ps.length ≤ 8) (hop : t.op = 5) (hat : S.at t.vol = none) :
    Calls Try.prog 23 #[.pointer (some ⟨m, 0, none⟩), .agg (t.cells (.slice da dn dc)), .bool lost] w fun e w' => e = .returned (.int .i64 31) ∧ Below w.heap.size w w' := by
  have hb1 : Below w.heap.size w (w.alloc (.cells (t.cells (.slice da dn dc)) 30)) := allocBelow w _
  have HF := Lib.hid (find_any m rv ps S t.vol _ (h.below hb1) hlen)
  have hml := h.head.lt
  have hptr : ptrOf ps (S.find t.vol) = none := by rw [Mo.at_none hat]; rfl
  rw [hptr] at HF
  have c0 := fun j => (CellsAt.new w (t.cells (.slice da dn dc)) 30).cell j
  have HC0 := Lib.hid c0
  have HM := Lib.hid h
  clear h c0
  unfold Tk.cells at HC0 HF ⊢
  rw [hop] at HC0 HF ⊢
  go_enter Try.func23, Try.ntmps23
  go_wp2_with fail
  refine HF.out.mono ?_
  rintro e w1 ⟨rfl, hb2⟩
  have hT1 : w.heap.size < w1.heap.size := by have := hb2.size; simp at this; omega
  have hk1 : Keeps (fun _ => False) w w1 := ((Keeps.refl _ w).alloc _).trans (Keeps.of_below hb2) (fun _ _ h => h)
  have c1 := fun j => (hb2.cell (p := ⟨w.heap.size, j, none⟩) (by simp)).trans (HC0.out j)
  have HM1 := Lib.hid (HM.out.keeps hk1 (fun _ _ h => h) (fun _ _ _ h => h))
  have HB1 := Lib.hid (hk1.below (B := w.heap.size) (Nat.le_refl _) (fun _ _ h => h)); clear hb2
  have HK1 := Lib.hid hk1; clear hk1
  have e2 := c1 2
  have e6 := c1 6
  have e7 := c1 7
  have e8 := c1 8
  have e9 := c1 9
  have e10 := c1 10
  simp only [List.getElem?_toArray, List.getElem?_cons_zero, List.getElem?_cons_succ] at e2 e6 e7 e8 e9 e10
  clear c1
  go_wp2_with fail
  all_goals
    go_ret
    exact ⟨rfl, HB1.out⟩

set_option maxRecDepth 100000 in
set_option maxHeartbeats 6400000 in
theorem rf_u_cnt1 [Zs] (m : Nat) (rv : Value) (ps : List (Nat × Nat)) (S : Mo) (t : Tk) (da : Option Addr) (dn dc : Nat) (lost : Bool) (w : World) (h : ModelIs w m rv ps S) (hlen : ps.length ≤ 8) (hop : t.op = 5) (i p b : Nat) (v : Vo) (hat : S.at t.vol = some (i, v)) (hp : ps[i]? = some (p, b)) (c0 : decide (t.cnt < 1) = true) :
    Calls Try.prog 23 #[.pointer (some ⟨m, 0, none⟩), .agg (t.cells (.slice da dn dc)), .bool lost] w fun e w' => e = .returned (.int .i64 1) ∧ Below w.heap.size w w' := by
  have hb1 : Below w.heap.size w (w.alloc (.cells (t.cells (.slice da dn dc)) 30)) := allocBelow w _
  have HF := Lib.hid (find_any m rv ps S t.vol _ (h.below hb1) hlen)
  have hml := h.head.lt
  have hptr : ptrOf ps (S.find t.vol) = some ⟨p, 0, none⟩ := by rw [(Mo.at_some hat).1]; simp [ptrOf, hp]
  rw [hptr] at HF
  have hvp : VolAt w p b v := h.vol i _ _ hp (Mo.at_some hat).2
  have hpl := hvp.str.lt
  have HV := Lib.hid hvp; clear hvp
  have c0 := fun j => (CellsAt.new w (t.cells (.slice da dn dc)) 30).cell j
  have HC0 := Lib.hid c0
  have HM := Lib.hid h
  clear h c0
  unfold Tk.cells at HC0 HF ⊢
  rw [hop] at HC0 HF ⊢
  go_enter Try.func23, Try.ntmps23
  go_wp2_with fail
  refine HF.out.mono ?_
  rintro e w1 ⟨rfl, hb2⟩
  have hT1 : w.heap.size < w1.heap.size := by have := hb2.size; simp at this; omega
  have hk1 : Keeps (fun _ => False) w w1 := ((Keeps.refl _ w).alloc _).trans (Keeps.of_below hb2) (fun _ _ h => h)
  have c1 := fun j => (hb2.cell (p := ⟨w.heap.size, j, none⟩) (by simp)).trans (HC0.out j)
  have HM1 := Lib.hid (HM.out.keeps hk1 (fun _ _ h => h) (fun _ _ _ h => h))
  have HB1 := Lib.hid (hk1.below (B := w.heap.size) (Nat.le_refl _) (fun _ _ h => h)); clear hb2
  have HK1 := Lib.hid hk1; clear hk1
  have e2 := c1 2
  have e6 := c1 6
  have e7 := c1 7
  have e8 := c1 8
  have e9 := c1 9
  have e10 := c1 10
  simp only [List.getElem?_toArray, List.getElem?_cons_zero, List.getElem?_cons_succ] at e2 e6 e7 e8 e9 e10
  clear c1
  go_wp2_with fail
  all_goals
    go_ret
    exact ⟨rfl, HB1.out⟩

set_option maxRecDepth 100000 in
set_option maxHeartbeats 6400000 in
theorem rf_u_cnt2 [Zs] (m : Nat) (rv : Value) (ps : List (Nat × Nat)) (S : Mo) (t : Tk) (da : Option Addr) (dn dc : Nat) (lost : Bool) (w : World) (h : ModelIs w m rv ps S) (hlen : ps.length ≤ 8) (hop : t.op = 5) (i p b : Nat) (v : Vo) (hat : S.at t.vol = some (i, v)) (hp : ps[i]? = some (p, b)) (c0 : decide (t.cnt < 1) = false) (c1 : decide (8 < t.cnt) = true) :
    Calls Try.prog 23 #[.pointer (some ⟨m, 0, none⟩), .agg (t.cells (.slice da dn dc)), .bool lost] w fun e w' => e = .returned (.int .i64 1) ∧ Below w.heap.size w w' := by
  have hb1 : Below w.heap.size w (w.alloc (.cells (t.cells (.slice da dn dc)) 30)) := allocBelow w _
  have HF := Lib.hid (find_any m rv ps S t.vol _ (h.below hb1) hlen)
  have hml := h.head.lt
  have hptr : ptrOf ps (S.find t.vol) = some ⟨p, 0, none⟩ := by rw [(Mo.at_some hat).1]; simp [ptrOf, hp]
  rw [hptr] at HF
  have hvp : VolAt w p b v := h.vol i _ _ hp (Mo.at_some hat).2
  have hpl := hvp.str.lt
  have HV := Lib.hid hvp; clear hvp
  have c0 := fun j => (CellsAt.new w (t.cells (.slice da dn dc)) 30).cell j
  have HC0 := Lib.hid c0
  have HM := Lib.hid h
  clear h c0
  unfold Tk.cells at HC0 HF ⊢
  rw [hop] at HC0 HF ⊢
  go_enter Try.func23, Try.ntmps23
  go_wp2_with fail
  refine HF.out.mono ?_
  rintro e w1 ⟨rfl, hb2⟩
  have hT1 : w.heap.size < w1.heap.size := by have := hb2.size; simp at this; omega
  have hk1 : Keeps (fun _ => False) w w1 := ((Keeps.refl _ w).alloc _).trans (Keeps.of_below hb2) (fun _ _ h => h)
  have c1 := fun j => (hb2.cell (p := ⟨w.heap.size, j, none⟩) (by simp)).trans (HC0.out j)
  have HM1 := Lib.hid (HM.out.keeps hk1 (fun _ _ h => h) (fun _ _ _ h => h))
  have HB1 := Lib.hid (hk1.below (B := w.heap.size) (Nat.le_refl _) (fun _ _ h => h)); clear hb2
  have HK1 := Lib.hid hk1; clear hk1
  have e2 := c1 2
  have e6 := c1 6
  have e7 := c1 7
  have e8 := c1 8
  have e9 := c1 9
  have e10 := c1 10
  simp only [List.getElem?_toArray, List.getElem?_cons_zero, List.getElem?_cons_succ] at e2 e6 e7 e8 e9 e10
  clear c1
  go_wp2_with fail
  all_goals
    go_ret
    exact ⟨rfl, HB1.out⟩

set_option maxRecDepth 100000 in
set_option maxHeartbeats 6400000 in
theorem rf_u_lba0 [Zs] (m : Nat) (rv : Value) (ps : List (Nat × Nat)) (S : Mo) (t : Tk) (da : Option Addr) (dn dc : Nat) (lost : Bool) (w : World) (h : ModelIs w m rv ps S) (hlen : ps.length ≤ 8) (hop : t.op = 5) (i p b : Nat) (v : Vo) (hat : S.at t.vol = some (i, v)) (hp : ps[i]? = some (p, b)) (c0 : decide (t.cnt < 1) = false) (c1 : decide (8 < t.cnt) = false) (c2 : decide (t.lba < 0) = true) :
    Calls Try.prog 23 #[.pointer (some ⟨m, 0, none⟩), .agg (t.cells (.slice da dn dc)), .bool lost] w fun e w' => e = .returned (.int .i64 34) ∧ Below w.heap.size w w' := by
  have hb1 : Below w.heap.size w (w.alloc (.cells (t.cells (.slice da dn dc)) 30)) := allocBelow w _
  have HF := Lib.hid (find_any m rv ps S t.vol _ (h.below hb1) hlen)
  have hml := h.head.lt
  have hptr : ptrOf ps (S.find t.vol) = some ⟨p, 0, none⟩ := by rw [(Mo.at_some hat).1]; simp [ptrOf, hp]
  rw [hptr] at HF
  have hvp : VolAt w p b v := h.vol i _ _ hp (Mo.at_some hat).2
  have hpl := hvp.str.lt
  have HV := Lib.hid hvp; clear hvp
  have c0 := fun j => (CellsAt.new w (t.cells (.slice da dn dc)) 30).cell j
  have HC0 := Lib.hid c0
  have HM := Lib.hid h
  clear h c0
  unfold Tk.cells at HC0 HF ⊢
  rw [hop] at HC0 HF ⊢
  go_enter Try.func23, Try.ntmps23
  go_wp2_with fail
  refine HF.out.mono ?_
  rintro e w1 ⟨rfl, hb2⟩
  have hT1 : w.heap.size < w1.heap.size := by have := hb2.size; simp at this; omega
  have hk1 : Keeps (fun _ => False) w w1 := ((Keeps.refl _ w).alloc _).trans (Keeps.of_below hb2) (fun _ _ h => h)
  have c1 := fun j => (hb2.cell (p := ⟨w.heap.size, j, none⟩) (by simp)).trans (HC0.out j)
  have HM1 := Lib.hid (HM.out.keeps hk1 (fun _ _ h => h) (fun _ _ _ h => h))
  have HB1 := Lib.hid (hk1.below (B := w.heap.size) (Nat.le_refl _) (fun _ _ h => h)); clear hb2
  have HK1 := Lib.hid hk1; clear hk1
  have e2 := c1 2
  have e6 := c1 6
  have e7 := c1 7
  have e8 := c1 8
  have e9 := c1 9
  have e10 := c1 10
  simp only [List.getElem?_toArray, List.getElem?_cons_zero, List.getElem?_cons_succ] at e2 e6 e7 e8 e9 e10
  clear c1
  have p1 := (HK1.out.cell (p := ⟨p, 1, none⟩) hpl (fun h => h)).trans (HV.out.str.cell 1)
  simp only [Vo.cells, List.getElem?_toArray, List.getElem?_cons_zero, List.getElem?_cons_succ] at p1
  go_wp2_with fail
  go_quiet (fail)
  go_wp2_with fail
  all_goals
    go_ret
    exact ⟨rfl, below_drewN HB1.out _⟩

set_option maxRecDepth 100000 in
set_option maxHeartbeats 6400000 in
theorem rf_u_lba1 [Zs] (m : Nat) (rv : Value) (ps : List (Nat × Nat)) (S : Mo) (t : Tk) (da : Option Addr) (dn dc : Nat) (lost : Bool) (w : World) (h : ModelIs w m rv ps S) (hlen : ps.length ≤ 8) (hop : t.op = 5) (i p b : Nat) (v : Vo) (hat : S.at t.vol = some (i, v)) (hp : ps[i]? = some (p, b)) (c0 : decide (t.cnt < 1) = false) (c1 : decide (8 < t.cnt) = false) (c2 : decide (t.lba < 0) = false) (c3 : decide (v.size ≤ t.lba) = true) :
    Calls Try.prog 23 #[.pointer (some ⟨m, 0, none⟩), .agg (t.cells (.slice da dn dc)), .bool lost] w fun e w' => e = .returned (.int .i64 34) ∧ Below w.heap.size w w' := by
  have hb1 : Below w.heap.size w (w.alloc (.cells (t.cells (.slice da dn dc)) 30)) := allocBelow w _
  have HF := Lib.hid (find_any m rv ps S t.vol _ (h.below hb1) hlen)
  have hml := h.head.lt
  have hptr : ptrOf ps (S.find t.vol) = some ⟨p, 0, none⟩ := by rw [(Mo.at_some hat).1]; simp [ptrOf, hp]
  rw [hptr] at HF
  have hvp : VolAt w p b v := h.vol i _ _ hp (Mo.at_some hat).2
  have hpl := hvp.str.lt
  have HV := Lib.hid hvp; clear hvp
  have c0 := fun j => (CellsAt.new w (t.cells (.slice da dn dc)) 30).cell j
  have HC0 := Lib.hid c0
  have HM := Lib.hid h
  clear h c0
  unfold Tk.cells at HC0 HF ⊢
  rw [hop] at HC0 HF ⊢
  go_enter Try.func23, Try.ntmps23
  go_wp2_with fail
  refine HF.out.mono ?_
  rintro e w1 ⟨rfl, hb2⟩
  have hT1 : w.heap.size < w1.heap.size := by have := hb2.size; simp at this; omega
  have hk1 : Keeps (fun _ => False) w w1 := ((Keeps.refl _ w).alloc _).trans (Keeps.of_below hb2) (fun _ _ h => h)
  have c1 := fun j => (hb2.cell (p := ⟨w.heap.size, j, none⟩) (by simp)).trans (HC0.out j)
  have HM1 := Lib.hid (HM.out.keeps hk1 (fun _ _ h => h) (fun _ _ _ h => h))
  have HB1 := Lib.hid (hk1.below (B := w.heap.size) (Nat.le_refl _) (fun _ _ h => h)); clear hb2
  have HK1 := Lib.hid hk1; clear hk1
  have e2 := c1 2
  have e6 := c1 6
  have e7 := c1 7
  have e8 := c1 8
  have e9 := c1 9
  have e10 := c1 10
  simp only [List.getElem?_toArray, List.getElem?_cons_zero, List.getElem?_cons_succ] at e2 e6 e7 e8 e9 e10
  clear c1
  have p1 := (HK1.out.cell (p := ⟨p, 1, none⟩) hpl (fun h => h)).trans (HV.out.str.cell 1)
  simp only [Vo.cells, List.getElem?_toArray, List.getElem?_cons_zero, List.getElem?_cons_succ] at p1
  go_wp2_with fail
  go_quiet (fail)
  go_wp2_with fail
  all_goals
    go_ret
    exact ⟨rfl, below_drewN HB1.out _⟩

set_option maxRecDepth 100000 in
set_option maxHeartbeats 6400000 in
theorem rf_u_lba2 [Zs] (m : Nat) (rv : Value) (ps : List (Nat × Nat)) (S : Mo) (t : Tk) (da : Option Addr) (dn dc : Nat) (lost : Bool) (w : World) (h : ModelIs w m rv ps S) (hlen : ps.length ≤ 8) (hop : t.op = 5) (i p b : Nat) (v : Vo) (hat : S.at t.vol = some (i, v)) (hp : ps[i]? = some (p, b)) (hwr : IntKind.i64.wrap (v.size - t.lba) = v.size - t.lba) (c0 : decide (t.cnt < 1) = false) (c1 : decide (8 < t.cnt) = false) (c2 : decide (t.lba < 0) = false) (c3 : decide (v.size ≤ t.lba) = false) (c4 : decide (v.size - t.lba < t.cnt) = true) :
    Calls Try.prog 23 #[.pointer (some ⟨m, 0, none⟩), .agg (t.cells (.slice da dn dc)), .bool lost] w fun e w' => e = .returned (.int .i64 34) ∧ Below w.heap.size w w' := by
  have hb1 : Below w.heap.size w (w.alloc (.cells (t.cells (.slice da dn dc)) 30)) := allocBelow w _
  have HF := Lib.hid (find_any m rv ps S t.vol _ (h.below hb1) hlen)
  have hml := h.head.lt
  have hptr : ptrOf ps (S.find t.vol) = some ⟨p, 0, none⟩ := by rw [(Mo.at_some hat).1]; simp [ptrOf, hp]
  rw [hptr] at HF
  have hvp : VolAt w p b v := h.vol i _ _ hp (Mo.at_some hat).2
  have hpl := hvp.str.lt
  have HV := Lib.hid hvp; clear hvp
  have c0 := fun j => (CellsAt.new w (t.cells (.slice da dn dc)) 30).cell j
  have HC0 := Lib.hid c0
  have HM := Lib.hid h
  clear h c0
  unfold Tk.cells at HC0 HF ⊢
  rw [hop] at HC0 HF ⊢
  go_enter Try.func23, Try.ntmps23
  go_wp2_with fail
  refine HF.out.mono ?_
  rintro e w1 ⟨rfl, hb2⟩
  have hT1 : w.heap.size < w1.heap.size := by have := hb2.size; simp at this; omega
  have hk1 : Keeps (fun _ => False) w w1 := ((Keeps.refl _ w).alloc _).trans (Keeps.of_below hb2) (fun _ _ h => h)
  have c1 := fun j => (hb2.cell (p := ⟨w.heap.size, j, none⟩) (by simp)).trans (HC0.out j)
  have HM1 := Lib.hid (HM.out.keeps hk1 (fun _ _ h => h) (fun _ _ _ h => h))
  have HB1 := Lib.hid (hk1.below (B := w.heap.size) (Nat.le_refl _) (fun _ _ h => h)); clear hb2
  have HK1 := Lib.hid hk1; clear hk1
  have e2 := c1 2
  have e6 := c1 6
  have e7 := c1 7
  have e8 := c1 8
  have e9 := c1 9
  have e10 := c1 10
  simp only [List.getElem?_toArray, List.getElem?_cons_zero, List.getElem?_cons_succ] at e2 e6 e7 e8 e9 e10
  clear c1
  have p1 := (HK1.out.cell (p := ⟨p, 1, none⟩) hpl (fun h => h)).trans (HV.out.str.cell 1)
  simp only [Vo.cells, List.getElem?_toArray, List.getElem?_cons_zero, List.getElem?_cons_succ] at p1
  go_wp2_with fail
  go_quiet (fail)
  go_wp2_with fail
  all_goals
    go_ret
    exact ⟨rfl, below_drewN HB1.out _⟩

set_option maxRecDepth 100000 in
set_option maxHeartbeats 6400000 in
theorem rf_u_ok [Zs] (m : Nat) (rv : Value) (ps : List (Nat × Nat)) (S : Mo) (t : Tk) (da : Option Addr) (dn dc : Nat) (lost : Bool) (w : World) (h : ModelIs w m rv ps S) (hlen : ps.length ≤ 8) (hop : t.op = 5) (i p b : Nat) (v : Vo) (hat : S.at t.vol = some (i, v)) (hp : ps[i]? = some (p, b)) (hwr : IntKind.i64.wrap (v.size - t.lba) = v.size - t.lba) (c0 : decide (t.cnt < 1) = false) (c1 : decide (8 < t.cnt) = false) (c2 : decide (t.lba < 0) = false) (c3 : decide (v.size ≤ t.lba) = false) (c4 : decide (v.size - t.lba < t.cnt) = false) :
    Calls Try.prog 23 #[.pointer (some ⟨m, 0, none⟩), .agg (t.cells (.slice da dn dc)), .bool lost] w fun e w' => e = .returned (.int .i64 0) ∧ Below w.heap.size w w' := by
  have hb1 : Below w.heap.size w (w.alloc (.cells (t.cells (.slice da dn dc)) 30)) := allocBelow w _
  have HF := Lib.hid (find_any m rv ps S t.vol _ (h.below hb1) hlen)
  have hml := h.head.lt
  have hptr : ptrOf ps (S.find t.vol) = some ⟨p, 0, none⟩ := by rw [(Mo.at_some hat).1]; simp [ptrOf, hp]
  rw [hptr] at HF
  have hvp : VolAt w p b v := h.vol i _ _ hp (Mo.at_some hat).2
  have hpl := hvp.str.lt
  have HV := Lib.hid hvp; clear hvp
  have c0 := fun j => (CellsAt.new w (t.cells (.slice da dn dc)) 30).cell j
  have HC0 := Lib.hid c0
  have HM := Lib.hid h
  clear h c0
  unfold Tk.cells at HC0 HF ⊢
  rw [hop] at HC0 HF ⊢
  go_enter Try.func23, Try.ntmps23
  go_wp2_with fail
  refine HF.out.mono ?_
  rintro e w1 ⟨rfl, hb2⟩
  have hT1 : w.heap.size < w1.heap.size := by have := hb2.size; simp at this; omega
  have hk1 : Keeps (fun _ => False) w w1 := ((Keeps.refl _ w).alloc _).trans (Keeps.of_below hb2) (fun _ _ h => h)
  have c1 := fun j => (hb2.cell (p := ⟨w.heap.size, j, none⟩) (by simp)).trans (HC0.out j)
  have HM1 := Lib.hid (HM.out.keeps hk1 (fun _ _ h => h) (fun _ _ _ h => h))
  have HB1 := Lib.hid (hk1.below (B := w.heap.size) (Nat.le_refl _) (fun _ _ h => h)); clear hb2
  have HK1 := Lib.hid hk1; clear hk1
  have e2 := c1 2
  have e6 := c1 6
  have e7 := c1 7
  have e8 := c1 8
  have e9 := c1 9
  have e10 := c1 10
  simp only [List.getElem?_toArray, List.getElem?_cons_zero, List.getElem?_cons_succ] at e2 e6 e7 e8 e9 e10
  clear c1
  have p1 := (HK1.out.cell (p := ⟨p, 1, none⟩) hpl (fun h => h)).trans (HV.out.str.cell 1)
  simp only [Vo.cells, List.getElem?_toArray, List.getElem?_cons_zero, List.getElem?_cons_succ] at p1
  go_wp2_with fail
  go_quiet (fail)
  go_wp2_with fail
  all_goals
    go_ret
    exact ⟨rfl, below_drewN HB1.out _⟩

set_option maxRecDepth 100000 in
set_option maxHeartbeats 6400000 in
theorem rf_c_size [Zs] (m : Nat) (rv : Value) (ps : List (Nat × Nat)) (S : Mo) (t : Tk) (da : Option Addr) (dn dc : Nat) (lost : Bool) (w : World) (h : ModelIs w m rv ps S) (hlen : ps.length ≤ 8) (hop : t.op = 6) (hsz : sizedB t.siz = false) :
    Calls Try.prog 23 #[.pointer (some ⟨m, 0, none⟩), .agg (t.cells (.slice da dn dc)), .bool lost] w fun e w' => e = .returned (.int .i64 1) ∧ Below w.heap.size w w' := by
  have hb1 : Below w.heap.size w (w.alloc (.cells (t.cells (.slice da dn dc)) 30)) := allocBelow w _
  have HF := Lib.hid (find_any m rv ps S t.vol _ (h.below hb1) hlen)
  have hml := h.head.lt
  obtain ⟨pv, hpv⟩ : ∃ pv, pv = ptrOf ps (S.find t.vol) := ⟨_, rfl⟩
  rw [← hpv] at HF
  clear hpv
  rcases pv with _ | pv
  all_goals
    have c0 := fun j => (CellsAt.new w (t.cells (.slice da dn dc)) 30).cell j
    have HC0 := Lib.hid c0
    have HM := Lib.hid h
    clear h c0
    unfold Tk.cells at HC0 HF ⊢
    rw [hop] at HC0 HF ⊢
    go_enter Try.func23, Try.ntmps23
    go_wp2_with fail
    refine HF.out.mono ?_
    rintro e w1 ⟨rfl, hb2⟩
    have hT1 : w.heap.size < w1.heap.size := by have := hb2.size; simp at this; omega
    have hk1 : Keeps (fun _ => False) w w1 := ((Keeps.refl _ w).alloc _).trans (Keeps.of_below hb2) (fun _ _ h => h)
    have c1 := fun j => (hb2.cell (p := ⟨w.heap.size, j, none⟩) (by simp)).trans (HC0.out j)
    have HM1 := Lib.hid (HM.out.keeps hk1 (fun _ _ h => h) (fun _ _ _ h => h))
    have HB1 := Lib.hid (hk1.below (B := w.heap.size) (Nat.le_refl _) (fun _ _ h => h)); clear hb2
    have HK1 := Lib.hid hk1; clear hk1
    have e2 := c1 2
    have e6 := c1 6
    have e7 := c1 7
    have e8 := c1 8
    have e9 := c1 9
    have e10 := c1 10
    simp only [List.getElem?_toArray, List.getElem?_cons_zero, List.getElem?_cons_succ] at e2 e6 e7 e8 e9 e10
    clear c1
    go_wp2_with fail
    refine (sized_any t.siz w1).mono ?_
    rintro r w2 ⟨rfl, rfl⟩
    rw [hsz]
    go_wp2_with fail
    all_goals
      go_ret
      exact ⟨rfl, HB1.out⟩

set_option maxRecDepth 100000 in
set_option maxHeartbeats 6400000 in
theorem rf_c_quo0 [Zs] (m : Nat) (rv : Value) (ps : List (Nat × Nat)) (S : Mo) (t : Tk) (da : Option Addr) (dn dc : Nat) (lost : Bool) (w : World) (h : ModelIs w m rv ps S) (hlen : ps.length ≤ 8) (hop : t.op = 6) (hsz : sizedB t.siz = true) (c0 : decide (t.quo < 0) = true) :
    Calls Try.prog 23 #[.pointer (some ⟨m, 0, none⟩), .agg (t.cells (.slice da dn dc)), .bool lost] w fun e w' => e = .returned (.int .i64 1) ∧ Below w.heap.size w w' := by
  have hb1 : Below w.heap.size w (w.alloc (.cells (t.cells (.slice da dn dc)) 30)) := allocBelow w _
  have HF := Lib.hid (find_any m rv ps S t.vol _ (h.below hb1) hlen)
  have hml := h.head.lt
  obtain ⟨pv, hpv⟩ : ∃ pv, pv = ptrOf ps (S.find t.vol) := ⟨_, rfl⟩
  rw [← hpv] at HF
  clear hpv
  rcases pv with _ | pv
  all_goals
    have c0 := fun j => (CellsAt.new w (t.cells (.slice da dn dc)) 30).cell j
    have HC0 := Lib.hid c0
    have HM := Lib.hid h
    clear h c0
    unfold Tk.cells at HC0 HF ⊢
    rw [hop] at HC0 HF ⊢
    go_enter Try.func23, Try.ntmps23
    go_wp2_with fail
    refine HF.out.mono ?_
    rintro e w1 ⟨rfl, hb2⟩
    have hT1 : w.heap.size < w1.heap.size := by have := hb2.size; simp at this; omega
    have hk1 : Keeps (fun _ => False) w w1 := ((Keeps.refl _ w).alloc _).trans (Keeps.of_below hb2) (fun _ _ h => h)
    have c1 := fun j => (hb2.cell (p := ⟨w.heap.size, j, none⟩) (by simp)).trans (HC0.out j)
    have HM1 := Lib.hid (HM.out.keeps hk1 (fun _ _ h => h) (fun _ _ _ h => h))
    have HB1 := Lib.hid (hk1.below (B := w.heap.size) (Nat.le_refl _) (fun _ _ h => h)); clear hb2
    have HK1 := Lib.hid hk1; clear hk1
    have e2 := c1 2
    have e6 := c1 6
    have e7 := c1 7
    have e8 := c1 8
    have e9 := c1 9
    have e10 := c1 10
    simp only [List.getElem?_toArray, List.getElem?_cons_zero, List.getElem?_cons_succ] at e2 e6 e7 e8 e9 e10
    clear c1
    go_wp2_with fail
    refine (sized_any t.siz w1).mono ?_
    rintro r w2 ⟨rfl, rfl⟩
    rw [hsz]
    go_wp2_with fail
    all_goals
      go_ret
      exact ⟨rfl, HB1.out⟩

set_option maxRecDepth 100000 in
set_option maxHeartbeats 6400000 in
theorem rf_c_quo1 [Zs] (m : Nat) (rv : Value) (ps : List (Nat × Nat)) (S : Mo) (t : Tk) (da : Option Addr) (dn dc : Nat) (lost : Bool) (w : World) (h : ModelIs w m rv ps S) (hlen : ps.length ≤ 8) (hop : t.op = 6) (hsz : sizedB t.siz = true) (c0 : decide (t.quo < 0) = false) (c1 : decide (1048576 < t.quo) = true) :
    Calls Try.prog 23 #[.pointer (some ⟨m, 0, none⟩), .agg (t.cells (.slice da dn dc)), .bool lost] w fun e w' => e = .returned (.int .i64 1) ∧ Below w.heap.size w w' := by
  have hb1 : Below w.heap.size w (w.alloc (.cells (t.cells (.slice da dn dc)) 30)) := allocBelow w _
  have HF := Lib.hid (find_any m rv ps S t.vol _ (h.below hb1) hlen)
  have hml := h.head.lt
  obtain ⟨pv, hpv⟩ : ∃ pv, pv = ptrOf ps (S.find t.vol) := ⟨_, rfl⟩
  rw [← hpv] at HF
  clear hpv
  rcases pv with _ | pv
  all_goals
    have c0 := fun j => (CellsAt.new w (t.cells (.slice da dn dc)) 30).cell j
    have HC0 := Lib.hid c0
    have HM := Lib.hid h
    clear h c0
    unfold Tk.cells at HC0 HF ⊢
    rw [hop] at HC0 HF ⊢
    go_enter Try.func23, Try.ntmps23
    go_wp2_with fail
    refine HF.out.mono ?_
    rintro e w1 ⟨rfl, hb2⟩
    have hT1 : w.heap.size < w1.heap.size := by have := hb2.size; simp at this; omega
    have hk1 : Keeps (fun _ => False) w w1 := ((Keeps.refl _ w).alloc _).trans (Keeps.of_below hb2) (fun _ _ h => h)
    have c1 := fun j => (hb2.cell (p := ⟨w.heap.size, j, none⟩) (by simp)).trans (HC0.out j)
    have HM1 := Lib.hid (HM.out.keeps hk1 (fun _ _ h => h) (fun _ _ _ h => h))
    have HB1 := Lib.hid (hk1.below (B := w.heap.size) (Nat.le_refl _) (fun _ _ h => h)); clear hb2
    have HK1 := Lib.hid hk1; clear hk1
    have e2 := c1 2
    have e6 := c1 6
    have e7 := c1 7
    have e8 := c1 8
    have e9 := c1 9
    have e10 := c1 10
    simp only [List.getElem?_toArray, List.getElem?_cons_zero, List.getElem?_cons_succ] at e2 e6 e7 e8 e9 e10
    clear c1
    go_wp2_with fail
    refine (sized_any t.siz w1).mono ?_
    rintro r w2 ⟨rfl, rfl⟩
    rw [hsz]
    go_wp2_with fail
    all_goals
      go_ret
      exact ⟨rfl, HB1.out⟩

set_option maxRecDepth 100000 in
set_option maxHeartbeats 6400000 in
theorem rf_c_vols [Zs] (m : Nat) (rv : Value) (ps : List (Nat × Nat)) (S : Mo) (t : Tk) (da : Option Addr) (dn dc : Nat) (lost : Bool) (w : World) (h : ModelIs w m rv ps S) (hlen : ps.length ≤ 8) (hop : t.op = 6) (hsz : sizedB t.siz = true) (c0 : decide (t.quo < 0) = false) (c1 : decide (1048576 < t.quo) = false) (c2 : decide ((8 : Int) ≤ (ps.length : Int)) = true) :
    Calls Try.prog 23 #[.pointer (some ⟨m, 0, none⟩), .agg (t.cells (.slice da dn dc)), .bool lost] w fun e w' => e = .returned (.int .i64 32) ∧ Below w.heap.size w w' := by
  have hb1 : Below w.heap.size w (w.alloc (.cells (t.cells (.slice da dn dc)) 30)) := allocBelow w _
  have HF := Lib.hid (find_any m rv ps S t.vol _ (h.below hb1) hlen)
  have hml := h.head.lt
  obtain ⟨pv, hpv⟩ : ∃ pv, pv = ptrOf ps (S.find t.vol) := ⟨_, rfl⟩
  rw [← hpv] at HF
  clear hpv
  rcases pv with _ | pv
  all_goals
    have c0 := fun j => (CellsAt.new w (t.cells (.slice da dn dc)) 30).cell j
    have HC0 := Lib.hid c0
    have HM := Lib.hid h
    clear h c0
    unfold Tk.cells at HC0 HF ⊢
    rw [hop] at HC0 HF ⊢
    go_enter Try.func23, Try.ntmps23
    go_wp2_with fail
    refine HF.out.mono ?_
    rintro e w1 ⟨rfl, hb2⟩
    have hT1 : w.heap.size < w1.heap.size := by have := hb2.size; simp at this; omega
    have hk1 : Keeps (fun _ => False) w w1 := ((Keeps.refl _ w).alloc _).trans (Keeps.of_below hb2) (fun _ _ h => h)
    have c1 := fun j => (hb2.cell (p := ⟨w.heap.size, j, none⟩) (by simp)).trans (HC0.out j)
    have HM1 := Lib.hid (HM.out.keeps hk1 (fun _ _ h => h) (fun _ _ _ h => h))
    have HB1 := Lib.hid (hk1.below (B := w.heap.size) (Nat.le_refl _) (fun _ _ h => h)); clear hb2
    have HK1 := Lib.hid hk1; clear hk1
    have e2 := c1 2
    have e6 := c1 6
    have e7 := c1 7
    have e8 := c1 8
    have e9 := c1 9
    have e10 := c1 10
    simp only [List.getElem?_toArray, List.getElem?_cons_zero, List.getElem?_cons_succ] at e2 e6 e7 e8 e9 e10
    clear c1
    obtain ⟨ao, cap, hrv⟩ : ∃ ao cap, rv = .slice ao ps.length cap := by
      rcases HM.out.rowForm with ⟨q1, q2⟩ | ⟨g, cap, q, _⟩
      · exact ⟨none, 0, by rw [q1, q2]; rfl⟩
      · exact ⟨_, _, q⟩
    have m0 := HM1.out.head.cell 0
    have m1 := HM1.out.head.cell 1
    simp only [Mo.cells, List.getElem?_toArray, List.getElem?_cons_zero, List.getElem?_cons_succ] at m0 m1
    rw [hrv] at m0
    go_wp2_with fail
    refine (sized_any t.siz w1).mono ?_
    rintro r w2 ⟨rfl, rfl⟩
    rw [hsz]
    go_wp2_with fail
    go_quiet (fail)
    go_wp2_with fail
    all_goals
      go_ret
      exact ⟨rfl, below_drewN HB1.out _⟩

set_option maxRecDepth 100000 in
set_option maxHeartbeats 6400000 in
theorem rf_c_full [Zs] (m : Nat) (rv : Value) (ps : List (Nat × Nat)) (S : Mo) (t : Tk) (da : Option Addr) (dn dc : Nat) (lost : Bool) (w : World) (h : ModelIs w m rv ps S) (hlen : ps.length ≤ 8) (hop : t.op = 6) (hsz : sizedB t.siz = true) (c0 : decide (t.quo < 0) = false) (c1 : decide (1048576 < t.quo) = false) (c2 : decide ((8 : Int) ≤ (ps.length : Int)) = false) (c3 : decide (1073741824 ≤ S.next) = true) :
    Calls Try.prog 23 #[.pointer (some ⟨m, 0, none⟩), .agg (t.cells (.slice da dn dc)), .bool lost] w fun e w' => e = .returned (.int .i64 15) ∧ Below w.heap.size w w' := by
  have hb1 : Below w.heap.size w (w.alloc (.cells (t.cells (.slice da dn dc)) 30)) := allocBelow w _
  have HF := Lib.hid (find_any m rv ps S t.vol _ (h.below hb1) hlen)
  have hml := h.head.lt
  obtain ⟨pv, hpv⟩ : ∃ pv, pv = ptrOf ps (S.find t.vol) := ⟨_, rfl⟩
  rw [← hpv] at HF
  clear hpv
  rcases pv with _ | pv
  all_goals
    have c0 := fun j => (CellsAt.new w (t.cells (.slice da dn dc)) 30).cell j
    have HC0 := Lib.hid c0
    have HM := Lib.hid h
    clear h c0
    unfold Tk.cells at HC0 HF ⊢
    rw [hop] at HC0 HF ⊢
    go_enter Try.func23, Try.ntmps23
    go_wp2_with fail
    refine HF.out.mono ?_
    rintro e w1 ⟨rfl, hb2⟩
    have hT1 : w.heap.size < w1.heap.size := by have := hb2.size; simp at this; omega
    have hk1 : Keeps (fun _ => False) w w1 := ((Keeps.refl _ w).alloc _).trans (Keeps.of_below hb2) (fun _ _ h => h)
    have c1 := fun j => (hb2.cell (p := ⟨w.heap.size, j, none⟩) (by simp)).trans (HC0.out j)
    have HM1 := Lib.hid (HM.out.keeps hk1 (fun _ _ h => h) (fun _ _ _ h => h))
    have HB1 := Lib.hid (hk1.below (B := w.heap.size) (Nat.le_refl _) (fun _ _ h => h)); clear hb2
    have HK1 := Lib.hid hk1; clear hk1
    have e2 := c1 2
    have e6 := c1 6
    have e7 := c1 7
    have e8 := c1 8
    have e9 := c1 9
    have e10 := c1 10
    simp only [List.getElem?_toArray, List.getElem?_cons_zero, List.getElem?_cons_succ] at e2 e6 e7 e8 e9 e10
    clear c1
    obtain ⟨ao, cap, hrv⟩ : ∃ ao cap, rv = .slice ao ps.length cap := by
      rcases HM.out.rowForm with ⟨q1, q2⟩ | ⟨g, cap, q, _⟩
      · exact ⟨none, 0, by rw [q1, q2]; rfl⟩
      · exact ⟨_, _, q⟩
    have m0 := HM1.out.head.cell 0
    have m1 := HM1.out.head.cell 1
    simp only [Mo.cells, List.getElem?_toArray, List.getElem?_cons_zero, List.getElem?_cons_succ] at m0 m1
    rw [hrv] at m0
    go_wp2_with fail
    refine (sized_any t.siz w1).mono ?_
    rintro r w2 ⟨rfl, rfl⟩
    rw [hsz]
    go_wp2_with fail
    go_quiet (fail)
    go_wp2_with fail
    all_goals
      go_ret
      exact ⟨rfl, below_drewN HB1.out _⟩

set_option maxRecDepth 100000 in
set_option maxHeartbeats 6400000 in
theorem rf_c_ok [Zs] (m : Nat) (rv : Value) (ps : List (Nat × Nat)) (S : Mo) (t : Tk) (da : Option Addr) (dn dc : Nat) (lost : Bool) (w : World) (h : ModelIs w m rv ps S) (hlen : ps.length ≤ 8) (hop : t.op = 6) (hsz : sizedB t.siz = true) (c0 : decide (t.quo < 0) = false) (c1 : decide (1048576 < t.quo) = false) (c2 : decide ((8 : Int) ≤ (ps.length : Int)) = false) (c3 : decide (1073741824 ≤ S.next) = false) :
    Calls Try.prog 23 #[.pointer (some ⟨m, 0, none⟩), .agg (t.cells (.slice da dn dc)), .bool lost] w fun e w' => e = .returned (.int .i64 0) ∧ Below w.heap.size w w' := by
  have hb1 : Below w.heap.size w (w.alloc (.cells (t.cells (.slice da dn dc)) 30)) := allocBelow w _
  have HF := Lib.hid (find_any m rv ps S t.vol _ (h.below hb1) hlen)
  have hml := h.head.lt
  obtain ⟨pv, hpv⟩ : ∃ pv, pv = ptrOf ps (S.find t.vol) := ⟨_, rfl⟩
  rw [← hpv] at HF
  clear hpv
  rcases pv with _ | pv
  all_goals
    have c0 := fun j => (CellsAt.new w (t.cells (.slice da dn dc)) 30).cell j
    have HC0 := Lib.hid c0
    have HM := Lib.hid h
    clear h c0
    unfold Tk.cells at HC0 HF ⊢
    rw [hop] at HC0 HF ⊢
    go_enter Try.func23, Try.ntmps23
    go_wp2_with fail
    refine HF.out.mono ?_
    rintro e w1 ⟨rfl, hb2⟩
    have hT1 : w.heap.size < w1.heap.size := by have := hb2.size; simp at this; omega
    have hk1 : Keeps (fun _ => False) w w1 := ((Keeps.refl _ w).alloc _).trans (Keeps.of_below hb2) (fun _ _ h => h)
    have c1 := fun j => (hb2.cell (p := ⟨w.heap.size, j, none⟩) (by simp)).trans (HC0.out j)
    have HM1 := Lib.hid (HM.out.keeps hk1 (fun _ _ h => h) (fun _ _ _ h => h))
    have HB1 := Lib.hid (hk1.below (B := w.heap.size) (Nat.le_refl _) (fun _ _ h => h)); clear hb2
    have HK1 := Lib.hid hk1; clear hk1
    have e2 := c1 2
    have e6 := c1 6
    have e7 := c1 7
    have e8 := c1 8
    have e9 := c1 9
    have e10 := c1 10
    simp only [List.getElem?_toArray, List.getElem?_cons_zero, List.getElem?_cons_succ] at e2 e6 e7 e8 e9 e10
    clear c1
    obtain ⟨ao, cap, hrv⟩ : ∃ ao cap, rv = .slice ao ps.length cap := by
      rcases HM.out.rowForm with ⟨q1, q2⟩ | ⟨g, cap, q, _⟩
      · exact ⟨none, 0, by rw [q1, q2]; rfl⟩
      · exact ⟨_, _, q⟩
    have m0 := HM1.out.head.cell 0
    have m1 := HM1.out.head.cell 1
    simp only [Mo.cells, List.getElem?_toArray, List.getElem?_cons_zero, List.getElem?_cons_succ] at m0 m1
    rw [hrv] at m0
    go_wp2_with fail
    refine (sized_any t.siz w1).mono ?_
    rintro r w2 ⟨rfl, rfl⟩
    rw [hsz]
    go_wp2_with fail
    go_quiet (fail)
    go_wp2_with fail
    all_goals
      go_ret
      exact ⟨rfl, below_drewN HB1.out _⟩

set_option maxRecDepth 100000 in
set_option maxHeartbeats 6400000 in
theorem rf_s_none [Zs] (m : Nat) (rv : Value) (ps : List (Nat × Nat)) (S : Mo) (t : Tk) (da : Option Addr) (dn dc : Nat) (lost : Bool) (w : World) (h : ModelIs w m rv ps S) (hlen : ps.length ≤ 8) (hop : t.op = 7) (hat : S.at t.vol = none) :
    Calls Try.prog 23 #[.pointer (some ⟨m, 0, none⟩), .agg (t.cells (.slice da dn dc)), .bool lost] w fun e w' => e = .returned (.int .i64 31) ∧ Below w.heap.size w w' := by
  have hb1 : Below w.heap.size w (w.alloc (.cells (t.cells (.slice da dn dc)) 30)) := allocBelow w _
  have HF := Lib.hid (find_any m rv ps S t.vol _ (h.below hb1) hlen)
  have hml := h.head.lt
  have hptr : ptrOf ps (S.find t.vol) = none := by rw [Mo.at_none hat]; rfl
  rw [hptr] at HF
  have c0 := fun j => (CellsAt.new w (t.cells (.slice da dn dc)) 30).cell j
  have HC0 := Lib.hid c0
  have HM := Lib.hid h
  clear h c0
  unfold Tk.cells at HC0 HF ⊢
  rw [hop] at HC0 HF ⊢
  go_enter Try.func23, Try.ntmps23
  go_wp2_with fail
  refine HF.out.mono ?_
  rintro e w1 ⟨rfl, hb2⟩
  have hT1 : w.heap.size < w1.heap.size := by have := hb2.size; simp at this; omega
  have hk1 : Keeps (fun _ => False) w w1 := ((Keeps.refl _ w).alloc _).trans (Keeps.of_below hb2) (fun _ _ h => h)
  have c1 := fun j => (hb2.cell (p := ⟨w.heap.size, j, none⟩) (by simp)).trans (HC0.out j)
  have HM1 := Lib.hid (HM.out.keeps hk1 (fun _ _ h => h) (fun _ _ _ h => h))
  have HB1 := Lib.hid (hk1.below (B := w.heap.size) (Nat.le_refl _) (fun _ _ h => h)); clear hb2
  have HK1 := Lib.hid hk1; clear hk1
  have e2 := c1 2
  have e6 := c1 6
  have e7 := c1 7
  have e8 := c1 8
  have e9 := c1 9
  have e10 := c1 10
  simp only [List.getElem?_toArray, List.getElem?_cons_zero, List.getElem?_cons_succ] at e2 e6 e7 e8 e9 e10
  clear c1
  go_wp2_with fail
  all_goals
    go_ret
    exact ⟨rfl, HB1.out⟩

set_option maxRecDepth 100000 in
set_option maxHeartbeats 6400000 in
theorem rf_s_vols [Zs] (m : Nat) (rv : Value) (ps : List (Nat × Nat)) (S : Mo) (t : Tk) (da : Option Addr) (dn dc : Nat) (lost : Bool) (w : World) (h : ModelIs w m rv ps S) (hlen : ps.length ≤ 8) (hop : t.op = 7) (i p b : Nat) (v : Vo) (hat : S.at t.vol = some (i, v)) (hp : ps[i]? = some (p, b)) (c0 : decide ((8 : Int) ≤ (ps.length : Int)) = true) :
    Calls Try.prog 23 #[.pointer (some ⟨m, 0, none⟩), .agg (t.cells (.slice da dn dc)), .bool lost] w fun e w' => e = .returned (.int .i64 32) ∧ Below w.heap.size w w' := by
  have hb1 : Below w.heap.size w (w.alloc (.cells (t.cells (.slice da dn dc)) 30)) := allocBelow w _
  have HF := Lib.hid (find_any m rv ps S t.vol _ (h.below hb1) hlen)
  have hml := h.head.lt
  have hptr : ptrOf ps (S.find t.vol) = some ⟨p, 0, none⟩ := by rw [(Mo.at_some hat).1]; simp [ptrOf, hp]
  rw [hptr] at HF
  have hvp : VolAt w p b v := h.vol i _ _ hp (Mo.at_some hat).2
  have hpl := hvp.str.lt
  have HV := Lib.hid hvp; clear hvp
  have c0 := fun j => (CellsAt.new w (t.cells (.slice da dn dc)) 30).cell j
  have HC0 := Lib.hid c0
  have HM := Lib.hid h
  clear h c0
  unfold Tk.cells at HC0 HF ⊢
  rw [hop] at HC0 HF ⊢
  go_enter Try.func23, Try.ntmps23
  go_wp2_with fail
  refine HF.out.mono ?_
  rintro e w1 ⟨rfl, hb2⟩
  have hT1 : w.heap.size < w1.heap.size := by have := hb2.size; simp at this; omega
  have hk1 : Keeps (fun _ => False) w w1 := ((Keeps.refl _ w).alloc _).trans (Keeps.of_below hb2) (fun _ _ h => h)
  have c1 := fun j => (hb2.cell (p := ⟨w.heap.size, j, none⟩) (by simp)).trans (HC0.out j)
  have HM1 := Lib.hid (HM.out.keeps hk1 (fun _ _ h => h) (fun _ _ _ h => h))
  have HB1 := Lib.hid (hk1.below (B := w.heap.size) (Nat.le_refl _) (fun _ _ h => h)); clear hb2
  have HK1 := Lib.hid hk1; clear hk1
  have e2 := c1 2
  have e6 := c1 6
  have e7 := c1 7
  have e8 := c1 8
  have e9 := c1 9
  have e10 := c1 10
  simp only [List.getElem?_toArray, List.getElem?_cons_zero, List.getElem?_cons_succ] at e2 e6 e7 e8 e9 e10
  clear c1
  obtain ⟨ao, cap, hrv⟩ : ∃ ao cap, rv = .slice ao ps.length cap := by
    rcases HM.out.rowForm with ⟨q1, q2⟩ | ⟨g, cap, q, _⟩
    · exact ⟨none, 0, by rw [q1, q2]; rfl⟩
    · exact ⟨_, _, q⟩
  have m0 := HM1.out.head.cell 0
  have m1 := HM1.out.head.cell 1
  simp only [Mo.cells, List.getElem?_toArray, List.getElem?_cons_zero, List.getElem?_cons_succ] at m0 m1
  rw [hrv] at m0
  go_wp2_with fail
  go_quiet (fail)
  go_wp2_with fail
  all_goals
    go_ret
    exact ⟨rfl, below_drewN HB1.out _⟩

set_option maxRecDepth 100000 in
set_option maxHeartbeats 6400000 in
theorem rf_s_full [Zs] (m : Nat) (rv : Value) (ps : List (Nat × Nat)) (S : Mo) (t : Tk) (da : Option Addr) (dn dc : Nat) (lost : Bool) (w : World) (h : ModelIs w m rv ps S) (hlen : ps.length ≤ 8) (hop : t.op = 7) (i p b : Nat) (v : Vo) (hat : S.at t.vol = some (i, v)) (hp : ps[i]? = some (p, b)) (c0 : decide ((8 : Int) ≤ (ps.length : Int)) = false) (c1 : decide (1073741824 ≤ S.next) = true) :
    Calls Try.prog 23 #[.pointer (some ⟨m, 0, none⟩), .agg (t.cells (.slice da dn dc)), .bool lost] w fun e w' => e = .returned (.int .i64 15) ∧ Below w.heap.size w w' := by
  have hb1 : Below w.heap.size w (w.alloc (.cells (t.cells (.slice da dn dc)) 30)) := allocBelow w _
  have HF := Lib.hid (find_any m rv ps S t.vol _ (h.below hb1) hlen)
  have hml := h.head.lt
  have hptr : ptrOf ps (S.find t.vol) = some ⟨p, 0, none⟩ := by rw [(Mo.at_some hat).1]; simp [ptrOf, hp]
  rw [hptr] at HF
  have hvp : VolAt w p b v := h.vol i _ _ hp (Mo.at_some hat).2
  have hpl := hvp.str.lt
  have HV := Lib.hid hvp; clear hvp
  have c0 := fun j => (CellsAt.new w (t.cells (.slice da dn dc)) 30).cell j
  have HC0 := Lib.hid c0
  have HM := Lib.hid h
  clear h c0
  unfold Tk.cells at HC0 HF ⊢
  rw [hop] at HC0 HF ⊢
  go_enter Try.func23, Try.ntmps23
  go_wp2_with fail
  refine HF.out.mono ?_
  rintro e w1 ⟨rfl, hb2⟩
  have hT1 : w.heap.size < w1.heap.size := by have := hb2.size; simp at this; omega
  have hk1 : Keeps (fun _ => False) w w1 := ((Keeps.refl _ w).alloc _).trans (Keeps.of_below hb2) (fun _ _ h => h)
  have c1 := fun j => (hb2.cell (p := ⟨w.heap.size, j, none⟩) (by simp)).trans (HC0.out j)
  have HM1 := Lib.hid (HM.out.keeps hk1 (fun _ _ h => h) (fun _ _ _ h => h))
  have HB1 := Lib.hid (hk1.below (B := w.heap.size) (Nat.le_refl _) (fun _ _ h => h)); clear hb2
  have HK1 := Lib.hid hk1; clear hk1
  have e2 := c1 2
  have e6 := c1 6
  have e7 := c1 7
  have e8 := c1 8
  have e9 := c1 9
  have e10 := c1 10
  simp only [List.getElem?_toArray, List.getElem?_cons_zero, List.getElem?_cons_succ] at e2 e6 e7 e8 e9 e10
  clear c1
  obtain ⟨ao, cap, hrv⟩ : ∃ ao cap, rv = .slice ao ps.length cap := by
    rcases HM.out.rowForm with ⟨q1, q2⟩ | ⟨g, cap, q, _⟩
    · exact ⟨none, 0, by rw [q1, q2]; rfl⟩
    · exact ⟨_, _, q⟩
  have m0 := HM1.out.head.cell 0
  have m1 := HM1.out.head.cell 1
  simp only [Mo.cells, List.getElem?_toArray, List.getElem?_cons_zero, List.getElem?_cons_succ] at m0 m1
  rw [hrv] at m0
  go_wp2_with fail
  go_quiet (fail)
  go_wp2_with fail
  all_goals
    go_ret
    exact ⟨rfl, below_drewN HB1.out _⟩

set_option maxRecDepth 100000 in
set_option maxHeartbeats 6400000 in
theorem rf_s_ok [Zs] (m : Nat) (rv : Value) (ps : List (Nat × Nat)) (S : Mo) (t : Tk) (da : Option Addr) (dn dc : Nat) (lost : Bool) (w : World) (h : ModelIs w m rv ps S) (hlen : ps.length ≤ 8) (hop : t.op = 7) (i p b : Nat) (v : Vo) (hat : S.at t.vol = some (i, v)) (hp : ps[i]? = some (p, b)) (c0 : decide ((8 : Int) ≤ (ps.length : Int)) = false) (c1 : decide (1073741824 ≤ S.next) = false) :
    Calls Try.prog 23 #[.pointer (some ⟨m, 0, none⟩), .agg (t.cells (.slice da dn dc)), .bool lost] w fun e w' => e = .returned (.int .i64 0) ∧ Below w.heap.size w w' := by
  have hb1 : Below w.heap.size w (w.alloc (.cells (t.cells (.slice da dn dc)) 30)) := allocBelow w _
  have HF := Lib.hid (find_any m rv ps S t.vol _ (h.below hb1) hlen)
  have hml := h.head.lt
  have hptr : ptrOf ps (S.find t.vol) = some ⟨p, 0, none⟩ := by rw [(Mo.at_some hat).1]; simp [ptrOf, hp]
  rw [hptr] at HF
  have hvp : VolAt w p b v := h.vol i _ _ hp (Mo.at_some hat).2
  have hpl := hvp.str.lt
  have HV := Lib.hid hvp; clear hvp
  have c0 := fun j => (CellsAt.new w (t.cells (.slice da dn dc)) 30).cell j
  have HC0 := Lib.hid c0
  have HM := Lib.hid h
  clear h c0
  unfold Tk.cells at HC0 HF ⊢
  rw [hop] at HC0 HF ⊢
  go_enter Try.func23, Try.ntmps23
  go_wp2_with fail
  refine HF.out.mono ?_
  rintro e w1 ⟨rfl, hb2⟩
  have hT1 : w.heap.size < w1.heap.size := by have := hb2.size; simp at this; omega
  have hk1 : Keeps (fun _ => False) w w1 := ((Keeps.refl _ w).alloc _).trans (Keeps.of_below hb2) (fun _ _ h => h)
  have c1 := fun j => (hb2.cell (p := ⟨w.heap.size, j, none⟩) (by simp)).trans (HC0.out j)
  have HM1 := Lib.hid (HM.out.keeps hk1 (fun _ _ h => h) (fun _ _ _ h => h))
  have HB1 := Lib.hid (hk1.below (B := w.heap.size) (Nat.le_refl _) (fun _ _ h => h)); clear hb2
  have HK1 := Lib.hid hk1; clear hk1
  have e2 := c1 2
  have e6 := c1 6
  have e7 := c1 7
  have e8 := c1 8
  have e9 := c1 9
  have e10 := c1 10
  simp only [List.getElem?_toArray, List.getElem?_cons_zero, List.getElem?_cons_succ] at e2 e6 e7 e8 e9 e10
  clear c1
  obtain ⟨ao, cap, hrv⟩ : ∃ ao cap, rv = .slice ao ps.length cap := by
    rcases HM.out.rowForm with ⟨q1, q2⟩ | ⟨g, cap, q, _⟩
    · exact ⟨none, 0, by rw [q1, q2]; rfl⟩
    · exact ⟨_, _, q⟩
  have m0 := HM1.out.head.cell 0
  have m1 := HM1.out.head.cell 1
  simp only [Mo.cells, List.getElem?_toArray, List.getElem?_cons_zero, List.getElem?_cons_succ] at m0 m1
  rw [hrv] at m0
  go_wp2_with fail
  go_quiet (fail)
  go_wp2_with fail
  all_goals
    go_ret
    exact ⟨rfl, below_drewN HB1.out _⟩

set_option maxRecDepth 100000 in
set_option maxHeartbeats 6400000 in
theorem rf_d_none [Zs] (m : Nat) (rv : Value) (ps : List (Nat × Nat)) (S : Mo) (t : Tk) (da : Option Addr) (dn dc : Nat) (lost : Bool) (w : World) (h : ModelIs w m rv ps S) (hlen : ps.length ≤ 8) (hop : t.op = 8) (hat : S.at t.vol = none) :
    Calls Try.prog 23 #[.pointer (some ⟨m, 0, none⟩), .agg (t.cells (.slice da dn dc)), .bool lost] w fun e w' => e = .returned (.int .i64 31) ∧ Below w.heap.size w w' := by
  have hb1 : Below w.heap.size w (w.alloc (.cells (t.cells (.slice da dn dc)) 30)) := allocBelow w _
  have HF := Lib.hid (find_any m rv ps S t.vol _ (h.below hb1) hlen)
  have hml := h.head.lt
  have hptr : ptrOf ps (S.find t.vol) = none := by rw [Mo.at_none hat]; rfl
  rw [hptr] at HF
  have c0 := fun j => (CellsAt.new w (t.cells (.slice da dn dc)) 30).cell j
  have HC0 := Lib.hid c0
  have HM := Lib.hid h
  clear h c0
  unfold Tk.cells at HC0 HF ⊢
  rw [hop] at HC0 HF ⊢
  go_enter Try.func23, Try.ntmps23
  go_wp2_with fail
  refine HF.out.mono ?_
  rintro e w1 ⟨rfl, hb2⟩
  have hT1 : w.heap.size < w1.heap.size := by have := hb2.size; simp at this; omega
  have hk1 : Keeps (fun _ => False) w w1 := ((Keeps.refl _ w).alloc _).trans (Keeps.of_below hb2) (fun _ _ h => h)
  have c1 := fun j => (hb2.cell (p := ⟨w.heap.size, j, none⟩) (by simp)).trans (HC0.out j)
  have HM1 := Lib.hid (HM.out.keeps hk1 (fun _ _ h => h) (fun _ _ _ h => h))
  have HB1 := Lib.hid (hk1.below (B := w.heap.size) (Nat.le_refl _) (fun _ _ h => h)); clear hb2
  have HK1 := Lib.hid hk1; clear hk1
  have e2 := c1 2
  have e6 := c1 6
  have e7 := c1 7
  have e8 := c1 8
  have e9 := c1 9
  have e10 := c1 10
  simp only [List.getElem?_toArray, List.getElem?_cons_zero, List.getElem?_cons_succ] at e2 e6 e7 e8 e9 e10
  clear c1
  go_wp2_with fail
  all_goals
    go_ret
    exact ⟨rfl, HB1.out⟩

set_option maxRecDepth 100000 in
set_option maxHeartbeats 6400000 in
theorem rf_d_ok [Zs] (m : Nat) (rv : Value) (ps : List (Nat × Nat)) (S : Mo) (t : Tk) (da : Option Addr) (dn dc : Nat) (lost : Bool) (w : World) (h : ModelIs w m rv ps S) (hlen : ps.length ≤ 8) (hop : t.op = 8) (i p b : Nat) (v : Vo) (hat : S.at t.vol = some (i, v)) (hp : ps[i]? = some (p, b)) :
    Calls Try.prog 23 #[.pointer (some ⟨m, 0, none⟩), .agg (t.cells (.slice da dn dc)), .bool lost] w fun e w' => e = .returned (.int .i64 0) ∧ Below w.heap.size w w' := by
  have hb1 : Below w.heap.size w (w.alloc (.cells (t.cells (.slice da dn dc)) 30)) := allocBelow w _
  have HF := Lib.hid (find_any m rv ps S t.vol _ (h.below hb1) hlen)
  have hml := h.head.lt
  have hptr : ptrOf ps (S.find t.vol) = some ⟨p, 0, none⟩ := by rw [(Mo.at_some hat).1]; simp [ptrOf, hp]
  rw [hptr] at HF
  have hvp : VolAt w p b v := h.vol i _ _ hp (Mo.at_some hat).2
  have hpl := hvp.str.lt
  have HV := Lib.hid hvp; clear hvp
  have c0 := fun j => (CellsAt.new w (t.cells (.slice da dn dc)) 30).cell j
  have HC0 := Lib.hid c0
  have HM := Lib.hid h
  clear h c0
  unfold Tk.cells at HC0 HF ⊢
  rw [hop] at HC0 HF ⊢
  go_enter Try.func23, Try.ntmps23
  go_wp2_with fail
  refine HF.out.mono ?_
  rintro e w1 ⟨rfl, hb2⟩
  have hT1 : w.heap.size < w1.heap.size := by have := hb2.size; simp at this; omega
  have hk1 : Keeps (fun _ => False) w w1 := ((Keeps.refl _ w).alloc _).trans (Keeps.of_below hb2) (fun _ _ h => h)
  have c1 := fun j => (hb2.cell (p := ⟨w.heap.size, j, none⟩) (by simp)).trans (HC0.out j)
  have HM1 := Lib.hid (HM.out.keeps hk1 (fun _ _ h => h) (fun _ _ _ h => h))
  have HB1 := Lib.hid (hk1.below (B := w.heap.size) (Nat.le_refl _) (fun _ _ h => h)); clear hb2
  have HK1 := Lib.hid hk1; clear hk1
  have e2 := c1 2
  have e6 := c1 6
  have e7 := c1 7
  have e8 := c1 8
  have e9 := c1 9
  have e10 := c1 10
  simp only [List.getElem?_toArray, List.getElem?_cons_zero, List.getElem?_cons_succ] at e2 e6 e7 e8 e9 e10
  clear c1
  go_wp2_with fail
  go_quiet (fail)
  go_wp2_with fail
  all_goals
    go_ret
    exact ⟨rfl, below_drewN HB1.out _⟩

set_option maxRecDepth 100000 in
set_option maxHeartbeats 6400000 in
theorem rf_z_none [Zs] (m : Nat) (rv : Value) (ps : List (Nat × Nat)) (S : Mo) (t : Tk) (da : Option Addr) (dn dc : Nat) (lost : Bool) (w : World) (h : ModelIs w m rv ps S) (hlen : ps.length ≤ 8) (hop : t.op = 9) (hat : S.at t.vol = none) :
    Calls Try.prog 23 #[.pointer (some ⟨m, 0, none⟩), .agg (t.cells (.slice da dn dc)), .bool lost] w fun e w' => e = .returned (.int .i64 31) ∧ Below w.heap.size w w' := by
  have hb1 : Below w.heap.size w (w.alloc (.cells (t.cells (.slice da dn dc)) 30)) := allocBelow w _
  have HF := Lib.hid (find_any m rv ps S t.vol _ (h.below hb1) hlen)
  have hml := h.head.lt
  have hptr : ptrOf ps (S.find t.vol) = none := by rw [Mo.at_none hat]; rfl
  rw [hptr] at HF
  have c0 := fun j => (CellsAt.new w (t.cells (.slice da dn dc)) 30).cell j
  have HC0 := Lib.hid c0
  have HM := Lib.hid h
  clear h c0
  unfold Tk.cells at HC0 HF ⊢
  rw [hop] at HC0 HF ⊢
  go_enter Try.func23, Try.ntmps23
  go_wp2_with fail
  refine HF.out.mono ?_
  rintro e w1 ⟨rfl, hb2⟩
  have hT1 : w.heap.size < w1.heap.size := by have := hb2.size; simp at this; omega
  have hk1 : Keeps (fun _ => False) w w1 := ((Keeps.refl _ w).alloc _).trans (Keeps.of_below hb2) (fun _ _ h => h)
  have c1 := fun j => (hb2.cell (p := ⟨w.heap.size, j, none⟩) (by simp)).trans (HC0.out j)
  have HM1 := Lib.hid (HM.out.keeps hk1 (fun _ _ h => h) (fun _ _ _ h => h))
  have HB1 := Lib.hid (hk1.below (B := w.heap.size) (Nat.le_refl _) (fun _ _ h => h)); clear hb2
  have HK1 := Lib.hid hk1; clear hk1
  have e2 := c1 2
  have e6 := c1 6
  have e7 := c1 7
  have e8 := c1 8
  have e9 := c1 9
  have e10 := c1 10
  simp only [List.getElem?_toArray, List.getElem?_cons_zero, List.getElem?_cons_succ] at e2 e6 e7 e8 e9 e10
  clear c1
  go_wp2_with fail
  all_goals
    go_ret
    exact ⟨rfl, HB1.out⟩

set_option maxRecDepth 100000 in
set_option maxHeartbeats 6400000 in
theorem rf_z_size [Zs] (m : Nat) (rv : Value) (ps : List (Nat × Nat)) (S : Mo) (t : Tk) (da : Option Addr) (dn dc : Nat) (lost : Bool) (w : World) (h : ModelIs w m rv ps S) (hlen : ps.length ≤ 8) (hop : t.op = 9) (hsz : sizedB t.siz = false) (i p b : Nat) (v : Vo) (hat : S.at t.vol = some (i, v)) (hp : ps[i]? = some (p, b)) :
    Calls Try.prog 23 #[.pointer (some ⟨m, 0, none⟩), .agg (t.cells (.slice da dn dc)), .bool lost] w fun e w' => e = .returned (.int .i64 1) ∧ Below w.heap.size w w' := by
  have hb1 : Below w.heap.size w (w.alloc (.cells (t.cells (.slice da dn dc)) 30)) := allocBelow w _
  have HF := Lib.hid (find_any m rv ps S t.vol _ (h.below hb1) hlen)
  have hml := h.head.lt
  have hptr : ptrOf ps (S.find t.vol) = some ⟨p, 0, none⟩ := by rw [(Mo.at_some hat).1]; simp [ptrOf, hp]
  rw [hptr] at HF
  have hvp : VolAt w p b v := h.vol i _ _ hp (Mo.at_some hat).2
  have hpl := hvp.str.lt
  have HV := Lib.hid hvp; clear hvp
  have c0 := fun j => (CellsAt.new w (t.cells (.slice da dn dc)) 30).cell j
  have HC0 := Lib.hid c0
  have HM := Lib.hid h
  clear h c0
  unfold Tk.cells at HC0 HF ⊢
  rw [hop] at HC0 HF ⊢
  go_enter Try.func23, Try.ntmps23
  go_wp2_with fail
  refine HF.out.mono ?_
  rintro e w1 ⟨rfl, hb2⟩
  have hT1 : w.heap.size < w1.heap.size := by have := hb2.size; simp at this; omega
  have hk1 : Keeps (fun _ => False) w w1 := ((Keeps.refl _ w).alloc _).trans (Keeps.of_below hb2) (fun _ _ h => h)
  have c1 := fun j => (hb2.cell (p := ⟨w.heap.size, j, none⟩) (by simp)).trans (HC0.out j)
  have HM1 := Lib.hid (HM.out.keeps hk1 (fun _ _ h => h) (fun _ _ _ h => h))
  have HB1 := Lib.hid (hk1.below (B := w.heap.size) (Nat.le_refl _) (fun _ _ h => h)); clear hb2
  have HK1 := Lib.hid hk1; clear hk1
  have e2 := c1 2
  have e6 := c1 6
  have e7 := c1 7
  have e8 := c1 8
  have e9 := c1 9
  have e10 := c1 10
  simp only [List.getElem?_toArray, List.getElem?_cons_zero, List.getElem?_cons_succ] at e2 e6 e7 e8 e9 e10
  clear c1
  go_wp2_with fail
  refine (sized_any t.siz w1).mono ?_
  rintro r w2 ⟨rfl, rfl⟩
  rw [hsz]
  go_wp2_with fail
  all_goals
    go_ret
    exact ⟨rfl, HB1.out⟩

set_option maxRecDepth 100000 in
set_option maxHeartbeats 6400000 in
theorem rf_z_lost [Zs] (m : Nat) (rv : Value) (ps : List (Nat × Nat)) (S : Mo) (t : Tk) (da : Option Addr) (dn dc : Nat) (lost : Bool) (w : World) (h : ModelIs w m rv ps S) (hlen : ps.length ≤ 8) (hop : t.op = 9) (hsz : sizedB t.siz = true) (i p b : Nat) (v : Vo) (hat : S.at t.vol = some (i, v)) (hp : ps[i]? = some (p, b)) :
    Calls Try.prog 23 #[.pointer (some ⟨m, 0, none⟩), .agg (t.cells (.slice da dn dc)), .bool true] w fun e w' => e = .returned (.int .i64 0) ∧ Below w.heap.size w w' := by
  have hb1 : Below w.heap.size w (w.alloc (.cells (t.cells (.slice da dn dc)) 30)) := allocBelow w _
  have HF := Lib.hid (find_any m rv ps S t.vol _ (h.below hb1) hlen)
  have hml := h.head.lt
  have hptr : ptrOf ps (S.find t.vol) = some ⟨p, 0, none⟩ := by rw [(Mo.at_some hat).1]; simp [ptrOf, hp]
  rw [hptr] at HF
  have hvp : VolAt w p b v := h.vol i _ _ hp (Mo.at_some hat).2
  have hpl := hvp.str.lt
  have HV := Lib.hid hvp; clear hvp
  have c0 := fun j => (CellsAt.new w (t.cells (.slice da dn dc)) 30).cell j
  have HC0 := Lib.hid c0
  have HM := Lib.hid h
  clear h c0
  unfold Tk.cells at HC0 HF ⊢
  rw [hop] at HC0 HF ⊢
  go_enter Try.func23, Try.ntmps23
  go_wp2_with fail
  refine HF.out.mono ?_
  rintro e w1 ⟨rfl, hb2⟩
  have hT1 : w.heap.size < w1.heap.size := by have := hb2.size; simp at this; omega
  have hk1 : Keeps (fun _ => False) w w1 := ((Keeps.refl _ w).alloc _).trans (Keeps.of_below hb2) (fun _ _ h => h)
  have c1 := fun j => (hb2.cell (p := ⟨w.heap.size, j, none⟩) (by simp)).trans (HC0.out j)
  have HM1 := Lib.hid (HM.out.keeps hk1 (fun _ _ h => h) (fun _ _ _ h => h))
  have HB1 := Lib.hid (hk1.below (B := w.heap.size) (Nat.le_refl _) (fun _ _ h => h)); clear hb2
  have HK1 := Lib.hid hk1; clear hk1
  have e2 := c1 2
  have e6 := c1 6
  have e7 := c1 7
  have e8 := c1 8
  have e9 := c1 9
  have e10 := c1 10
  simp only [List.getElem?_toArray, List.getElem?_cons_zero, List.getElem?_cons_succ] at e2 e6 e7 e8 e9 e10
  clear c1
  go_wp2_with fail
  refine (sized_any t.siz w1).mono ?_
  rintro r w2 ⟨rfl, rfl⟩
  rw [hsz]
  go_wp2_with fail
  go_quiet (fail)
  go_wp2_with fail
  all_goals
    go_ret
    exact ⟨rfl, below_drewN HB1.out _⟩

set_option maxRecDepth 100000 in
set_option maxHeartbeats 6400000 in
theorem rf_n1_ok [Zs] (m : Nat) (rv : Value) (ps : List (Nat × Nat)) (S : Mo) (t : Tk) (da : Option Addr) (dn dc : Nat) (lost : Bool) (w : World) (h : ModelIs w m rv ps S) (hlen : ps.length ≤ 8) (hop : t.op = 1) :
    Calls Try.prog 23 #[.pointer (some ⟨m, 0, none⟩), .agg (t.cells (.slice da dn dc)), .bool lost] w fun e w' => e = .returned (.int .i64 0) ∧ Below w.heap.size w w' := by
  have hb1 : Below w.heap.size w (w.alloc (.cells (t.cells (.slice da dn dc)) 30)) := allocBelow w _
  have HF := Lib.hid (find_any m rv ps S t.vol _ (h.below hb1) hlen)
  have hml := h.head.lt
  obtain ⟨pv, hpv⟩ : ∃ pv, pv = ptrOf ps (S.find t.vol) := ⟨_, rfl⟩
  rw [← hpv] at HF
  clear hpv
  rcases pv with _ | pv
  all_goals
    have c0 := fun j => (CellsAt.new w (t.cells (.slice da dn dc)) 30).cell j
    have HC0 := Lib.hid c0
    have HM := Lib.hid h
    clear h c0
    unfold Tk.cells at HC0 HF ⊢
    rw [hop] at HC0 HF ⊢
    go_enter Try.func23, Try.ntmps23
    go_wp2_with fail
    refine HF.out.mono ?_
    rintro e w1 ⟨rfl, hb2⟩
    have hT1 : w.heap.size < w1.heap.size := by have := hb2.size; simp at this; omega
    have hk1 : Keeps (fun _ => False) w w1 := ((Keeps.refl _ w).alloc _).trans (Keeps.of_below hb2) (fun _ _ h => h)
    have c1 := fun j => (hb2.cell (p := ⟨w.heap.size, j, none⟩) (by simp)).trans (HC0.out j)
    have HM1 := Lib.hid (HM.out.keeps hk1 (fun _ _ h => h) (fun _ _ _ h => h))
    have HB1 := Lib.hid (hk1.below (B := w.heap.size) (Nat.le_refl _) (fun _ _ h => h)); clear hb2
    have HK1 := Lib.hid hk1; clear hk1
    have e2 := c1 2
    have e6 := c1 6
    have e7 := c1 7
    have e8 := c1 8
    have e9 := c1 9
    have e10 := c1 10
    simp only [List.getElem?_toArray, List.getElem?_cons_zero, List.getElem?_cons_succ] at e2 e6 e7 e8 e9 e10
    clear c1
    go_wp2_with fail
    go_quiet (fail)
    go_wp2_with fail
    all_goals
      go_ret
      exact ⟨rfl, below_drewN HB1.out _⟩

set_option maxRecDepth 100000 in
set_option maxHeartbeats 6400000 in
theorem rf_n4_ok [Zs] (m : Nat) (rv : Value) (ps : List (Nat × Nat)) (S : Mo) (t : Tk) (da : Option Addr) (dn dc : Nat) (lost : Bool) (w : World) (h : ModelIs w m rv ps S) (hlen : ps.length ≤ 8) (hop : t.op = 4) :
    Calls Try.prog 23 #[.pointer (some ⟨m, 0, none⟩), .agg (t.cells (.slice da dn dc)), .bool lost] w fun e w' => e = .returned (.int .i64 0) ∧ Below w.heap.size w w' := by
  have hb1 : Below w.heap.size w (w.alloc (.cells (t.cells (.slice da dn dc)) 30)) := allocBelow w _
  have HF := Lib.hid (find_any m rv ps S t.vol _ (h.below hb1) hlen)
  have hml := h.head.lt
  obtain ⟨pv, hpv⟩ : ∃ pv, pv = ptrOf ps (S.find t.vol) := ⟨_, rfl⟩
  rw [← hpv] at HF
  clear hpv
  rcases pv with _ | pv
  all_goals
    have c0 := fun j => (CellsAt.new w (t.cells (.slice da dn dc)) 30).cell j
    have HC0 := Lib.hid c0
    have HM := Lib.hid h
    clear h c0
    unfold Tk.cells at HC0 HF ⊢
    rw [hop] at HC0 HF ⊢
    go_enter Try.func23, Try.ntmps23
    go_wp2_with fail
    refine HF.out.mono ?_
    rintro e w1 ⟨rfl, hb2⟩
    have hT1 : w.heap.size < w1.heap.size := by have := hb2.size; simp at this; omega
    have hk1 : Keeps (fun _ => False) w w1 := ((Keeps.refl _ w).alloc _).trans (Keeps.of_below hb2) (fun _ _ h => h)
    have c1 := fun j => (hb2.cell (p := ⟨w.heap.size, j, none⟩) (by simp)).trans (HC0.out j)
    have HM1 := Lib.hid (HM.out.keeps hk1 (fun _ _ h => h) (fun _ _ _ h => h))
    have HB1 := Lib.hid (hk1.below (B := w.heap.size) (Nat.le_refl _) (fun _ _ h => h)); clear hb2
    have HK1 := Lib.hid hk1; clear hk1
    have e2 := c1 2
    have e6 := c1 6
    have e7 := c1 7
    have e8 := c1 8
    have e9 := c1 9
    have e10 := c1 10
    simp only [List.getElem?_toArray, List.getElem?_cons_zero, List.getElem?_cons_succ] at e2 e6 e7 e8 e9 e10
    clear c1
    go_wp2_with fail
    go_quiet (fail)
    go_wp2_with fail
    all_goals
      go_ret
      exact ⟨rfl, below_drewN HB1.out _⟩

set_option maxRecDepth 100000 in
set_option maxHeartbeats 6400000 in
theorem rf_n10_ok [Zs] (m : Nat) (rv : Value) (ps : List (Nat × Nat)) (S : Mo) (t : Tk) (da : Option Addr) (dn dc : Nat) (lost : Bool) (w : World) (h : ModelIs w m rv ps S) (hlen : ps.length ≤ 8) (hop : t.op = 10) :
    Calls Try.prog 23 #[.pointer (some ⟨m, 0, none⟩), .agg (t.cells (.slice da dn dc)), .bool lost] w fun e w' => e = .returned (.int .i64 0) ∧ Below w.heap.size w w' := by
  have hb1 : Below w.heap.size w (w.alloc (.cells (t.cells (.slice da dn dc)) 30)) := allocBelow w _
  have HF := Lib.hid (find_any m rv ps S t.vol _ (h.below hb1) hlen)
  have hml := h.head.lt
  obtain ⟨pv, hpv⟩ : ∃ pv, pv = ptrOf ps (S.find t.vol) := ⟨_, rfl⟩
  rw [← hpv] at HF
  clear hpv
  rcases pv with _ | pv
  all_goals
    have c0 := fun j => (CellsAt.new w (t.cells (.slice da dn dc)) 30).cell j
    have HC0 := Lib.hid c0
    have HM := Lib.hid h
    clear h c0
    unfold Tk.cells at HC0 HF ⊢
    rw [hop] at HC0 HF ⊢
    go_enter Try.func23, Try.ntmps23
    go_wp2_with fail
    refine HF.out.mono ?_
    rintro e w1 ⟨rfl, hb2⟩
    have hT1 : w.heap.size < w1.heap.size := by have := hb2.size; simp at this; omega
    have hk1 : Keeps (fun _ => False) w w1 := ((Keeps.refl _ w).alloc _).trans (Keeps.of_below hb2) (fun _ _ h => h)
    have c1 := fun j => (hb2.cell (p := ⟨w.heap.size, j, none⟩) (by simp)).trans (HC0.out j)
    have HM1 := Lib.hid (HM.out.keeps hk1 (fun _ _ h => h) (fun _ _ _ h => h))
    have HB1 := Lib.hid (hk1.below (B := w.heap.size) (Nat.le_refl _) (fun _ _ h => h)); clear hb2
    have HK1 := Lib.hid hk1; clear hk1
    have e2 := c1 2
    have e6 := c1 6
    have e7 := c1 7
    have e8 := c1 8
    have e9 := c1 9
    have e10 := c1 10
    simp only [List.getElem?_toArray, List.getElem?_cons_zero, List.getElem?_cons_succ] at e2 e6 e7 e8 e9 e10
    clear c1
    go_wp2_with fail
    go_quiet (fail)
    go_wp2_with fail
    all_goals
      go_ret
      exact ⟨rfl, below_drewN HB1.out _⟩
end Go.Proofs.Ytmanldcohbegkaa
