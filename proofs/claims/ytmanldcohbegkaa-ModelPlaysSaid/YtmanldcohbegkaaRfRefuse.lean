/-
  The document's model: refusal. (Written by gen_rfrefuse.py.)
-/
import Derived.Test.YtmanldcohbegkaaRfSpan
namespace Go.Proofs.Ytmanldcohbegkaa
open Go.RowKit

def rrefS (S : Mo) (t : Tk) (lost : Bool) : Int :=
  if t.op = 1 ∨ t.op = 4 ∨ t.op = 10 then 0
  else if t.op = 2 ∨ t.op = 5 then spanS S t
  else if t.op = 3 then (if (t.data.length : Int) % 64 ≠ 0 ∨ (t.data.length : Int) / 64 ≠ t.cnt then 1 else spanS S t)
  else if t.op = 6 then (if sizedB t.siz = false ∨ t.quo < 0 ∨ 1048576 < t.quo then 1 else placeS S)
  else if t.op = 7 then (if S.at t.vol = none then 31 else placeS S)
  else if t.op = 8 then (if S.at t.vol = none then 31 else 0)
  else if t.op = 9 then (match S.at t.vol with | none => 31 | some q => resizeS q.2.bl t.siz lost)
  else 50
theorem op_cases (op : Int) : op = 1 ∨ op = 4 ∨ op = 10 ∨ op = 2 ∨ op = 5 ∨ op = 3 ∨ op = 6 ∨ op = 7 ∨ op = 8 ∨ op = 9 ∨ (op < 1 ∨ 10 < op) := by omega
theorem rref_same (S : Mo) (t : Tk) (lost : Bool) : rrefS S t lost = refuseS S t lost := by
  obtain ⟨x, hx⟩ : ∃ x, x = S.at t.vol := ⟨_, rfl⟩
  obtain ⟨op, hop⟩ : ∃ op, op = t.op := ⟨_, rfl⟩
  unfold rrefS refuseS spanS placeS
  rw [← hx, ← hop]
  clear hx hop
  rcases op_cases op with rfl | rfl | rfl | rfl | rfl | rfl | rfl | rfl | rfl | rfl | h
  · simp [isBlocks]
  · simp [isBlocks]
  · simp [isBlocks]
  · cases x <;> simp [isBlocks]
  · cases x <;> simp [isBlocks]
  · cases x <;> simp [isBlocks]
  · simp [isBlocks]
  · cases x <;> simp [isBlocks]
  · cases x <;> simp [isBlocks]
  · cases x with
    | none => simp [isBlocks]
    | some q =>
      by_cases hA : sizedB t.siz = false
      · simp [isBlocks, resizeS, hA]
      · by_cases hP : lost = false ∧ (q.2.bl.any fun p => decide (t.siz ≤ p.1)) = true
        · simp [isBlocks, resizeS, inUseB, hA, hP]
        · simp only [isBlocks, resizeS, inUseB, hA, hP]
          simp
          exact fun hl x y hm => by
            have : ¬ t.siz ≤ x := fun hle => hP ⟨hl, List.any_eq_true.2 ⟨(x, y), hm, by simpa using hle⟩⟩
            omega
  · rw [if_neg (by omega), if_neg (by omega), if_neg (by omega), if_neg (by omega), if_neg (by omega), if_neg (by omega), if_neg (by omega), if_pos h]

set_option maxRecDepth 100000 in
set_option maxHeartbeats 12800000 in
theorem rrefusal_any (r : Nat) (lv : Value) (vs : List (Vo × Value)) (S : Mo) (W : Nat → Prop) (t : Tk) (da : Option Addr) (dc : Nat) (lost : Bool) (w : World) (h : RefIs w r lv vs S W) (hg : Good S) (hdl : t.data.length ≤ 140737488355328) :
    Calls Try.prog 27 #[.pointer (some ⟨r, 0, none⟩), .agg (t.cells (.slice da t.data.length dc)), .bool lost] w fun e w' => e = .returned (.int .i64 (refuseS S t lost)) ∧ Below w.heap.size w w' := by
  rw [← rref_same]
  have hlen8 : vs.length ≤ 8 := by rw [h.len]; exact hg.len
  obtain ⟨rs, hrs⟩ : ∃ rs, rs = rrefS S t lost := ⟨_, rfl⟩
  rw [← hrs]
  unfold rrefS at hrs
  obtain ⟨dn, hdn⟩ : ∃ dn, dn = t.data.length := ⟨_, rfl⟩
  rw [← hdn] at hrs hdl ⊢
  clear hdn
  have HDB := Lib.hid (show (dn : Int) < 1000000000000000 by omega)
  clear hdl
  obtain ⟨w1, hw1⟩ : ∃ w1, w1 = w.alloc (.cells (t.cells (.slice da dn dc)) 30) := ⟨_, rfl⟩
  have hb1 : Below w.heap.size w w1 := by rw [hw1]; exact allocBelow w _
  have hc1 : CellsAt w1 w.heap.size (t.cells (.slice da dn dc)) 30 := by rw [hw1]; exact heap_at rfl
  have H1 := Lib.hid (h.below hb1)
  have HF := Lib.hid (rfind_any r lv vs S W t.vol w1 H1.out hlen8)
  have hsp := rspan_any r lv vs S W t (.slice da dn dc) w1 H1.out hg ⟨_, _, _, rfl⟩
  have HPL := Lib.hid (place_any r lv vs S W w1 H1.out hlen8)
  have HSZ := Lib.hid (rsized_any t.siz w1)
  have HB := Lib.hid hb1; clear hb1
  have cT := fun j => hc1.cell j
  unfold Tk.cells at hw1 cT hsp ⊢
  have HSP := Lib.hid hsp; clear hsp
  have HCT := Lib.hid cT; clear cT hc1 h
  have c5 := HCT.out 5
  have c2 := HCT.out 2
  simp only [List.getElem?_toArray, List.getElem?_cons_zero, List.getElem?_cons_succ] at c5 c2
  have hb12 : w.heap.size ≤ w1.heap.size := HB.out.size
  obtain ⟨fi, hfi⟩ : ∃ fi, fi = firstAt (fun v : Vo => v.id == t.vol) S.vols := ⟨_, rfl⟩
  rw [← hfi] at HF
  have HFI := Lib.hid hfi; clear hfi
  have HRS := Lib.hid hrs; clear hrs
  rcases op_cases t.op with hop | hop | hop | hop | hop | hop | hop | hop | hop | hop | hop
  · have HC := Lib.hid (show rs = 0 by rw [HRS.out]; rw [if_pos (by omega)]); clear HRS
    have b1 : (t.op == 1) = true := by simp [hop]
    have b4 : (t.op == 4) = false := by simp [hop]
    have b10 : (t.op == 10) = false := by simp [hop]
    have b2 : (t.op == 2) = false := by simp [hop]
    have b5 : (t.op == 5) = false := by simp [hop]
    have b3 : (t.op == 3) = false := by simp [hop]
    have b6 : (t.op == 6) = false := by simp [hop]
    have b7 : (t.op == 7) = false := by simp [hop]
    have b8 : (t.op == 8) = false := by simp [hop]
    have b9 : (t.op == 9) = false := by simp [hop]
    clear hop
    go_enter Try.func27, Try.ntmps27
    go_upto_region 1 with fail
    rw [← hw1]
    clear hw1
    go_wp2_with fail
    refine HF.out.mono ?_
    rintro e w2 ⟨rfl, rfl⟩
    go_wp2
    go_ret
    exact ⟨by rw [HC.out]; rfl, HB.out⟩
  · have HC := Lib.hid (show rs = 0 by rw [HRS.out]; rw [if_pos (by omega)]); clear HRS
    have b1 : (t.op == 1) = false := by simp [hop]
    have b4 : (t.op == 4) = true := by simp [hop]
    have b10 : (t.op == 10) = false := by simp [hop]
    have b2 : (t.op == 2) = false := by simp [hop]
    have b5 : (t.op == 5) = false := by simp [hop]
    have b3 : (t.op == 3) = false := by simp [hop]
    have b6 : (t.op == 6) = false := by simp [hop]
    have b7 : (t.op == 7) = false := by simp [hop]
    have b8 : (t.op == 8) = false := by simp [hop]
    have b9 : (t.op == 9) = false := by simp [hop]
    clear hop
    go_enter Try.func27, Try.ntmps27
    go_upto_region 1 with fail
    rw [← hw1]
    clear hw1
    go_wp2_with fail
    refine HF.out.mono ?_
    rintro e w2 ⟨rfl, rfl⟩
    go_wp2
    go_ret
    exact ⟨by rw [HC.out]; rfl, HB.out⟩
  · have HC := Lib.hid (show rs = 0 by rw [HRS.out]; rw [if_pos (by omega)]); clear HRS
    have b1 : (t.op == 1) = false := by simp [hop]
    have b4 : (t.op == 4) = false := by simp [hop]
    have b10 : (t.op == 10) = true := by simp [hop]
    have b2 : (t.op == 2) = false := by simp [hop]
    have b5 : (t.op == 5) = false := by simp [hop]
    have b3 : (t.op == 3) = false := by simp [hop]
    have b6 : (t.op == 6) = false := by simp [hop]
    have b7 : (t.op == 7) = false := by simp [hop]
    have b8 : (t.op == 8) = false := by simp [hop]
    have b9 : (t.op == 9) = false := by simp [hop]
    clear hop
    go_enter Try.func27, Try.ntmps27
    go_upto_region 1 with fail
    rw [← hw1]
    clear hw1
    go_wp2_with fail
    refine HF.out.mono ?_
    rintro e w2 ⟨rfl, rfl⟩
    go_wp2
    go_ret
    exact ⟨by rw [HC.out]; rfl, HB.out⟩
  · have HC := Lib.hid (show rs = spanS S t by rw [HRS.out]; rw [if_neg (by omega), if_pos (by omega)]); clear HRS
    have b1 : (t.op == 1) = false := by simp [hop]
    have b4 : (t.op == 4) = false := by simp [hop]
    have b10 : (t.op == 10) = false := by simp [hop]
    have b2 : (t.op == 2) = true := by simp [hop]
    have b5 : (t.op == 5) = false := by simp [hop]
    have b3 : (t.op == 3) = false := by simp [hop]
    have b6 : (t.op == 6) = false := by simp [hop]
    have b7 : (t.op == 7) = false := by simp [hop]
    have b8 : (t.op == 8) = false := by simp [hop]
    have b9 : (t.op == 9) = false := by simp [hop]
    clear hop
    have q0 := HCT.out 0
    have q1 := HCT.out 1
    have q3 := HCT.out 3
    have q4 := HCT.out 4
    have q6 := HCT.out 6
    have q7 := HCT.out 7
    have q8 := HCT.out 8
    have q9 := HCT.out 9
    have q10 := HCT.out 10
    simp only [List.getElem?_toArray, List.getElem?_cons_zero, List.getElem?_cons_succ] at q0 q1 q3 q4 q6 q7 q8 q9 q10
    go_enter Try.func27, Try.ntmps27
    go_upto_region 1 with fail
    rw [← hw1]
    clear hw1
    go_wp2_with fail
    refine HF.out.mono ?_
    rintro e w2 ⟨rfl, rfl⟩
    go_wp2_with fail
    refine HSP.out.mono ?_
    rintro e w3 ⟨rfl, hb3⟩
    go_wp2
    go_ret
    exact ⟨by rw [HC.out]; rfl, HB.out.trans (hb3.mono hb12)⟩
  · have HC := Lib.hid (show rs = spanS S t by rw [HRS.out]; rw [if_neg (by omega), if_pos (by omega)]); clear HRS
    have b1 : (t.op == 1) = false := by simp [hop]
    have b4 : (t.op == 4) = false := by simp [hop]
    have b10 : (t.op == 10) = false := by simp [hop]
    have b2 : (t.op == 2) = false := by simp [hop]
    have b5 : (t.op == 5) = true := by simp [hop]
    have b3 : (t.op == 3) = false := by simp [hop]
    have b6 : (t.op == 6) = false := by simp [hop]
    have b7 : (t.op == 7) = false := by simp [hop]
    have b8 : (t.op == 8) = false := by simp [hop]
    have b9 : (t.op == 9) = false := by simp [hop]
    clear hop
    have q0 := HCT.out 0
    have q1 := HCT.out 1
    have q3 := HCT.out 3
    have q4 := HCT.out 4
    have q6 := HCT.out 6
    have q7 := HCT.out 7
    have q8 := HCT.out 8
    have q9 := HCT.out 9
    have q10 := HCT.out 10
    simp only [List.getElem?_toArray, List.getElem?_cons_zero, List.getElem?_cons_succ] at q0 q1 q3 q4 q6 q7 q8 q9 q10
    go_enter Try.func27, Try.ntmps27
    go_upto_region 1 with fail
    rw [← hw1]
    clear hw1
    go_wp2_with fail
    refine HF.out.mono ?_
    rintro e w2 ⟨rfl, rfl⟩
    go_wp2_with fail
    refine HSP.out.mono ?_
    rintro e w3 ⟨rfl, hb3⟩
    go_wp2
    go_ret
    exact ⟨by rw [HC.out]; rfl, HB.out.trans (hb3.mono hb12)⟩
  · have b1 : (t.op == 1) = false := by simp [hop]
    have b4 : (t.op == 4) = false := by simp [hop]
    have b10 : (t.op == 10) = false := by simp [hop]
    have b2 : (t.op == 2) = false := by simp [hop]
    have b5 : (t.op == 5) = false := by simp [hop]
    have b3 : (t.op == 3) = true := by simp [hop]
    have b6 : (t.op == 6) = false := by simp [hop]
    have b7 : (t.op == 7) = false := by simp [hop]
    have b8 : (t.op == 8) = false := by simp [hop]
    have b9 : (t.op == 9) = false := by simp [hop]
    have hdb := HDB.out
    have HRS3 := Lib.hid (show rs = if (dn : Int) % 64 ≠ 0 ∨ (dn : Int) / 64 ≠ t.cnt then 1 else spanS S t by rw [HRS.out, if_neg (by omega), if_neg (by omega), if_pos hop]); clear HRS hop
    have q0 := HCT.out 0
    have q1 := HCT.out 1
    have q3 := HCT.out 3
    have q4 := HCT.out 4
    have q6 := HCT.out 6
    have q7 := HCT.out 7
    have q8 := HCT.out 8
    have q9 := HCT.out 9
    have q10 := HCT.out 10
    simp only [List.getElem?_toArray, List.getElem?_cons_zero, List.getElem?_cons_succ] at q0 q1 q3 q4 q6 q7 q8 q9 q10
    by_cases k1 : (dn : Int) % 64 = 0
    rotate_left
    · have e1 : ((dn : Int) % 64 != 0) = true := by simp [k1]
      have HC := Lib.hid (show rs = 1 by rw [HRS3.out, if_pos (.inl k1)]); clear HRS3 k1
      go_enter Try.func27, Try.ntmps27
      go_upto_region 1 with fail
      rw [← hw1]
      clear hw1
      go_wp2_with fail
      refine HF.out.mono ?_
      rintro e w2 ⟨rfl, rfl⟩
      go_wp2
      go_ret
      exact ⟨by rw [HC.out]; rfl, HB.out⟩
    have e1 : ((dn : Int) % 64 != 0) = false := by simp [k1]
    by_cases k2 : (dn : Int) / 64 = t.cnt
    rotate_left
    · have e2 : ((dn : Int) / 64 != t.cnt) = true := by simp [k2]
      have HC := Lib.hid (show rs = 1 by rw [HRS3.out, if_pos (.inr k2)]); clear HRS3 k2 k1
      go_enter Try.func27, Try.ntmps27
      go_upto_region 1 with fail
      rw [← hw1]
      clear hw1
      go_wp2_with fail
      refine HF.out.mono ?_
      rintro e w2 ⟨rfl, rfl⟩
      go_wp2
      go_ret
      exact ⟨by rw [HC.out]; rfl, HB.out⟩
    have e2 : ((dn : Int) / 64 != t.cnt) = false := by simp [k2]
    have HC := Lib.hid (show rs = spanS S t by rw [HRS3.out, if_neg (by rintro (h | h); exact h k1; exact h k2)]); clear HRS3 k2 k1
    go_enter Try.func27, Try.ntmps27
    go_upto_region 1 with fail
    rw [← hw1]
    clear hw1
    go_wp2_with fail
    refine HF.out.mono ?_
    rintro e w2 ⟨rfl, rfl⟩
    go_wp2_with fail
    refine HSP.out.mono ?_
    rintro e w3 ⟨rfl, hb3⟩
    go_wp2
    go_ret
    exact ⟨by rw [HC.out]; rfl, HB.out.trans (hb3.mono hb12)⟩
  · have b1 : (t.op == 1) = false := by simp [hop]
    have b4 : (t.op == 4) = false := by simp [hop]
    have b10 : (t.op == 10) = false := by simp [hop]
    have b2 : (t.op == 2) = false := by simp [hop]
    have b5 : (t.op == 5) = false := by simp [hop]
    have b3 : (t.op == 3) = false := by simp [hop]
    have b6 : (t.op == 6) = true := by simp [hop]
    have b7 : (t.op == 7) = false := by simp [hop]
    have b8 : (t.op == 8) = false := by simp [hop]
    have b9 : (t.op == 9) = false := by simp [hop]
    have HRS6 := Lib.hid (show rs = if sizedB t.siz = false ∨ t.quo < 0 ∨ 1048576 < t.quo then 1 else placeS S by rw [HRS.out, if_neg (by omega), if_neg (by omega), if_neg (by omega), if_pos hop]); clear HRS hop
    have q0 := HCT.out 0
    have q1 := HCT.out 1
    have q3 := HCT.out 3
    have q4 := HCT.out 4
    have q6 := HCT.out 6
    have q7 := HCT.out 7
    have q8 := HCT.out 8
    have q9 := HCT.out 9
    have q10 := HCT.out 10
    simp only [List.getElem?_toArray, List.getElem?_cons_zero, List.getElem?_cons_succ] at q0 q1 q3 q4 q6 q7 q8 q9 q10
    cases hsd : sizedB t.siz with
    | false =>
      rw [hsd] at HSZ
      have HC := Lib.hid (show rs = 1 by rw [HRS6.out, if_pos (.inl hsd)]); clear HRS6 hsd
      go_enter Try.func27, Try.ntmps27
      go_upto_region 1 with fail
      rw [← hw1]
      clear hw1
      go_wp2_with fail
      refine HF.out.mono ?_
      rintro e w2 ⟨rfl, rfl⟩
      go_wp2_with fail
      refine HSZ.out.mono ?_
      rintro e w3 ⟨rfl, rfl⟩
      go_wp2
      go_ret
      exact ⟨by rw [HC.out]; rfl, HB.out⟩
    | true =>
      rw [hsd] at HSZ
      have HSD := Lib.hid hsd; clear hsd
      by_cases k1 : t.quo < 0
      · have e1 : decide (t.quo < 0) = true := by simpa using k1
        have HC := Lib.hid (show rs = 1 by rw [HRS6.out, if_pos (.inr (.inl k1))]); clear HRS6 k1
        go_enter Try.func27, Try.ntmps27
        go_upto_region 1 with fail
        rw [← hw1]
        clear hw1
        go_wp2_with fail
        refine HF.out.mono ?_
        rintro e w2 ⟨rfl, rfl⟩
        go_wp2_with fail
        refine HSZ.out.mono ?_
        rintro e w3 ⟨rfl, rfl⟩
        go_wp2
        go_ret
        exact ⟨by rw [HC.out]; rfl, HB.out⟩
      have e1 : decide (t.quo < 0) = false := by simpa using k1
      by_cases k2 : 1048576 < t.quo
      · have e2 : decide (1048576 < t.quo) = true := by simpa using k2
        have HC := Lib.hid (show rs = 1 by rw [HRS6.out, if_pos (.inr (.inr k2))]); clear HRS6 k1 k2
        go_enter Try.func27, Try.ntmps27
        go_upto_region 1 with fail
        rw [← hw1]
        clear hw1
        go_wp2_with fail
        refine HF.out.mono ?_
        rintro e w2 ⟨rfl, rfl⟩
        go_wp2_with fail
        refine HSZ.out.mono ?_
        rintro e w3 ⟨rfl, rfl⟩
        go_wp2
        go_ret
        exact ⟨by rw [HC.out]; rfl, HB.out⟩
      have e2 : decide (1048576 < t.quo) = false := by simpa using k2
      have HC := Lib.hid (show rs = placeS S by rw [HRS6.out, if_neg (by rintro (h | h | h); rw [HSD.out] at h; cases h; exact k1 h; exact k2 h)]); clear HRS6 k1 k2
      go_enter Try.func27, Try.ntmps27
      go_upto_region 1 with fail
      rw [← hw1]
      clear hw1
      go_wp2_with fail
      refine HF.out.mono ?_
      rintro e w2 ⟨rfl, rfl⟩
      go_wp2_with fail
      refine HSZ.out.mono ?_
      rintro e w3 ⟨rfl, rfl⟩
      go_wp2_with fail
      refine HPL.out.mono ?_
      rintro e w3 ⟨rfl, rfl⟩
      go_wp2
      go_ret
      exact ⟨by rw [HC.out]; rfl, HB.out⟩
  · have b1 : (t.op == 1) = false := by simp [hop]
    have b4 : (t.op == 4) = false := by simp [hop]
    have b10 : (t.op == 10) = false := by simp [hop]
    have b2 : (t.op == 2) = false := by simp [hop]
    have b5 : (t.op == 5) = false := by simp [hop]
    have b3 : (t.op == 3) = false := by simp [hop]
    have b6 : (t.op == 6) = false := by simp [hop]
    have b7 : (t.op == 7) = true := by simp [hop]
    have b8 : (t.op == 8) = false := by simp [hop]
    have b9 : (t.op == 9) = false := by simp [hop]
    have HRS7 := Lib.hid (show rs = if S.at t.vol = none then 31 else placeS S by rw [HRS.out, if_neg (by omega), if_neg (by omega), if_neg (by omega), if_neg (by omega), if_pos hop]); clear HRS hop
    rcases at_of_find (S := S) (id := t.vol) with ⟨hat, hf0⟩ | ⟨i, v, hat, hv, hf0⟩
    · have hfm : fi = -1 := by rw [HFI.out, hf0]
      subst hfm
      have HC := Lib.hid (show rs = 31 by rw [HRS7.out, if_pos hat]); clear HRS7 hat hf0
      go_enter Try.func27, Try.ntmps27
      go_upto_region 1 with fail
      rw [← hw1]
      clear hw1
      go_wp2_with fail
      refine HF.out.mono ?_
      rintro e w2 ⟨rfl, rfl⟩
      go_wp2
      go_ret
      exact ⟨by rw [HC.out]; rfl, HB.out⟩
    · have hfm : fi = (i : Int) := by rw [HFI.out, hf0]
      subst hfm
      have hi0 : (0 : Int) ≤ (i : Int) := by omega
      have hi1 : decide ((i : Int) < 0) = false := decide_eq_false (by omega)
      have HC := Lib.hid (show rs = placeS S by rw [HRS7.out, if_neg (by rw [hat]; simp)]); clear HRS7 hat hf0 hv
      go_enter Try.func27, Try.ntmps27
      go_upto_region 1 with fail
      rw [← hw1]
      clear hw1
      go_wp2_with fail
      refine HF.out.mono ?_
      rintro e w2 ⟨rfl, rfl⟩
      go_wp2_with fail
      refine HPL.out.mono ?_
      rintro e w3 ⟨rfl, rfl⟩
      go_wp2
      go_ret
      exact ⟨by rw [HC.out]; rfl, HB.out⟩
  · have b1 : (t.op == 1) = false := by simp [hop]
    have b4 : (t.op == 4) = false := by simp [hop]
    have b10 : (t.op == 10) = false := by simp [hop]
    have b2 : (t.op == 2) = false := by simp [hop]
    have b5 : (t.op == 5) = false := by simp [hop]
    have b3 : (t.op == 3) = false := by simp [hop]
    have b6 : (t.op == 6) = false := by simp [hop]
    have b7 : (t.op == 7) = false := by simp [hop]
    have b8 : (t.op == 8) = true := by simp [hop]
    have b9 : (t.op == 9) = false := by simp [hop]
    have HRS7 := Lib.hid (show rs = if S.at t.vol = none then 31 else 0 by rw [HRS.out, if_neg (by omega), if_neg (by omega), if_neg (by omega), if_neg (by omega), if_neg (by omega), if_pos hop]); clear HRS hop
    rcases at_of_find (S := S) (id := t.vol) with ⟨hat, hf0⟩ | ⟨i, v, hat, hv, hf0⟩
    · have hfm : fi = -1 := by rw [HFI.out, hf0]
      subst hfm
      have HC := Lib.hid (show rs = 31 by rw [HRS7.out, if_pos hat]); clear HRS7 hat hf0
      go_enter Try.func27, Try.ntmps27
      go_upto_region 1 with fail
      rw [← hw1]
      clear hw1
      go_wp2_with fail
      refine HF.out.mono ?_
      rintro e w2 ⟨rfl, rfl⟩
      go_wp2
      go_ret
      exact ⟨by rw [HC.out]; rfl, HB.out⟩
    · have hfm : fi = (i : Int) := by rw [HFI.out, hf0]
      subst hfm
      have hi0 : (0 : Int) ≤ (i : Int) := by omega
      have hi1 : decide ((i : Int) < 0) = false := decide_eq_false (by omega)
      have HC := Lib.hid (show rs = 0 by rw [HRS7.out, if_neg (by rw [hat]; simp)]); clear HRS7 hat hf0 hv
      go_enter Try.func27, Try.ntmps27
      go_upto_region 1 with fail
      rw [← hw1]
      clear hw1
      go_wp2_with fail
      refine HF.out.mono ?_
      rintro e w2 ⟨rfl, rfl⟩
      go_wp2
      go_ret
      exact ⟨by rw [HC.out]; rfl, HB.out⟩
  · have b1 : (t.op == 1) = false := by simp [hop]
    have b4 : (t.op == 4) = false := by simp [hop]
    have b10 : (t.op == 10) = false := by simp [hop]
    have b2 : (t.op == 2) = false := by simp [hop]
    have b5 : (t.op == 5) = false := by simp [hop]
    have b3 : (t.op == 3) = false := by simp [hop]
    have b6 : (t.op == 6) = false := by simp [hop]
    have b7 : (t.op == 7) = false := by simp [hop]
    have b8 : (t.op == 8) = false := by simp [hop]
    have b9 : (t.op == 9) = true := by simp [hop]
    have HRS7 := Lib.hid (show rs = match S.at t.vol with | none => 31 | some q => resizeS q.2.bl t.siz lost by rw [HRS.out, if_neg (by omega), if_neg (by omega), if_neg (by omega), if_neg (by omega), if_neg (by omega), if_neg (by omega), if_pos hop]); clear HRS hop
    have q0 := HCT.out 0
    have q1 := HCT.out 1
    have q3 := HCT.out 3
    have q4 := HCT.out 4
    have q6 := HCT.out 6
    have q7 := HCT.out 7
    have q8 := HCT.out 8
    have q9 := HCT.out 9
    have q10 := HCT.out 10
    simp only [List.getElem?_toArray, List.getElem?_cons_zero, List.getElem?_cons_succ] at q0 q1 q3 q4 q6 q7 q8 q9 q10
    rcases at_of_find (S := S) (id := t.vol) with ⟨hat, hf0⟩ | ⟨i, v, hat, hv, hf0⟩
    · have hfm : fi = -1 := by rw [HFI.out, hf0]
      subst hfm
      have HC := Lib.hid (show rs = 31 by rw [HRS7.out, hat]); clear HRS7 hat hf0
      go_enter Try.func27, Try.ntmps27
      go_upto_region 1 with fail
      rw [← hw1]
      clear hw1
      go_wp2_with fail
      refine HF.out.mono ?_
      rintro e w2 ⟨rfl, rfl⟩
      go_wp2
      go_ret
      exact ⟨by rw [HC.out]; rfl, HB.out⟩
    · have hfm : fi = (i : Int) := by rw [HFI.out, hf0]
      subst hfm
      have hi0 : (0 : Int) ≤ (i : Int) := by omega
      have hi1 : decide ((i : Int) < 0) = false := decide_eq_false (by omega)
      have hvp : ∃ p, vs[i]? = some p ∧ p.1 = v := by
        rw [H1.out.vols, List.getElem?_map] at hv
        cases hq : vs[i]? with
        | none => rw [hq] at hv; simp at hv
        | some p => rw [hq] at hv; simp at hv; exact ⟨p, rfl, hv⟩
      have hvm := List.mem_of_getElem? hv
      have hbl : v.bl.length ≤ 1048576 := by have := hg.room v hvm; have := hg.quota v hvm; omega
      obtain ⟨p, hp, hpv⟩ := hvp
      have hrz := rresize_any r lv vs S W i p t.siz lost w1 H1.out hp (by rw [hpv]; exact hbl)
      rw [hpv] at hrz
      have HRZ := Lib.hid hrz; clear hrz hp hpv hbl hvm hv
      have HC := Lib.hid (show rs = resizeS v.bl t.siz lost by rw [HRS7.out, hat]); clear HRS7 hat hf0
      go_enter Try.func27, Try.ntmps27
      go_upto_region 1 with fail
      rw [← hw1]
      clear hw1
      go_wp2_with fail
      refine HF.out.mono ?_
      rintro e w2 ⟨rfl, rfl⟩
      go_wp2_with fail
      refine HRZ.out.mono ?_
      rintro e w3 ⟨rfl, rfl⟩
      go_wp2
      go_ret
      exact ⟨by rw [HC.out]; rfl, HB.out⟩
  · have b1 : (t.op == 1) = false := by simp; omega
    have b4 : (t.op == 4) = false := by simp; omega
    have b10 : (t.op == 10) = false := by simp; omega
    have b2 : (t.op == 2) = false := by simp; omega
    have b5 : (t.op == 5) = false := by simp; omega
    have b3 : (t.op == 3) = false := by simp; omega
    have b6 : (t.op == 6) = false := by simp; omega
    have b7 : (t.op == 7) = false := by simp; omega
    have b8 : (t.op == 8) = false := by simp; omega
    have b9 : (t.op == 9) = false := by simp; omega
    have HC := Lib.hid (show rs = 50 by rw [HRS.out]; rw [if_neg (by omega), if_neg (by omega), if_neg (by omega), if_neg (by omega), if_neg (by omega), if_neg (by omega), if_neg (by omega)]); clear HRS
    clear hop
    go_enter Try.func27, Try.ntmps27
    go_upto_region 1 with fail
    rw [← hw1]
    clear hw1
    go_wp2_with fail
    refine HF.out.mono ?_
    rintro e w2 ⟨rfl, rfl⟩
    go_wp2
    go_ret
    exact ⟨by rw [HC.out]; rfl, HB.out⟩
end Go.Proofs.Ytmanldcohbegkaa
