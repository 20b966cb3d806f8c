/-
  The document's model: does: what reads, nothing, resize, delete. (Written by gen_rfdoes.py.)
-/
import Derived.Test.YtmanldcohbegkaaRfDoesMath
import Derived.Test.YtmanldcohbegkaaRfList
namespace Go.Proofs.Ytmanldcohbegkaa
open Go.RowKit

def DoesPost (w : World) (r : Nat) (lv : Value) (S : Mo) (W : Nat → Prop) (t : Tk) (e : Ending) (w' : World) : Prop := ∃ x lv' vs' W', e = .returned x ∧ Owns w.heap.size w' x (changeS S t).1 ∧ RefIs w' r lv' vs' (changeS S t).2 W' ∧ Keeps (fun y => y = r ∨ lv.ownBlock = some y) w w' ∧ ∀ y, W' y → W y ∨ w.heap.size ≤ y
/-- Nothing of the model has turned. -/
theorem does_still {w w' : World} {r : Nat} {lv : Value} {vs : List (Vo × Value)} {S : Mo} {W : Nat → Prop} {t : Tk} {x : Value} {l : List Nat} (h : RefIs w r lv vs S W) (hb : Below w.heap.size w w') (hc : changeS S t = (l, S)) (ho : Owns w.heap.size w' x l) : DoesPost w r lv S W t (.returned x) w' :=
  ⟨x, lv, vs, W, rfl, by rw [hc]; exact ho, by rw [hc]; exact h.below hb, Keeps.of_below hb, fun y hy => .inl hy⟩
set_option maxRecDepth 100000 in
set_option maxHeartbeats 6400000 in
theorem rdoes_none (r : Nat) (lv : Value) (vs : List (Vo × Value)) (S : Mo) (W : Nat → Prop) (t : Tk) (dv : Value) (w : World) (h : RefIs w r lv vs S W) (hg : Good S) (hdv : ∃ a n c, dv = .slice a n c) (hop : t.op = 1 ∨ t.op = 4) :
    Calls Try.prog 29 #[.pointer (some ⟨r, 0, none⟩), .agg (t.cells dv)] w (DoesPost w r lv S W t) := by
  obtain ⟨da, dn, dc, rfl⟩ := hdv
  have hlen8 : vs.length ≤ 8 := by rw [h.len]; exact hg.len
  obtain ⟨w1, hw1⟩ : ∃ w1, w1 = w.alloc (.cells (t.cells (.slice da dn dc)) 30) := ⟨_, rfl⟩
  have hb1 : Below w.heap.size w w1 := by rw [hw1]; exact allocBelow w _
  have hc1 : CellsAt w1 w.heap.size (t.cells (.slice da dn dc)) 30 := by rw [hw1]; exact heap_at rfl
  have h1 := h.below hb1
  have hz1 : w.heap.size ≤ w1.heap.size := hb1.size
  have htl : w.heap.size < w1.heap.size := hc1.lt
  have HF := Lib.hid (rfind_any r lv vs S W t.vol w1 h1 hlen8)
  obtain ⟨fi, hfi⟩ : ∃ fi, fi = firstAt (fun v : Vo => v.id == t.vol) S.vols := ⟨_, rfl⟩
  rw [← hfi] at HF
  have HFI := Lib.hid hfi; clear hfi
  have HB1 := Lib.hid hb1; clear hb1
  have HC1 := Lib.hid hc1; clear hc1
  have H := Lib.hid h; clear h
  have H1 := Lib.hid h1; clear h1
  have c5 := HC1.out.cell 5
  have c2 := HC1.out.cell 2
  simp only [Tk.cells, List.getElem?_toArray, List.getElem?_cons_zero, List.getElem?_cons_succ] at c5 c2
  have b2 : (t.op == 2) = false := by simp; omega
  have b10 : (t.op == 10) = false := by simp; omega
  have b6 : (t.op == 6) = false := by simp; omega
  have b7 : (t.op == 7) = false := by simp; omega
  have b8 : (t.op == 8) = false := by simp; omega
  have b9 : (t.op == 9) = false := by simp; omega
  have hc : changeS S t = ([], S) := by unfold changeS; rw [if_neg (by omega), if_neg (by omega), if_neg (by omega), if_neg (by omega), if_neg (by omega), if_neg (by omega)]
  have HCS := Lib.hid hc; clear hc hop
  unfold Tk.cells at hw1 ⊢
  go_enter Try.func29, Try.ntmps29
  go_upto_region 1 with fail
  rw [← hw1]
  clear hw1
  go_wp2_with fail
  refine HF.out.mono ?_
  rintro e w2 ⟨rfl, rfl⟩
  clear HF c5
  go_wp2
  go_ret
  exact does_still H.out HB1.out HCS.out (Owns.nil _ _)
set_option maxRecDepth 100000 in
set_option maxHeartbeats 6400000 in
theorem rdoes_read (r : Nat) (lv : Value) (vs : List (Vo × Value)) (S : Mo) (W : Nat → Prop) (t : Tk) (dv : Value) (w : World) (h : RefIs w r lv vs S W) (hg : Good S) (hdv : ∃ a n c, dv = .slice a n c) (hop : t.op = 2) (lost : Bool) (hr : refuseS S t lost = 0) :
    Calls Try.prog 29 #[.pointer (some ⟨r, 0, none⟩), .agg (t.cells dv)] w (DoesPost w r lv S W t) := by
  obtain ⟨i, v, hat, k1, k8, l0, l1, l2⟩ := refuse_blocks hr (.inr (.inl hop))
  have hsz := hg.size v (List.mem_of_getElem? (Mo.at_some hat).2)
  obtain ⟨da, dn, dc, rfl⟩ := hdv
  have hlen8 : vs.length ≤ 8 := by rw [h.len]; exact hg.len
  obtain ⟨w1, hw1⟩ : ∃ w1, w1 = w.alloc (.cells (t.cells (.slice da dn dc)) 30) := ⟨_, rfl⟩
  have hb1 : Below w.heap.size w w1 := by rw [hw1]; exact allocBelow w _
  have hc1 : CellsAt w1 w.heap.size (t.cells (.slice da dn dc)) 30 := by rw [hw1]; exact heap_at rfl
  have h1 := h.below hb1
  have hz1 : w.heap.size ≤ w1.heap.size := hb1.size
  have htl : w.heap.size < w1.heap.size := hc1.lt
  have HF := Lib.hid (rfind_any r lv vs S W t.vol w1 h1 hlen8)
  obtain ⟨fi, hfi⟩ : ∃ fi, fi = firstAt (fun v : Vo => v.id == t.vol) S.vols := ⟨_, rfl⟩
  rw [← hfi] at HF
  have HFI := Lib.hid hfi; clear hfi
  have HB1 := Lib.hid hb1; clear hb1
  have HC1 := Lib.hid hc1; clear hc1
  have H := Lib.hid h; clear h
  have H1 := Lib.hid h1; clear h1
  have c5 := HC1.out.cell 5
  have c2 := HC1.out.cell 2
  simp only [Tk.cells, List.getElem?_toArray, List.getElem?_cons_zero, List.getElem?_cons_succ] at c5 c2
  have hrd := rread_any r lv vs S W t (.slice da dn dc) i v w1 H1.out hg ⟨_, _, _, rfl⟩ hat k1 k8 l0 (by omega)
  unfold Tk.cells at hrd
  have HRD := Lib.hid hrd; clear hrd
  have b2 : (t.op == 2) = true := by simp [hop]
  have b10 : (t.op == 10) = false := by simp [hop]
  have b6 : (t.op == 6) = false := by simp [hop]
  have b7 : (t.op == 7) = false := by simp [hop]
  have b8 : (t.op == 8) = false := by simp [hop]
  have b9 : (t.op == 9) = false := by simp [hop]
  have hc : changeS S t = (readS v t.lba t.cnt.toNat, S) := by unfold changeS; rw [if_pos hop, hat]
  have HCS := Lib.hid hc; clear hc hop hat k1 k8 l0 l1 l2 hsz hr
  have q0 := HC1.out.cell 0
  have q1 := HC1.out.cell 1
  have q3 := HC1.out.cell 3
  have q4 := HC1.out.cell 4
  have q5 := HC1.out.cell 5
  have q6 := HC1.out.cell 6
  have q7 := HC1.out.cell 7
  have q8 := HC1.out.cell 8
  have q9 := HC1.out.cell 9
  have q10 := HC1.out.cell 10
  simp only [Tk.cells, List.getElem?_toArray, List.getElem?_cons_zero, List.getElem?_cons_succ] at q0 q1 q3 q4 q5 q6 q7 q8 q9 q10
  unfold Tk.cells at hw1 ⊢
  go_enter Try.func29, Try.ntmps29
  go_upto_region 1 with fail
  rw [← hw1]
  clear hw1
  go_wp2_with fail
  refine HF.out.mono ?_
  rintro e w2 ⟨rfl, rfl⟩
  clear HF c5
  go_wp2_with fail
  refine HRD.out.mono ?_
  rintro e w3 ⟨x, rfl, hown, hb3⟩
  have HO := Lib.hid hown; clear hown
  have HB3 := Lib.hid (HB1.out.trans (hb3.mono hz1)); clear hb3
  go_wp2
  go_ret
  exact does_still H.out HB3.out HCS.out (HO.out.mono hz1)
set_option maxRecDepth 100000 in
set_option maxHeartbeats 6400000 in
theorem rdoes_list (r : Nat) (lv : Value) (vs : List (Vo × Value)) (S : Mo) (W : Nat → Prop) (t : Tk) (dv : Value) (w : World) (h : RefIs w r lv vs S W) (hg : Good S) (hdv : ∃ a n c, dv = .slice a n c) (hop : t.op = 10) :
    Calls Try.prog 29 #[.pointer (some ⟨r, 0, none⟩), .agg (t.cells dv)] w (DoesPost w r lv S W t) := by
  obtain ⟨da, dn, dc, rfl⟩ := hdv
  have hlen8 : vs.length ≤ 8 := by rw [h.len]; exact hg.len
  obtain ⟨w1, hw1⟩ : ∃ w1, w1 = w.alloc (.cells (t.cells (.slice da dn dc)) 30) := ⟨_, rfl⟩
  have hb1 : Below w.heap.size w w1 := by rw [hw1]; exact allocBelow w _
  have hc1 : CellsAt w1 w.heap.size (t.cells (.slice da dn dc)) 30 := by rw [hw1]; exact heap_at rfl
  have h1 := h.below hb1
  have hz1 : w.heap.size ≤ w1.heap.size := hb1.size
  have htl : w.heap.size < w1.heap.size := hc1.lt
  have HF := Lib.hid (rfind_any r lv vs S W t.vol w1 h1 hlen8)
  obtain ⟨fi, hfi⟩ : ∃ fi, fi = firstAt (fun v : Vo => v.id == t.vol) S.vols := ⟨_, rfl⟩
  rw [← hfi] at HF
  have HFI := Lib.hid hfi; clear hfi
  have HB1 := Lib.hid hb1; clear hb1
  have HC1 := Lib.hid hc1; clear hc1
  have H := Lib.hid h; clear h
  have H1 := Lib.hid h1; clear h1
  have c5 := HC1.out.cell 5
  have c2 := HC1.out.cell 2
  simp only [Tk.cells, List.getElem?_toArray, List.getElem?_cons_zero, List.getElem?_cons_succ] at c5 c2
  have HRD := Lib.hid (rlist_any r lv vs S W w1 H1.out hg)
  have b2 : (t.op == 2) = false := by simp [hop]
  have b10 : (t.op == 10) = true := by simp [hop]
  have b6 : (t.op == 6) = false := by simp [hop]
  have b7 : (t.op == 7) = false := by simp [hop]
  have b8 : (t.op == 8) = false := by simp [hop]
  have b9 : (t.op == 9) = false := by simp [hop]
  have hc : changeS S t = (listS S.vols, S) := by unfold changeS; rw [if_neg (by omega), if_neg (by omega), if_neg (by omega), if_neg (by omega), if_neg (by omega), if_pos hop]
  have HCS := Lib.hid hc; clear hc hop
  unfold Tk.cells at hw1 ⊢
  go_enter Try.func29, Try.ntmps29
  go_upto_region 1 with fail
  rw [← hw1]
  clear hw1
  go_wp2_with fail
  refine HF.out.mono ?_
  rintro e w2 ⟨rfl, rfl⟩
  clear HF c5
  go_wp2_with fail
  refine HRD.out.mono ?_
  rintro e w3 ⟨x, rfl, hown, hb3⟩
  have HO := Lib.hid hown; clear hown
  have HB3 := Lib.hid (HB1.out.trans (hb3.mono hz1)); clear hb3
  go_wp2
  go_ret
  exact does_still H.out HB3.out HCS.out (HO.out.mono hz1)
set_option maxRecDepth 100000 in
set_option maxHeartbeats 6400000 in
theorem rdoes_resize (r : Nat) (lv : Value) (vs : List (Vo × Value)) (S : Mo) (W : Nat → Prop) (t : Tk) (dv : Value) (w : World) (h : RefIs w r lv vs S W) (hg : Good S) (hdv : ∃ a n c, dv = .slice a n c) (hop : t.op = 9) (i : Nat) (v : Vo) (hat : S.at t.vol = some (i, v)) :
    Calls Try.prog 29 #[.pointer (some ⟨r, 0, none⟩), .agg (t.cells dv)] w (DoesPost w r lv S W t) := by
  obtain ⟨da, dn, dc, rfl⟩ := hdv
  have hlen8 : vs.length ≤ 8 := by rw [h.len]; exact hg.len
  obtain ⟨w1, hw1⟩ : ∃ w1, w1 = w.alloc (.cells (t.cells (.slice da dn dc)) 30) := ⟨_, rfl⟩
  have hb1 : Below w.heap.size w w1 := by rw [hw1]; exact allocBelow w _
  have hc1 : CellsAt w1 w.heap.size (t.cells (.slice da dn dc)) 30 := by rw [hw1]; exact heap_at rfl
  have h1 := h.below hb1
  have hz1 : w.heap.size ≤ w1.heap.size := hb1.size
  have htl : w.heap.size < w1.heap.size := hc1.lt
  have HF := Lib.hid (rfind_any r lv vs S W t.vol w1 h1 hlen8)
  obtain ⟨fi, hfi⟩ : ∃ fi, fi = firstAt (fun v : Vo => v.id == t.vol) S.vols := ⟨_, rfl⟩
  rw [← hfi] at HF
  have HFI := Lib.hid hfi; clear hfi
  have HB1 := Lib.hid hb1; clear hb1
  have HC1 := Lib.hid hc1; clear hc1
  have H := Lib.hid h; clear h
  have H1 := Lib.hid h1; clear h1
  have c5 := HC1.out.cell 5
  have c2 := HC1.out.cell 2
  simp only [Tk.cells, List.getElem?_toArray, List.getElem?_cons_zero, List.getElem?_cons_succ] at c5 c2
  obtain ⟨bv, hp, _⟩ := H1.out.atRow (Mo.at_some hat).2
  have hfm : fi = (i : Int) := by rw [HFI.out, find_first, (Mo.at_some hat).1]
  subst hfm
  have hil : i < vs.length := (List.getElem?_eq_some_iff.1 hp).1
  obtain ⟨a, c, rfl, hform⟩ := ownsForm H1.out.row
  obtain ⟨g, rfl, hgl⟩ : ∃ g, a = some ⟨g, 0, none⟩ ∧ g < w1.heap.size := by
    rcases hform with ⟨_, h0, _⟩ | ⟨g, e, hl⟩
    · omega
    · exact ⟨g, e, hl⟩
  obtain ⟨n, hn⟩ : ∃ n, n = vs.length := ⟨_, rfl⟩
  have hn1 : n ≤ vs.length := by omega
  have hn2 : vs.length ≤ n := by omega
  rw [← hn] at H H1 hil hlen8 ⊢
  clear hform
  have hin : (i : Int) < (n : Int) := by omega
  have hi0 : (0 : Int) ≤ (i : Int) := by omega
  have hiz : ((i : Int)).toNat = i := by omega
  clear hn
  have x0 := H1.out.head.cell 0
  simp only [List.getElem?_toArray, List.getElem?_cons_zero] at x0
  have b2 : (t.op == 2) = false := by simp [hop]
  have b10 : (t.op == 10) = false := by simp [hop]
  have b6 : (t.op == 6) = false := by simp [hop]
  have b7 : (t.op == 7) = false := by simp [hop]
  have b8 : (t.op == 8) = false := by simp [hop]
  have b9 : (t.op == 9) = true := by simp [hop]
  have hc : changeS S t = ([], S.setVol i { v with size := t.siz }) := by unfold changeS; rw [if_neg (by omega), if_neg (by omega), if_neg (by omega), if_neg (by omega), if_pos hop, hat]
  have HCS := Lib.hid hc; clear hc hop hat
  have q8 := HC1.out.cell 8
  simp only [Tk.cells, List.getElem?_toArray, List.getElem?_cons_zero, List.getElem?_cons_succ] at q8
  have y1 := H1.out.cell hp 1 (by omega)
  simp only [vcell4, List.getElem?_cons_zero, List.getElem?_cons_succ] at y1
  obtain ⟨cur, hcur⟩ := rowBlockT H1.out.row (g := g) rfl
  have yf := CellsAt.free (show CellsAt w1 g cur 69 from hcur) (i * 4 + 1)
  clear hcur
  obtain ⟨w4, hw4⟩ : ∃ w4, w4 = (w1.setCell ⟨g, i * 4 + 1, none⟩ (.int .i64 t.siz)).drew := ⟨_, rfl⟩
  have hR := H1.out.resize hp t.siz
  have hR4 : RefIs w4 r (.slice (some ⟨g, 0, none⟩) n c) (vs.set i ({ v with size := t.siz }, bv)) (S.setVol i { v with size := t.siz }) W := by rw [hw4]; exact hR.kept (Keeps.refl _ _).drew
  have hK4 : Keeps (fun y => y = r ∨ (Value.slice (some ⟨g, 0, none⟩) n c).ownBlock = some y) w w4 := by rw [hw4]; exact (((Keeps.of_below HB1.out).setCell (p := ⟨g, i * 4 + 1, none⟩) (fun _ => .inr rfl) _).drew)
  have HR4 := Lib.hid hR4; have HK4 := Lib.hid hK4; clear hR hR4 hK4
  unfold Tk.cells at hw1 ⊢
  go_enter Try.func29, Try.ntmps29
  go_upto_region 1 with fail
  rw [← hw1]
  clear hw1
  go_wp2_with fail
  refine HF.out.mono ?_
  rintro e w2 ⟨rfl, rfl⟩
  clear HF c5
  go_upto_region 21 with fail
  refine wp_region_held_drew (S := fun V => V.cell? ⟨r, 0, none⟩ = some (.slice (some ⟨g, 0, none⟩) n c) ∧ V.cell? ⟨w.heap.size, 8, none⟩ = some (.int .i64 t.siz)) (by kernel_rfl) ⟨x0, q8⟩ (fun hHeld => ?_)
  refine wpAnyH_take (i := 0) (v := (.pointer (some ⟨r, 0, none⟩))) ops_at0 (by kernel_rfl) (by kernel_rfl) (by kernel_rfl) (fun _ _ _ h => h) (Or.inl ⟨by rfl, fun V hV => ?_⟩) hHeld ?_
  · go_simp
  simp only [Act.put, List.setIfInBounds_toArray, List.set_cons_zero, List.set_cons_succ]
  refine wpAnyH_take (i := 1) (v := (.pointer (some ⟨r, 0, none⟩))) ops_at1 (by kernel_rfl) (by kernel_rfl) (by kernel_rfl) (fun _ _ _ h => h) (Or.inl ⟨by rfl, fun V hV => ?_⟩) hHeld ?_
  · go_simp
  simp only [Act.put, List.setIfInBounds_toArray, List.set_cons_zero, List.set_cons_succ]
  refine wpAnyH_take (i := 2) (v := (.pointer (some ⟨r, 0, none⟩))) ops_at2 (by kernel_rfl) (by kernel_rfl) (by kernel_rfl) (fun _ _ _ h => h) (Or.inl ⟨by rfl, fun V hV => ?_⟩) hHeld ?_
  · go_simp
  simp only [Act.put, List.setIfInBounds_toArray, List.set_cons_zero, List.set_cons_succ]
  refine wpAnyH_take (i := 3) (v := .slice (some ⟨g, 0, none⟩) n c) ops_at3 (by kernel_rfl) (by kernel_rfl) (by kernel_rfl) (fun _ _ _ h => h) (Or.inl ⟨by rfl, fun V hV => ?_⟩) hHeld ?_
  · obtain ⟨x0, q8⟩ := hV
    go_simp
  simp only [Act.put, List.setIfInBounds_toArray, List.set_cons_zero, List.set_cons_succ]
  refine wpAnyH_take (i := 4) (v := .int .i64 (i : Int)) ops_at4 (by kernel_rfl) (by kernel_rfl) (by kernel_rfl) (fun _ _ _ h => h) (Or.inl ⟨by rfl, fun V hV => ?_⟩) hHeld ?_
  · go_simp
  simp only [Act.put, List.setIfInBounds_toArray, List.set_cons_zero, List.set_cons_succ]
  refine wpAnyH_take (i := 5) (v := (.pointer (some ⟨w.heap.size, 8, none⟩))) ops_at5 (by kernel_rfl) (by kernel_rfl) (by kernel_rfl) (fun _ _ _ h => h) (Or.inl ⟨by rfl, fun V hV => ?_⟩) hHeld ?_
  · go_simp
  simp only [Act.put, List.setIfInBounds_toArray, List.set_cons_zero, List.set_cons_succ]
  refine wpAnyH_take (i := 6) (v := .int .i64 t.siz) ops_at6 (by kernel_rfl) (by kernel_rfl) (by kernel_rfl) (fun _ _ _ h => h) (Or.inl ⟨by rfl, fun V hV => ?_⟩) hHeld ?_
  · obtain ⟨x0, q8⟩ := hV
    go_simp
  simp only [Act.put, List.setIfInBounds_toArray, List.set_cons_zero, List.set_cons_succ]
  refine wpAnyH_take (i := 7) (v := (.pointer (some ⟨g, i * 4, none⟩))) ops_at7 (by kernel_rfl) (by kernel_rfl) (by kernel_rfl) (fun _ _ _ h => h) (Or.inl ⟨by rfl, fun V hV => ?_⟩) hHeld ?_
  · go_simp
  simp only [Act.put, List.setIfInBounds_toArray, List.set_cons_zero, List.set_cons_succ]
  refine wpAnyH_take (i := 8) (v := (.pointer (some ⟨g, i * 4 + 1, none⟩))) ops_at8 (by kernel_rfl) (by kernel_rfl) (by kernel_rfl) (fun _ _ _ h => h) (Or.inl ⟨by rfl, fun V hV => ?_⟩) hHeld ?_
  · go_simp
  simp only [Act.put, List.setIfInBounds_toArray, List.set_cons_zero, List.set_cons_succ]
  refine wpAnyH_ready (rs := [9]) (by kernel_rfl) (by simp) ?_
  refine AllReadyH.cons ops_at9 (fun K hK => ?_) AllReadyH.nil
  rw [if_pos (by rfl)]
  go_simp
  rw [← hw4]
  have x0' : w4.cell? ⟨r, 0, none⟩ = some (.slice (some ⟨g, 0, none⟩) n c) := by have := HR4.out.head.cell 0; simpa using this
  have q8' : w4.cell? ⟨w.heap.size, 8, none⟩ = some (.int .i64 t.siz) := by
    rw [hw4]
    have hne : w.heap.size ≠ g := by have := H.out.lt g (H.out.inL g rfl); omega
    exact (World.cell?_setCell_other w1 ⟨g, i * 4 + 1, none⟩ ⟨w.heap.size, 8, none⟩ _ (fun e => hne (by first | exact congrArg Addr.block e | exact (congrArg Addr.block e).symm))).trans q8
  clear hw4
  refine hK.out _ _ ⟨x0', q8'⟩ (fun hHeld => ?_)
  clear hK K
  refine wpAnyH_done (by kernel_rfl) ?_ _
  go_wp2
  go_ret
  exact ⟨_, _, _, W, rfl, by rw [HCS.out]; exact Owns.nil _ _, by rw [HCS.out]; exact HR4.out, HK4.out, fun y hy => .inl hy⟩
theorem rmap_erase {α β : Type} (f : α → β) : ∀ (l : List α) (i : Nat), (l.map f).eraseIdx i = (l.eraseIdx i).map f
  | [], _ => rfl
  | _ :: _, 0 => rfl
  | x :: l, i + 1 => by simp [rmap_erase f l i]
theorem vcells_eraseIdx : ∀ (vs : List (Vo × Value)) (i : Nat), i < vs.length → vcells (vs.eraseIdx i) = (vcells vs).take (i * 4) ++ (vcells vs).drop ((i + 1) * 4)
  | [], i, h => by simp at h
  | p :: vs, 0, _ => by simp [vcells, vcell4]
  | p :: vs, i + 1, h => by
    have ih := vcells_eraseIdx vs i (by simpa using h)
    have e1 : (i + 1) * 4 = i * 4 + 4 := by omega
    have e2 : (i + 1 + 1) * 4 = (i + 1) * 4 + 4 := by omega
    rw [List.eraseIdx_cons_succ]
    simp only [vcells, List.flatMap_cons] at ih ⊢
    rw [ih, e2, e1]
    simp [vcell4]
set_option maxRecDepth 100000 in
set_option maxHeartbeats 6400000 in
theorem rdoes_delete (r : Nat) (lv : Value) (vs : List (Vo × Value)) (S : Mo) (W : Nat → Prop) (t : Tk) (dv : Value) (w : World) (h : RefIs w r lv vs S W) (hg : Good S) (hdv : ∃ a n c, dv = .slice a n c) (hop : t.op = 8) (i : Nat) (v : Vo) (hat : S.at t.vol = some (i, v)) :
    Calls Try.prog 29 #[.pointer (some ⟨r, 0, none⟩), .agg (t.cells dv)] w (DoesPost w r lv S W t) := by
  obtain ⟨da, dn, dc, rfl⟩ := hdv
  have hlen8 : vs.length ≤ 8 := by rw [h.len]; exact hg.len
  obtain ⟨w1, hw1⟩ : ∃ w1, w1 = w.alloc (.cells (t.cells (.slice da dn dc)) 30) := ⟨_, rfl⟩
  have hb1 : Below w.heap.size w w1 := by rw [hw1]; exact allocBelow w _
  have hc1 : CellsAt w1 w.heap.size (t.cells (.slice da dn dc)) 30 := by rw [hw1]; exact heap_at rfl
  have h1 := h.below hb1
  have hz1 : w.heap.size ≤ w1.heap.size := hb1.size
  have htl : w.heap.size < w1.heap.size := hc1.lt
  have HF := Lib.hid (rfind_any r lv vs S W t.vol w1 h1 hlen8)
  obtain ⟨fi, hfi⟩ : ∃ fi, fi = firstAt (fun v : Vo => v.id == t.vol) S.vols := ⟨_, rfl⟩
  rw [← hfi] at HF
  have HFI := Lib.hid hfi; clear hfi
  have HB1 := Lib.hid hb1; clear hb1
  have HC1 := Lib.hid hc1; clear hc1
  have H := Lib.hid h; clear h
  have H1 := Lib.hid h1; clear h1
  have c5 := HC1.out.cell 5
  have c2 := HC1.out.cell 2
  simp only [Tk.cells, List.getElem?_toArray, List.getElem?_cons_zero, List.getElem?_cons_succ] at c5 c2
  obtain ⟨bv, hp, _⟩ := H1.out.atRow (Mo.at_some hat).2
  have hfm : fi = (i : Int) := by rw [HFI.out, find_first, (Mo.at_some hat).1]
  subst hfm
  have hil : i < vs.length := (List.getElem?_eq_some_iff.1 hp).1
  obtain ⟨a, c, rfl, hform⟩ := ownsForm H1.out.row
  obtain ⟨g, rfl, hgl⟩ : ∃ g, a = some ⟨g, 0, none⟩ ∧ g < w1.heap.size := by
    rcases hform with ⟨_, h0, _⟩ | ⟨g, e, hl⟩
    · omega
    · exact ⟨g, e, hl⟩
  obtain ⟨n, hn⟩ : ∃ n, n = vs.length := ⟨_, rfl⟩
  have hn1 : n ≤ vs.length := by omega
  have hn2 : vs.length ≤ n := by omega
  rw [← hn] at H H1 hil hlen8 ⊢
  clear hform
  have hin : (i : Int) < (n : Int) := by omega
  have hi0 : (0 : Int) ≤ (i : Int) := by omega
  have hiz : ((i : Int)).toNat = i := by omega
  clear hn
  have x0 := H1.out.head.cell 0
  simp only [List.getElem?_toArray, List.getElem?_cons_zero] at x0
  have b2 : (t.op == 2) = false := by simp [hop]
  have b10 : (t.op == 10) = false := by simp [hop]
  have b6 : (t.op == 6) = false := by simp [hop]
  have b7 : (t.op == 7) = false := by simp [hop]
  have b8 : (t.op == 8) = true := by simp [hop]
  have b9 : (t.op == 9) = false := by simp [hop]
  have hc : changeS S t = ([], { S with vols := S.vols.eraseIdx i }) := by unfold changeS; rw [if_neg (by omega), if_neg (by omega), if_neg (by omega), if_pos hop, (Mo.at_some hat).1]
  have HCS := Lib.hid hc; clear hc hop hat
  obtain ⟨i0, hi0', hz0', hz1', hz2'⟩ := info_parts Try.info_rvol
  have HI := Lib.hid hi0'; clear hi0'
  have HZ0 := Lib.hid hz0'; clear hz0'
  have HZ1 := Lib.hid hz1'; clear hz1'
  have HZ2 := Lib.hid hz2'; clear hz2'
  have hcap : n ≤ c := by
    rcases H1.out.row.2 with ⟨e, _⟩ | ⟨g', cap', cur, e, a1, a2, a3, a4, a5, a6⟩
    · simp at e
    · injection e with e1 e2 e3; omega
  have hrowc : ∀ j, j < vs.length * 4 → w1.cell? ⟨g, j, none⟩ = (vcells vs)[j]? := fun j hj => by
    have hrr := H1.out.row
    obtain ⟨_, _, en, _⟩ := ownsForm hrr
    injection en with _ en _
    rw [en] at hrr
    exact World.ownsRow.cellAt hrr j hj
  obtain ⟨A, hA, hsrc⟩ : ∃ A : Addr, (if c = i + 1 then (some ⟨g, 0, none⟩ : Option Addr) else some ⟨g, (i + 1) * 4, none⟩) = some A ∧ Hid (∀ w2, Below w1.heap.size w1 w2 → ∀ t u, ((vcells vs).drop ((i + 1) * 4))[t]? = some u → w2.cell? (A.add t) = some u) := by
    by_cases h' : c = i + 1
    · refine ⟨⟨g, 0, none⟩, by simp [h'], Lib.hid fun w2 hb t u hu => ?_⟩
      have h0 : ((vcells vs).drop ((i + 1) * 4)).length = 0 := by rw [List.length_drop, vcells_length]; omega
      rw [List.length_eq_zero_iff.1 h0] at hu
      simp at hu
    · refine ⟨⟨g, (i + 1) * 4, none⟩, by simp [h'], Lib.hid fun w2 hb t u hu => ?_⟩
      have ht : t < (vs.length - (i + 1)) * 4 := by
        have := (List.getElem?_eq_some_iff.1 hu).1
        rw [List.length_drop, vcells_length] at this
        omega
      rw [Addr.add_lit, hb.cell (p := ⟨g, (i + 1) * 4 + t, none⟩) hgl, hrowc _ (by omega), ← hu, List.getElem?_drop]
  have hfirst := Lib.hid (show ∀ t u, ((vcells vs).take (i * 4))[t]? = some u → w1.cell? ((⟨g, 0, none⟩ : Addr).add t) = some u from fun t u hu => by
    have ht : t < i * 4 := by
      have := (List.getElem?_eq_some_iff.1 hu).1
      rw [List.length_take] at this
      omega
    rw [Addr.add_lit, Nat.zero_add, hrowc _ (by omega), ← hu, List.getElem?_take, if_pos ht])
  have hl1 := Lib.hid (show ((vcells vs).take (i * 4)).length = i * 4 by rw [List.length_take, vcells_length]; omega)
  have hl2 := Lib.hid (show ((vcells vs).drop ((i + 1) * 4)).length = (n - (i + 1)) * 4 by rw [List.length_drop, vcells_length]; omega)
  have hone := Lib.hid H1.out.oneCell
  have hic : i ≤ c := by omega
  have hjc : i + 1 ≤ c := by omega
  have hjl : (i : Int) + 1 ≤ (n : Int) := by omega
  have hnm : maxLen = 9223372036854775807 := rfl
  clear hrowc
  unfold Tk.cells at hw1 ⊢
  go_enter Try.func29, Try.ntmps29
  go_upto_region 1 with fail
  rw [← hw1]
  clear hw1
  go_wp2_with fail
  refine HF.out.mono ?_
  rintro e w2 ⟨rfl, rfl⟩
  clear HF c5
  go_upto_region 18 with (at_builtin; refine wpList_append_own w1 rfl (.tmp 90) (.tmp 96) 54 rfl w1.heap.size 69 i0 _ 4 48 Try.underlying54 HI.out HZ0.out HZ1.out HZ2.out rfl (by decide) (.slice none 0 0) 0 [] rfl (World.ownsRow_nil _ _ _ _) ⟨g, 0, none⟩ i c ((vcells vs).take (i * 4)) rfl hl1.out hfirst.out (fun u hu => hone.out u (List.mem_of_mem_take hu)) (by omega) (by omega) (Nat.le_refl _) ?_; intro v1 w3 hown1 hgrow1 _; rw [Nat.zero_add, List.nil_append] at hown1; obtain ⟨a1, c1, rfl, _⟩ := ownsForm hown1)
  have HB3 := Lib.hid (show Below w1.heap.size w1 w3 from (Below.refl _ _).grown hgrow1 (Nat.le_refl _) (fun k hk => by simp [Value.ownBlock] at hk))
  have x1 : w3.cell? ⟨r, 0, none⟩ = some (.slice (some ⟨g, 0, none⟩) n c) := (HB3.out.cell (p := ⟨r, 0, none⟩) (block_lt x0)).trans x0
  have hs1 := HB3.out.size
  have HO1 := Lib.hid hown1
  clear hown1 hgrow1 x0
  go_upto_region 19 with (at_builtin; refine wpList_append_own w3 rfl (.tmp 98) (.tmp 105) 54 rfl w1.heap.size 69 i0 _ 4 48 Try.underlying54 HI.out HZ0.out HZ1.out HZ2.out rfl (by decide) (.slice a1 i c1) i ((vcells vs).take (i * 4)) rfl HO1.out A (n - (i + 1)) (c - (i + 1)) ((vcells vs).drop ((i + 1) * 4)) rfl hl2.out (hsrc.out w3 HB3.out) (fun u hu => hone.out u (List.mem_of_mem_drop hu)) (by omega) (by omega) hs1 ?_; intro v2 w4 hown2 hgrow2 _; obtain ⟨a2, c2, rfl, _⟩ := ownsForm hown2)
  have HB4 := Lib.hid (show Below w1.heap.size w1 w4 from HB3.out.grown hgrow2 hs1 (fun k hk => (World.ownsRow.lt HO1.out k hk).1))
  have x2 : w4.cell? ⟨r, 0, none⟩ = some (.slice (some ⟨g, 0, none⟩) n c) := (Below.cell HB4.out (p := ⟨r, 0, none⟩) (H1.out.lt r H1.out.inR)).trans (by have := H1.out.head.cell 0; simpa using this)
  have f2 := CellsAt.free (H1.out.below HB4.out).head 0
  have hlen : (vs.eraseIdx i).length = i + (n - (i + 1)) := by rw [List.length_eraseIdx, if_pos (by omega)]; omega
  rw [← vcells_eraseIdx vs i (by omega), ← hlen] at hown2
  have hR := H.out.rerow (S' := { S with vols := S.vols.eraseIdx i }) (HB1.out.trans (HB4.out.mono hz1)) (World.ownsRow.mono hown2 hz1) (fun p hp => List.mem_of_mem_eraseIdx hp) rfl (by simp only; rw [H.out.vols, rmap_erase])
  rw [hlen] at hR
  have HR := Lib.hid hR; clear hR hown2 hgrow2 HO1 x1 hone hsrc hfirst hl1 hl2 hlen
  have HK := Lib.hid (show Keeps (fun y => y = r ∨ (Value.slice (some ⟨g, 0, none⟩) n c).ownBlock = some y) w (w4.setCell ⟨r, 0, none⟩ (.slice a2 (i + (n - (i + 1))) c2)) from (Keeps.of_below (HB1.out.trans (HB4.out.mono hz1))).setCell (p := ⟨r, 0, none⟩) (fun _ => .inl rfl) _)
  go_wp2
  go_ret
  exact ⟨_, _, _, since W w.heap.size w4.heap.size, rfl, by rw [HCS.out]; exact Owns.nil _ _, by rw [HCS.out]; exact HR.out, HK.out, fun y hy => hy.imp id (fun hy => hy.1)⟩
end Go.Proofs.Ytmanldcohbegkaa
