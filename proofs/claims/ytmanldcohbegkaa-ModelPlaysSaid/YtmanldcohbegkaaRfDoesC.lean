/-
  The document's model: does: snapshot. (Written by gen_rfdoes.py.)
-/
import Derived.Test.YtmanldcohbegkaaRfDoesB
import Derived.RegionTactic
import Derived.ChangeAlike
namespace Go.Proofs.Ytmanldcohbegkaa
open Go.RowKit

theorem ops_at24 {x0 x1 x2 x3 x4 x5 x6 x7 x8 x9 x10 x11 x12 x13 x14 x15 x16 x17 x18 x19 x20 x21 x22 x23 x24 : Oper} {l : List Oper} : (x0 :: x1 :: x2 :: x3 :: x4 :: x5 :: x6 :: x7 :: x8 :: x9 :: x10 :: x11 :: x12 :: x13 :: x14 :: x15 :: x16 :: x17 :: x18 :: x19 :: x20 :: x21 :: x22 :: x23 :: x24 :: l).toArray[24]? = some x24 := rfl
theorem ops_at25 {x0 x1 x2 x3 x4 x5 x6 x7 x8 x9 x10 x11 x12 x13 x14 x15 x16 x17 x18 x19 x20 x21 x22 x23 x24 x25 : Oper} {l : List Oper} : (x0 :: x1 :: x2 :: x3 :: x4 :: x5 :: x6 :: x7 :: x8 :: x9 :: x10 :: x11 :: x12 :: x13 :: x14 :: x15 :: x16 :: x17 :: x18 :: x19 :: x20 :: x21 :: x22 :: x23 :: x24 :: x25 :: l).toArray[25]? = some x25 := rfl
theorem ops_at26 {x0 x1 x2 x3 x4 x5 x6 x7 x8 x9 x10 x11 x12 x13 x14 x15 x16 x17 x18 x19 x20 x21 x22 x23 x24 x25 x26 : Oper} {l : List Oper} : (x0 :: x1 :: x2 :: x3 :: x4 :: x5 :: x6 :: x7 :: x8 :: x9 :: x10 :: x11 :: x12 :: x13 :: x14 :: x15 :: x16 :: x17 :: x18 :: x19 :: x20 :: x21 :: x22 :: x23 :: x24 :: x25 :: x26 :: l).toArray[26]? = some x26 := rfl
theorem ops_at27 {x0 x1 x2 x3 x4 x5 x6 x7 x8 x9 x10 x11 x12 x13 x14 x15 x16 x17 x18 x19 x20 x21 x22 x23 x24 x25 x26 x27 : Oper} {l : List Oper} : (x0 :: x1 :: x2 :: x3 :: x4 :: x5 :: x6 :: x7 :: x8 :: x9 :: x10 :: x11 :: x12 :: x13 :: x14 :: x15 :: x16 :: x17 :: x18 :: x19 :: x20 :: x21 :: x22 :: x23 :: x24 :: x25 :: x26 :: x27 :: l).toArray[27]? = some x27 := rfl
theorem ops_at28 {x0 x1 x2 x3 x4 x5 x6 x7 x8 x9 x10 x11 x12 x13 x14 x15 x16 x17 x18 x19 x20 x21 x22 x23 x24 x25 x26 x27 x28 : Oper} {l : List Oper} : (x0 :: x1 :: x2 :: x3 :: x4 :: x5 :: x6 :: x7 :: x8 :: x9 :: x10 :: x11 :: x12 :: x13 :: x14 :: x15 :: x16 :: x17 :: x18 :: x19 :: x20 :: x21 :: x22 :: x23 :: x24 :: x25 :: x26 :: x27 :: x28 :: l).toArray[28]? = some x28 := rfl
theorem ops_at29 {x0 x1 x2 x3 x4 x5 x6 x7 x8 x9 x10 x11 x12 x13 x14 x15 x16 x17 x18 x19 x20 x21 x22 x23 x24 x25 x26 x27 x28 x29 : Oper} {l : List Oper} : (x0 :: x1 :: x2 :: x3 :: x4 :: x5 :: x6 :: x7 :: x8 :: x9 :: x10 :: x11 :: x12 :: x13 :: x14 :: x15 :: x16 :: x17 :: x18 :: x19 :: x20 :: x21 :: x22 :: x23 :: x24 :: x25 :: x26 :: x27 :: x28 :: x29 :: l).toArray[29]? = some x29 := rfl
theorem ops_at30 {x0 x1 x2 x3 x4 x5 x6 x7 x8 x9 x10 x11 x12 x13 x14 x15 x16 x17 x18 x19 x20 x21 x22 x23 x24 x25 x26 x27 x28 x29 x30 : Oper} {l : List Oper} : (x0 :: x1 :: x2 :: x3 :: x4 :: x5 :: x6 :: x7 :: x8 :: x9 :: x10 :: x11 :: x12 :: x13 :: x14 :: x15 :: x16 :: x17 :: x18 :: x19 :: x20 :: x21 :: x22 :: x23 :: x24 :: x25 :: x26 :: x27 :: x28 :: x29 :: x30 :: l).toArray[30]? = some x30 := rfl
structure SnAt (r g n c i nx : Nat) (v : Vo) (bv : Value) (V : World) : Prop where
  x0 : V.cell? ⟨r, 0, none⟩ = some (.slice (some ⟨g, 0, none⟩) n c)
  x1 : V.cell? ⟨r, 1, none⟩ = some (.int .i64 (nx : Int))
  y1 : V.cell? ⟨g, i * 4 + 1, none⟩ = some (.int .i64 v.size)
  y2 : V.cell? ⟨g, i * 4 + 2, none⟩ = some (.int .i64 v.quota)
  y3 : V.cell? ⟨g, i * 4 + 3, none⟩ = some bv
theorem SnAt.keeps {F : Nat → Prop} {r g n c i nx : Nat} {v : Vo} {bv : Value} {V V' : World} (h : SnAt r g n c i nx v bv V) (k : Keeps F V V') (hr : ¬ F r) (hg : ¬ F g) : SnAt r g n c i nx v bv V' :=
  ⟨(k.cell (p := ⟨r, 0, none⟩) (block_lt h.x0) hr).trans h.x0, (k.cell (p := ⟨r, 1, none⟩) (block_lt h.x1) hr).trans h.x1, (k.cell (p := ⟨g, i * 4 + 1, none⟩) (block_lt h.y1) hg).trans h.y1, (k.cell (p := ⟨g, i * 4 + 2, none⟩) (block_lt h.y2) hg).trans h.y2, (k.cell (p := ⟨g, i * 4 + 3, none⟩) (block_lt h.y3) hg).trans h.y3⟩
set_option maxRecDepth 100000 in
set_option maxHeartbeats 6400000 in
theorem rdoes_snap (r : Nat) (lv : Value) (vs : List (Vo × Value)) (S : Mo) (W : Nat → Prop) (t : Tk) (dv : Value) (w : World) (h : RefIs w r lv vs S W) (hg : Good S) (hdv : ∃ a n c, dv = .slice a n c) (hop : t.op = 7) (lost : Bool) (hr : refuseS S t lost = 0) :
    Calls Try.prog 29 #[.pointer (some ⟨r, 0, none⟩), .agg (t.cells dv)] w (DoesPost w r lv S W t) := by
  obtain ⟨hl7, hnext⟩ := refuse_fresh hr (.inr hop)
  have hn0 := hg.next0
  obtain ⟨i, v, hat⟩ := refuse_at hr (.inr (.inr (.inl hop)))
  have hvm := List.mem_of_getElem? (Mo.at_some hat).2
  have hbl8 : v.bl.length ≤ 1048576 := by have := hg.room v hvm; have := hg.quota v hvm; omega
  obtain ⟨nx, hnx⟩ : ∃ nx : Nat, S.next = (nx : Int) := ⟨S.next.toNat, by omega⟩
  have hc : changeS S t = (fourB nx, S.add ⟨(nx : Int), v.size, v.quota, v.bl⟩) := by unfold changeS; rw [if_neg (by omega), if_neg (by omega), if_pos hop, hat, hnx]; rfl
  obtain ⟨da, dn, dc, rfl⟩ := hdv
  have hlen8 : vs.length ≤ 8 := by rw [h.len]; exact hg.len
  obtain ⟨w1, hw1⟩ : ∃ w1, w1 = w.alloc (.cells (t.cells (.slice da dn dc)) 30) := ⟨_, rfl⟩
  have hb1 : Below w.heap.size w w1 := by rw [hw1]; exact allocBelow w _
  have hc1 : CellsAt w1 w.heap.size (t.cells (.slice da dn dc)) 30 := by rw [hw1]; exact heap_at rfl
  have h1 := h.below hb1
  have hz1 : w.heap.size ≤ w1.heap.size := hb1.size
  have htl : w.heap.size < w1.heap.size := hc1.lt
  have HF := Lib.hid (rfind_any r lv vs S W t.vol w1 h1 hlen8)
  obtain ⟨fi, hfi⟩ : ∃ fi, fi = firstAt (fun v : Vo => v.id == t.vol) S.vols := ⟨_, rfl⟩
  rw [← hfi] at HF
  have HFI := Lib.hid hfi; clear hfi
  have HB1 := Lib.hid hb1; clear hb1
  have HC1 := Lib.hid hc1; clear hc1
  have H := Lib.hid h; clear h
  have H1 := Lib.hid h1; clear h1
  have c5 := HC1.out.cell 5
  have c2 := HC1.out.cell 2
  simp only [Tk.cells, List.getElem?_toArray, List.getElem?_cons_zero, List.getElem?_cons_succ] at c5 c2
  obtain ⟨bv, hp, _⟩ := H1.out.atRow (Mo.at_some hat).2
  have hfm : fi = (i : Int) := by rw [HFI.out, find_first, (Mo.at_some hat).1]
  subst hfm
  have hil : i < vs.length := (List.getElem?_eq_some_iff.1 hp).1
  obtain ⟨a, c, rfl, hform⟩ := ownsForm H1.out.row
  obtain ⟨g, rfl, hgl⟩ : ∃ g, a = some ⟨g, 0, none⟩ ∧ g < w1.heap.size := by
    rcases hform with ⟨_, h0, _⟩ | ⟨g, e, hl⟩
    · omega
    · exact ⟨g, e, hl⟩
  obtain ⟨n, hn⟩ : ∃ n, n = vs.length := ⟨_, rfl⟩
  have hn1 : n ≤ vs.length := by omega
  have hn2 : vs.length ≤ n := by omega
  rw [← hn] at H H1 hil hlen8 ⊢
  clear hform
  have hin : (i : Int) < (n : Int) := by omega
  have hi0 : (0 : Int) ≤ (i : Int) := by omega
  have hiz : ((i : Int)).toNat = i := by omega
  have hn7 : n ≤ 7 := by have := H.out.len; omega
  have x0 := H1.out.head.cell 0
  simp only [List.getElem?_toArray, List.getElem?_cons_zero] at x0
  have HN := Lib.hid hn; clear hn
  have b2 : (t.op == 2) = false := by simp [hop]
  have b10 : (t.op == 10) = false := by simp [hop]
  have b6 : (t.op == 6) = false := by simp [hop]
  have b7 : (t.op == 7) = true := by simp [hop]
  have b8 : (t.op == 8) = false := by simp [hop]
  have b9 : (t.op == 9) = false := by simp [hop]
  obtain ⟨es, hrr, hsb⟩ := H1.out.bl _ (List.mem_of_getElem? hp)
  obtain ⟨ba, bc, hbf, _⟩ := ownsForm hrr.row
  dsimp only at hbf hrr hsb
  subst hbf
  have hel : es.length ≤ 1048576 := by have := hsb.len; simp only [REs.data, List.length_map] at this; omega
  obtain ⟨m, hm⟩ : ∃ m, m = es.length := ⟨_, rfl⟩
  have hp' : vs[i]? = some (v, .slice ba m bc) := by rw [hm]; exact hp
  rw [← hm] at hrr hel
  clear hp
  have HM := Lib.hid hm; clear hm
  have HRR := Lib.hid hrr; clear hrr
  have HSB := Lib.hid hsb; clear hsb
  have hnxl : nx < 1073741824 := by omega
  have n1 := H1.out.head.cell 1
  simp only [List.getElem?_toArray, List.getElem?_cons_zero, List.getElem?_cons_succ] at n1
  rw [hnx] at n1
  have y1 := H1.out.cell hp' 1 (by omega)
  have y2 := H1.out.cell hp' 2 (by omega)
  have y3 := H1.out.cell hp' 3 (by omega)
  simp only [vcell4, List.getElem?_cons_zero, List.getElem?_cons_succ] at y1 y2 y3
  have hSN1 : SnAt r g n c i nx v (.slice ba m bc) w1 := ⟨x0, n1, y1, y2, y3⟩
  have q8 := HC1.out.cell 8
  have q9 := HC1.out.cell 9
  simp only [Tk.cells, List.getElem?_toArray, List.getElem?_cons_zero, List.getElem?_cons_succ] at q8 q9
  have HNX := Lib.hid hnx
  clear hnx hop hr hl7 hnext hn0 hat hvm hp' y1 y2 y3 x0
  have HCS' := Lib.hid hc; clear hc
  unfold Tk.cells at hw1 ⊢
  go_enter Try.func29, Try.ntmps29
  go_upto_region 1 with fail
  rw [← hw1]
  clear hw1
  go_wp2_with fail
  refine HF.out.mono ?_
  rintro e w2 ⟨rfl, rfl⟩
  clear HF c5
  go_upto_region 9 with fail
  refine wp_region_held_drew (S := fun V => V.cell? ⟨r, 1, none⟩ = some (.int .i64 (nx : Int)) ∧ V.cell? ⟨w.heap.size, 8, none⟩ = some (.int .i64 t.siz) ∧ V.cell? ⟨w.heap.size, 9, none⟩ = some (.int .i64 t.quo)) (by kernel_rfl) ⟨n1, q8, q9⟩ (fun hHeld => ?_)
  refine wpAnyH_take (i := 0) (v := (.pointer (some ⟨r, 0, none⟩))) ops_at0 (by kernel_rfl) (by kernel_rfl) (by kernel_rfl) (fun _ _ _ h => h) (Or.inl ⟨by rfl, fun V hV => ?_⟩) hHeld ?_
  · go_simp
  simp only [Act.put, List.setIfInBounds_toArray, List.set_cons_zero, List.set_cons_succ]
  refine wpAnyH_take (i := 1) (v := (.pointer (some ⟨r, 0, none⟩))) ops_at1 (by kernel_rfl) (by kernel_rfl) (by kernel_rfl) (fun _ _ _ h => h) (Or.inl ⟨by rfl, fun V hV => ?_⟩) hHeld ?_
  · go_simp
  simp only [Act.put, List.setIfInBounds_toArray, List.set_cons_zero, List.set_cons_succ]
  refine wpAnyH_take (i := 2) (v := (.pointer (some ⟨r, 1, none⟩))) ops_at2 (by kernel_rfl) (by kernel_rfl) (by kernel_rfl) (fun _ _ _ h => h) (Or.inl ⟨by rfl, fun V hV => ?_⟩) hHeld ?_
  · go_simp
  simp only [Act.put, List.setIfInBounds_toArray, List.set_cons_zero, List.set_cons_succ]
  refine wpAnyH_take (i := 3) (v := .int .i64 (nx : Int)) ops_at3 (by kernel_rfl) (by kernel_rfl) (by kernel_rfl) (fun _ _ _ h => h) (Or.inl ⟨by rfl, fun V hV => ?_⟩) hHeld ?_
  · obtain ⟨n1, q8, q9⟩ := hV
    go_simp
  simp only [Act.put, List.setIfInBounds_toArray, List.set_cons_zero, List.set_cons_succ]
  refine wpAnyH_take (i := 4) (v := (.pointer (some ⟨w.heap.size, 8, none⟩))) ops_at4 (by kernel_rfl) (by kernel_rfl) (by kernel_rfl) (fun _ _ _ h => h) (Or.inl ⟨by rfl, fun V hV => ?_⟩) hHeld ?_
  · go_simp
  simp only [Act.put, List.setIfInBounds_toArray, List.set_cons_zero, List.set_cons_succ]
  refine wpAnyH_take (i := 5) (v := .int .i64 t.siz) ops_at5 (by kernel_rfl) (by kernel_rfl) (by kernel_rfl) (fun _ _ _ h => h) (Or.inl ⟨by rfl, fun V hV => ?_⟩) hHeld ?_
  · obtain ⟨n1, q8, q9⟩ := hV
    go_simp
  simp only [Act.put, List.setIfInBounds_toArray, List.set_cons_zero, List.set_cons_succ]
  refine wpAnyH_take (i := 6) (v := (.pointer (some ⟨w.heap.size, 9, none⟩))) ops_at6 (by kernel_rfl) (by kernel_rfl) (by kernel_rfl) (fun _ _ _ h => h) (Or.inl ⟨by rfl, fun V hV => ?_⟩) hHeld ?_
  · go_simp
  simp only [Act.put, List.setIfInBounds_toArray, List.set_cons_zero, List.set_cons_succ]
  refine wpAnyH_take (i := 7) (v := .int .i64 t.quo) ops_at7 (by kernel_rfl) (by kernel_rfl) (by kernel_rfl) (fun _ _ _ h => h) (Or.inl ⟨by rfl, fun V hV => ?_⟩) hHeld ?_
  · obtain ⟨n1, q8, q9⟩ := hV
    go_simp
  simp only [Act.put, List.setIfInBounds_toArray, List.set_cons_zero, List.set_cons_succ]
  refine wpAnyH_take (i := 8) (v := .agg #[.int .i64 (nx : Int), .int .i64 t.siz, .int .i64 t.quo, .slice none 0 0]) ops_at8 (by kernel_rfl) (by kernel_rfl) (by kernel_rfl) (fun _ _ _ h => h) (Or.inl ⟨by rfl, fun V hV => ?_⟩) hHeld ?_
  · go_simp
  simp only [Act.put, List.setIfInBounds_toArray, List.set_cons_zero, List.set_cons_succ]
  refine wpAnyH_ready (rs := [9]) (by kernel_rfl) (by simp) ?_
  refine AllReadyH.cons ops_at9 (fun K hK => ?_) AllReadyH.nil
  rw [if_pos (by rfl)]
  go_simp
  refine hK.out _ _ ⟨((allocBelow w1 (.cells #[.int .i64 0, .int .i64 0, .int .i64 0, .slice none 0 0] 69)).cell (p := ⟨r, 1, none⟩) (block_lt n1)).trans n1, ((allocBelow w1 (.cells #[.int .i64 0, .int .i64 0, .int .i64 0, .slice none 0 0] 69)).cell (p := ⟨w.heap.size, 8, none⟩) (block_lt q8)).trans q8, ((allocBelow w1 (.cells #[.int .i64 0, .int .i64 0, .int .i64 0, .slice none 0 0] 69)).cell (p := ⟨w.heap.size, 9, none⟩) (block_lt q9)).trans q9⟩ (fun hHeld => ?_)
  clear hK K
  refine wpAnyH_ready (rs := [10]) (by kernel_rfl) (by simp) ?_
  refine AllReadyH.cons ops_at10 (fun K hK => ?_) AllReadyH.nil
  rw [if_pos (by rfl)]
  go_simp
  refine hK.out _ _ ⟨((allocBelow w1 (.cells #[.int .i64 (nx : Int), .int .i64 t.siz, .int .i64 t.quo, .slice none 0 0] 69)).cell (p := ⟨r, 1, none⟩) (block_lt n1)).trans n1, ((allocBelow w1 (.cells #[.int .i64 (nx : Int), .int .i64 t.siz, .int .i64 t.quo, .slice none 0 0] 69)).cell (p := ⟨w.heap.size, 8, none⟩) (block_lt q8)).trans q8, ((allocBelow w1 (.cells #[.int .i64 (nx : Int), .int .i64 t.siz, .int .i64 t.quo, .slice none 0 0] 69)).cell (p := ⟨w.heap.size, 9, none⟩) (block_lt q9)).trans q9⟩ (fun hHeld => ?_)
  clear hK K
  refine wpAnyH_done (by kernel_rfl) ?_ _
  obtain ⟨vb, hvb⟩ : ∃ vb, vb = w1.heap.size := ⟨_, rfl⟩
  obtain ⟨w3, hw3⟩ : ∃ w3, w3 = (w1.alloc (.cells #[.int .i64 (nx : Int), .int .i64 t.siz, .int .i64 t.quo, .slice none 0 0] 69)).drew := ⟨_, rfl⟩
  have hb3 : Below w1.heap.size w1 w3 := by rw [hw3]; exact (allocBelow w1 _).drew
  have hv3 : CellsAt w3 vb #[.int .i64 (nx : Int), .int .i64 t.siz, .int .i64 t.quo, .slice none 0 0] 69 := by rw [hw3, hvb]; show CellsAt (w1.alloc _) _ _ _; exact heap_at rfl
  have hvbz : w1.heap.size ≤ vb := by omega
  have c2x := (HC1.out.below hb3 (by omega)).cell 2
  simp only [Tk.cells, List.getElem?_toArray, List.getElem?_cons_zero, List.getElem?_cons_succ] at c2x
  go_upto_region 10 with fail
  rw [← hw3, ← hvb]
  clear hw3 hvb q8 q9 n1 c2
  have hSN3 := hSN1.keeps (Keeps.of_below (F := fun _ => False) hb3) id id
  have hrw1 : r < w1.heap.size := H1.out.lt r H1.out.inR
  have hgW1 : g < w1.heap.size := hgl
  have HBL := Lib.hid (fun (V : World) (hV : Below w3.heap.size w3 V) => rblocks_any W (.slice ba m bc) es V ((HRR.out.keeps (Keeps.of_below (F := fun _ => False) hb3) (fun _ _ h => h)).keeps (Keeps.of_below (F := fun _ => False) hV) (fun _ _ h => h)) (by have := HM.out; omega))
  go_upto_region 11 with fail
  refine wp_region_held_drew (S := SnAt r g n c i nx v (.slice ba m bc)) (by kernel_rfl) ⟨hSN3.x0, hSN3.x1, hSN3.y1, hSN3.y2, hSN3.y3⟩ (fun hHeld => ?_)
  refine wpAnyH_take (i := 0) (v := (.pointer (some ⟨r, 0, none⟩))) ops_at0 (by kernel_rfl) (by kernel_rfl) (by kernel_rfl) (fun _ _ _ h => h) (Or.inl ⟨by rfl, fun V hV => ?_⟩) hHeld ?_
  · go_simp
  simp only [Act.put, List.setIfInBounds_toArray, List.set_cons_zero, List.set_cons_succ]
  refine wpAnyH_take (i := 1) (v := (.pointer (some ⟨r, 0, none⟩))) ops_at1 (by kernel_rfl) (by kernel_rfl) (by kernel_rfl) (fun _ _ _ h => h) (Or.inl ⟨by rfl, fun V hV => ?_⟩) hHeld ?_
  · go_simp
  simp only [Act.put, List.setIfInBounds_toArray, List.set_cons_zero, List.set_cons_succ]
  refine wpAnyH_take (i := 2) (v := (.pointer (some ⟨r, 1, none⟩))) ops_at2 (by kernel_rfl) (by kernel_rfl) (by kernel_rfl) (fun _ _ _ h => h) (Or.inl ⟨by rfl, fun V hV => ?_⟩) hHeld ?_
  · go_simp
  simp only [Act.put, List.setIfInBounds_toArray, List.set_cons_zero, List.set_cons_succ]
  refine wpAnyH_take (i := 3) (v := .int .i64 (nx : Int)) ops_at3 (by kernel_rfl) (by kernel_rfl) (by kernel_rfl) (fun _ _ _ h => h) (Or.inl ⟨by rfl, fun V hV => ?_⟩) hHeld ?_
  · obtain ⟨x0, x1, y1, y2, y3⟩ := hV
    go_simp
  simp only [Act.put, List.setIfInBounds_toArray, List.set_cons_zero, List.set_cons_succ]
  refine wpAnyH_take (i := 4) (v := (.pointer (some ⟨r, 0, none⟩))) ops_at4 (by kernel_rfl) (by kernel_rfl) (by kernel_rfl) (fun _ _ _ h => h) (Or.inl ⟨by rfl, fun V hV => ?_⟩) hHeld ?_
  · go_simp
  simp only [Act.put, List.setIfInBounds_toArray, List.set_cons_zero, List.set_cons_succ]
  refine wpAnyH_take (i := 5) (v := (.pointer (some ⟨r, 0, none⟩))) ops_at5 (by kernel_rfl) (by kernel_rfl) (by kernel_rfl) (fun _ _ _ h => h) (Or.inl ⟨by rfl, fun V hV => ?_⟩) hHeld ?_
  · go_simp
  simp only [Act.put, List.setIfInBounds_toArray, List.set_cons_zero, List.set_cons_succ]
  refine wpAnyH_take (i := 6) (v := (.pointer (some ⟨r, 0, none⟩))) ops_at6 (by kernel_rfl) (by kernel_rfl) (by kernel_rfl) (fun _ _ _ h => h) (Or.inl ⟨by rfl, fun V hV => ?_⟩) hHeld ?_
  · go_simp
  simp only [Act.put, List.setIfInBounds_toArray, List.set_cons_zero, List.set_cons_succ]
  refine wpAnyH_take (i := 7) (v := .slice (some ⟨g, 0, none⟩) n c) ops_at7 (by kernel_rfl) (by kernel_rfl) (by kernel_rfl) (fun _ _ _ h => h) (Or.inl ⟨by rfl, fun V hV => ?_⟩) hHeld ?_
  · obtain ⟨x0, x1, y1, y2, y3⟩ := hV
    go_simp
  simp only [Act.put, List.setIfInBounds_toArray, List.set_cons_zero, List.set_cons_succ]
  refine wpAnyH_take (i := 8) (v := .int .i64 (i : Int)) ops_at8 (by kernel_rfl) (by kernel_rfl) (by kernel_rfl) (fun _ _ _ h => h) (Or.inl ⟨by rfl, fun V hV => ?_⟩) hHeld ?_
  · go_simp
  simp only [Act.put, List.setIfInBounds_toArray, List.set_cons_zero, List.set_cons_succ]
  refine wpAnyH_take (i := 9) (v := (.pointer (some ⟨g, i * 4, none⟩))) ops_at9 (by kernel_rfl) (by kernel_rfl) (by kernel_rfl) (fun _ _ _ h => h) (Or.inl ⟨by rfl, fun V hV => ?_⟩) hHeld ?_
  · go_simp
  simp only [Act.put, List.setIfInBounds_toArray, List.set_cons_zero, List.set_cons_succ]
  refine wpAnyH_take (i := 10) (v := (.pointer (some ⟨g, i * 4 + 1, none⟩))) ops_at10 (by kernel_rfl) (by kernel_rfl) (by kernel_rfl) (fun _ _ _ h => h) (Or.inl ⟨by rfl, fun V hV => ?_⟩) hHeld ?_
  · go_simp
  simp only [Act.put, List.setIfInBounds_toArray, List.set_cons_zero, List.set_cons_succ]
  refine wpAnyH_take (i := 11) (v := .int .i64 v.size) ops_at11 (by kernel_rfl) (by kernel_rfl) (by kernel_rfl) (fun _ _ _ h => h) (Or.inl ⟨by rfl, fun V hV => ?_⟩) hHeld ?_
  · obtain ⟨x0, x1, y1, y2, y3⟩ := hV
    go_simp
  simp only [Act.put, List.setIfInBounds_toArray, List.set_cons_zero, List.set_cons_succ]
  refine wpAnyH_take (i := 12) (v := (.pointer (some ⟨r, 0, none⟩))) ops_at12 (by kernel_rfl) (by kernel_rfl) (by kernel_rfl) (fun _ _ _ h => h) (Or.inl ⟨by rfl, fun V hV => ?_⟩) hHeld ?_
  · go_simp
  simp only [Act.put, List.setIfInBounds_toArray, List.set_cons_zero, List.set_cons_succ]
  refine wpAnyH_take (i := 13) (v := (.pointer (some ⟨r, 0, none⟩))) ops_at13 (by kernel_rfl) (by kernel_rfl) (by kernel_rfl) (fun _ _ _ h => h) (Or.inl ⟨by rfl, fun V hV => ?_⟩) hHeld ?_
  · go_simp
  simp only [Act.put, List.setIfInBounds_toArray, List.set_cons_zero, List.set_cons_succ]
  refine wpAnyH_take (i := 14) (v := (.pointer (some ⟨r, 0, none⟩))) ops_at14 (by kernel_rfl) (by kernel_rfl) (by kernel_rfl) (fun _ _ _ h => h) (Or.inl ⟨by rfl, fun V hV => ?_⟩) hHeld ?_
  · go_simp
  simp only [Act.put, List.setIfInBounds_toArray, List.set_cons_zero, List.set_cons_succ]
  refine wpAnyH_take (i := 15) (v := .slice (some ⟨g, 0, none⟩) n c) ops_at15 (by kernel_rfl) (by kernel_rfl) (by kernel_rfl) (fun _ _ _ h => h) (Or.inl ⟨by rfl, fun V hV => ?_⟩) hHeld ?_
  · obtain ⟨x0, x1, y1, y2, y3⟩ := hV
    go_simp
  simp only [Act.put, List.setIfInBounds_toArray, List.set_cons_zero, List.set_cons_succ]
  refine wpAnyH_take (i := 16) (v := .int .i64 (i : Int)) ops_at16 (by kernel_rfl) (by kernel_rfl) (by kernel_rfl) (fun _ _ _ h => h) (Or.inl ⟨by rfl, fun V hV => ?_⟩) hHeld ?_
  · go_simp
  simp only [Act.put, List.setIfInBounds_toArray, List.set_cons_zero, List.set_cons_succ]
  refine wpAnyH_take (i := 17) (v := (.pointer (some ⟨g, i * 4, none⟩))) ops_at17 (by kernel_rfl) (by kernel_rfl) (by kernel_rfl) (fun _ _ _ h => h) (Or.inl ⟨by rfl, fun V hV => ?_⟩) hHeld ?_
  · go_simp
  simp only [Act.put, List.setIfInBounds_toArray, List.set_cons_zero, List.set_cons_succ]
  refine wpAnyH_take (i := 18) (v := (.pointer (some ⟨g, i * 4 + 2, none⟩))) ops_at18 (by kernel_rfl) (by kernel_rfl) (by kernel_rfl) (fun _ _ _ h => h) (Or.inl ⟨by rfl, fun V hV => ?_⟩) hHeld ?_
  · go_simp
  simp only [Act.put, List.setIfInBounds_toArray, List.set_cons_zero, List.set_cons_succ]
  refine wpAnyH_take (i := 19) (v := .int .i64 v.quota) ops_at19 (by kernel_rfl) (by kernel_rfl) (by kernel_rfl) (fun _ _ _ h => h) (Or.inl ⟨by rfl, fun V hV => ?_⟩) hHeld ?_
  · obtain ⟨x0, x1, y1, y2, y3⟩ := hV
    go_simp
  simp only [Act.put, List.setIfInBounds_toArray, List.set_cons_zero, List.set_cons_succ]
  refine wpAnyH_take (i := 20) (v := (.pointer (some ⟨r, 0, none⟩))) ops_at20 (by kernel_rfl) (by kernel_rfl) (by kernel_rfl) (fun _ _ _ h => h) (Or.inl ⟨by rfl, fun V hV => ?_⟩) hHeld ?_
  · go_simp
  simp only [Act.put, List.setIfInBounds_toArray, List.set_cons_zero, List.set_cons_succ]
  refine wpAnyH_take (i := 21) (v := (.pointer (some ⟨r, 0, none⟩))) ops_at21 (by kernel_rfl) (by kernel_rfl) (by kernel_rfl) (fun _ _ _ h => h) (Or.inl ⟨by rfl, fun V hV => ?_⟩) hHeld ?_
  · go_simp
  simp only [Act.put, List.setIfInBounds_toArray, List.set_cons_zero, List.set_cons_succ]
  refine wpAnyH_take (i := 22) (v := (.pointer (some ⟨r, 0, none⟩))) ops_at22 (by kernel_rfl) (by kernel_rfl) (by kernel_rfl) (fun _ _ _ h => h) (Or.inl ⟨by rfl, fun V hV => ?_⟩) hHeld ?_
  · go_simp
  simp only [Act.put, List.setIfInBounds_toArray, List.set_cons_zero, List.set_cons_succ]
  refine wpAnyH_take (i := 23) (v := .slice (some ⟨g, 0, none⟩) n c) ops_at23 (by kernel_rfl) (by kernel_rfl) (by kernel_rfl) (fun _ _ _ h => h) (Or.inl ⟨by rfl, fun V hV => ?_⟩) hHeld ?_
  · obtain ⟨x0, x1, y1, y2, y3⟩ := hV
    go_simp
  simp only [Act.put, List.setIfInBounds_toArray, List.set_cons_zero, List.set_cons_succ]
  refine wpAnyH_take (i := 24) (v := .int .i64 (i : Int)) ops_at24 (by kernel_rfl) (by kernel_rfl) (by kernel_rfl) (fun _ _ _ h => h) (Or.inl ⟨by rfl, fun V hV => ?_⟩) hHeld ?_
  · go_simp
  simp only [Act.put, List.setIfInBounds_toArray, List.set_cons_zero, List.set_cons_succ]
  refine wpAnyH_take (i := 25) (v := (.pointer (some ⟨g, i * 4, none⟩))) ops_at25 (by kernel_rfl) (by kernel_rfl) (by kernel_rfl) (fun _ _ _ h => h) (Or.inl ⟨by rfl, fun V hV => ?_⟩) hHeld ?_
  · go_simp
  simp only [Act.put, List.setIfInBounds_toArray, List.set_cons_zero, List.set_cons_succ]
  refine wpAnyH_take (i := 26) (v := (.pointer (some ⟨g, i * 4 + 3, none⟩))) ops_at26 (by kernel_rfl) (by kernel_rfl) (by kernel_rfl) (fun _ _ _ h => h) (Or.inl ⟨by rfl, fun V hV => ?_⟩) hHeld ?_
  · go_simp
  simp only [Act.put, List.setIfInBounds_toArray, List.set_cons_zero, List.set_cons_succ]
  refine wpAnyH_take (i := 27) (v := .slice ba m bc) ops_at27 (by kernel_rfl) (by kernel_rfl) (by kernel_rfl) (fun _ _ _ h => h) (Or.inl ⟨by rfl, fun V hV => ?_⟩) hHeld ?_
  · obtain ⟨x0, x1, y1, y2, y3⟩ := hV
    go_simp
  simp only [Act.put, List.setIfInBounds_toArray, List.set_cons_zero, List.set_cons_succ]
  refine wpAnyH_ready (rs := [28]) (by kernel_rfl) (by simp) ?_
  refine AllReadyH.cons ops_at28 (fun K hK => ?_) AllReadyH.nil
  rw [if_pos (by rfl)]
  go_simp
  refine (HBL.out w3.drew (Below.refl _ w3).drew).mono ?_
  rintro e V1 ⟨sa, cb, rfl, hrow4, hb4⟩
  rw [← HM.out] at hrow4 ⊢
  have hb4' : Below w3.heap.size w3 V1 := (Below.refl _ w3).drew.trans hb4
  have hSN4 := hSN3.keeps (Keeps.of_below (F := fun _ => False) hb4') id id
  have hv4 := hv3.below hb4' hv3.lt
  go_wp2_with fail
  refine hK.out _ _ hSN4 (fun hHeld => ?_)
  clear hK K
  refine wpAnyH_take (i := 29) (v := .agg #[.int .i64 (nx : Int), .int .i64 v.size, .int .i64 v.quota, .slice sa m cb]) ops_at29 (by kernel_rfl) (by kernel_rfl) (by kernel_rfl) (fun _ _ _ h => h) (Or.inl ⟨by rfl, fun V hV => ?_⟩) hHeld ?_
  · go_simp
  simp only [Act.put, List.setIfInBounds_toArray, List.set_cons_zero, List.set_cons_succ]
  refine wpAnyH_ready (rs := [30]) (by kernel_rfl) (by simp) ?_
  refine AllReadyH.cons ops_at30 (fun K hK => ?_) AllReadyH.nil
  rw [if_pos (by rfl)]
  have f0 := hv4.free 0
  have f1 := hv4.free 1
  have f2 := hv4.free 2
  have f3 := hv4.free 3
  have e0 := hv4.cell 0
  have e1 := hv4.cell 1
  have e2 := hv4.cell 2
  have e3 := hv4.cell 3
  simp only [List.getElem?_toArray, List.getElem?_cons_zero, List.getElem?_cons_succ] at e0 e1 e2 e3
  go_simp
  obtain ⟨wx, hwx⟩ : ∃ wx, wx = (((V1.setCell ⟨vb, 0, none⟩ (.int .i64 (nx : Int))).setCell ⟨vb, 1, none⟩ (.int .i64 v.size)).setCell ⟨vb, 2, none⟩ (.int .i64 v.quota)).setCell ⟨vb, 3, none⟩ (.slice sa m cb) := ⟨_, rfl⟩
  rw [← hwx]
  have hvx : CellsAt wx vb #[.int .i64 (nx : Int), .int .i64 v.size, .int .i64 v.quota, .slice sa m cb] 69 := by rw [hwx]; exact box4_set hv4 _ _ _ _
  have hkx : Keeps (fun x => x = vb) V1 wx := by rw [hwx]; exact ((((Keeps.refl (fun x => x = vb) V1).setCell (p := ⟨vb, 0, none⟩) (fun _ => rfl) _).setCell (p := ⟨vb, 1, none⟩) (fun _ => rfl) _).setCell (p := ⟨vb, 2, none⟩) (fun _ => rfl) _).setCell (p := ⟨vb, 3, none⟩) (fun _ => rfl) _
  clear hwx f0 f1 f2 f3 e0 e1 e2 e3
  have hz13 : w1.heap.size ≤ w3.heap.size := hb3.size
  have hbx : Below w1.heap.size w1 wx := (hb3.trans (hb4'.mono hz13)).trans (hkx.below (Nat.le_trans hz13 hb4'.size) (fun x hx h => by omega))
  have hrow5 : wx.ownsRow w3.heap.size 87 2 (.slice sa m cb) m (bcells es.vals) := hkx.owns hrow4 (fun x hx e => by
    obtain ⟨c1, h1⟩ := rowBlockT hrow4 hx
    have h2 := hv4
    unfold CellsAt at h2
    rw [e, h2] at h1
    simp at h1)
  have HES := Lib.hid (show RRow (since W w.heap.size wx.heap.size) wx (.slice sa m cb) es from ⟨by rw [← HM.out]; exact World.ownsRow.mono hrow5 (Nat.zero_le _), fun e he => ((HRR.out.dat e he).keeps (Keeps.of_below (F := fun _ => False) hbx) (fun _ _ h => h)).more (fun _ hx => .inl hx), fun x hx => .inr ⟨by have := (hrow5.lt x hx).1; omega, (hrow5.lt x hx).2⟩⟩)
  have hSNx := hSN4.keeps hkx (by intro e; omega) (by intro e; omega)
  have HRX := Lib.hid (H1.out.below hbx)
  have HBX := Lib.hid hbx
  have HBX1 := Lib.hid (HB1.out.trans (hbx.mono hz1))
  have HV := Lib.hid hvx
  clear hrow4 hrow5 hb4 hb4' hv4 hkx hbx hvx hb3 hv3 hSN1 hSN3 hSN4 HBL
  have HCS := Lib.hid (show changeS S t = (fourB nx, S.add ⟨(nx : Int), v.size, v.quota, v.bl⟩) from HCS'.out)
  refine hK.out _ _ hSNx (fun hHeld => ?_)
  clear hK K hSNx
  refine wpAnyH_done (by kernel_rfl) ?_ _
  obtain ⟨u, hu⟩ : ∃ u : Vo, u = ⟨(nx : Int), v.size, v.quota, v.bl⟩ := ⟨_, rfl⟩
  have HUE := Lib.hid hu; clear hu
  have hrw := HRX.out.row
  have hhd := HRX.out.head
  rw [HNX.out] at hhd
  have hrw : wx.ownsRow 0 69 4 (.slice (some ⟨g, 0, none⟩) n c) n (vcells vs) := by have := hrw; rw [← HN.out] at this; exact this
  have HRW := Lib.hid hrw; clear hrw
  have HHD := Lib.hid hhd; clear hhd
  have hrb : r ≠ vb := by intro e; have h1 := HHD.out; have h2 := HV.out; unfold CellsAt at h1 h2; rw [e, h2] at h1; simp at h1
  have hlr : ¬ (Value.slice (some ⟨g, 0, none⟩) n c).ownBlock = some r := HRX.out.rowNe
  have hlvb : ¬ (Value.slice (some ⟨g, 0, none⟩) n c).ownBlock = some vb := fun e => by have := HRX.out.lt vb (HRX.out.inL vb e); have h2 := H.out.lt vb (H.out.inL vb e); omega
  have x0 := HHD.out.cell 0
  simp only [List.getElem?_toArray, List.getElem?_cons_zero] at x0
  go_upto_region 12 with fail
  go_cut [6] (fun b V => b = .pointer (some ⟨vb, 0, none⟩) ∧ ∃ w4 g4 c4, AddAt w r vb n (.slice (some ⟨g, 0, none⟩) n c) vs nx u (.slice sa m cb) wx w4 g4 c4 V)
  case first =>
    as_aux_lemma =>
      obtain ⟨i0, hi0', hz0', hz1', hz2'⟩ := info_parts Try.info_rvol
      have HI := Lib.hid hi0'; clear hi0'
      have HZ0 := Lib.hid hz0'; clear hz0'
      have HZ1 := Lib.hid hz1'; clear hz1'
      have HZ2 := Lib.hid hz2'; clear hz2'
      refine wp_region_held_drew (S := BxAt vb (nx : Int) v.size v.quota (.slice sa m cb)) (by kernel_rfl) ⟨HV.out⟩ (fun hHeld => ?_)
      refine wpAnyH_take (i := 0) (v := (.pointer (some ⟨r, 0, none⟩))) ops_at0 (by kernel_rfl) (by kernel_rfl) (by kernel_rfl) (fun _ _ _ h => h) (Or.inl ⟨by rfl, fun V hV => ?_⟩) hHeld ?_
      · go_simp
      simp only [Act.put, List.setIfInBounds_toArray, List.set_cons_zero, List.set_cons_succ]
      refine wpAnyH_take (i := 1) (v := (.pointer (some ⟨r, 0, none⟩))) ops_at1 (by kernel_rfl) (by kernel_rfl) (by kernel_rfl) (fun _ _ _ h => h) (Or.inl ⟨by rfl, fun V hV => ?_⟩) hHeld ?_
      · go_simp
      simp only [Act.put, List.setIfInBounds_toArray, List.set_cons_zero, List.set_cons_succ]
      refine wpAnyH_take (i := 2) (v := (.pointer (some ⟨r, 0, none⟩))) ops_at2 (by kernel_rfl) (by kernel_rfl) (by kernel_rfl) (fun _ _ _ h => h) (Or.inl ⟨by rfl, fun V hV => ?_⟩) hHeld ?_
      · go_simp
      simp only [Act.put, List.setIfInBounds_toArray, List.set_cons_zero, List.set_cons_succ]
      refine wpAnyH_take (i := 3) (v := (.pointer (some ⟨r, 0, none⟩))) ops_at3 (by kernel_rfl) (by kernel_rfl) (by kernel_rfl) (fun _ _ _ h => h) (Or.inl ⟨by rfl, fun V hV => ?_⟩) hHeld ?_
      · go_simp
      simp only [Act.put, List.setIfInBounds_toArray, List.set_cons_zero, List.set_cons_succ]
      refine wpAnyH_take (i := 5) (v := .agg #[.int .i64 (nx : Int), .int .i64 v.size, .int .i64 v.quota, .slice sa m cb]) ops_at5 (by kernel_rfl) (by kernel_rfl) (by kernel_rfl) (fun _ _ _ h => h) (Or.inl ⟨by rfl, fun V hV => ?_⟩) hHeld ?_
      · have hz := fun j => CellsAt.cell hV.z j
        go_simp
      simp only [Act.put, List.setIfInBounds_toArray, List.set_cons_zero, List.set_cons_succ]
      refine wpAnyH_ready (rs := [4, 6]) (by kernel_rfl) (by simp) ?_
      refine AllReadyH.cons ops_at4 (fun K hK => ?_) (AllReadyH.cons ops_at6 (fun K hK => ?_) AllReadyH.nil)
      · rw [if_pos (by rfl)]
        go_simp
        refine hK.out _ _ ⟨HV.out⟩ (fun hHeld => ?_)
        clear hK K
        refine wpAnyH_ready (rs := [6]) (by kernel_rfl) (by simp) ?_
        refine AllReadyH.cons ops_at6 (fun K hK => ?_) AllReadyH.nil
        rw [if_pos (by rfl)]
        go_simp
        obtain ⟨ab, hab⟩ : ∃ ab, ab = wx.heap.size := ⟨_, rfl⟩
        obtain ⟨wa, hwa⟩ : ∃ wa, wa = (wx.alloc (.cells #[.int .i64 (nx : Int), .int .i64 v.size, .int .i64 v.quota, .slice sa m cb] 69)).drew := ⟨_, rfl⟩
        rw [← hwa, ← hab]
        have hka : Keeps (fun _ => False) wx wa := by rw [hwa]; exact ((Keeps.refl _ wx).alloc _).drew
        have hca : CellsAt wa ab #[.int .i64 (nx : Int), .int .i64 v.size, .int .i64 v.quota, .slice sa m cb] 69 := by rw [hwa, hab]; show CellsAt (wx.alloc _) _ _ _; exact heap_at rfl
        clear hwa hab
        refine hK.out _ _ ⟨HV.out.keeps hka id⟩ (fun hHeld => ?_)
        clear hK K
        refine wpAnyH_ready (rs := [7]) (by kernel_rfl) (by simp) ?_
        refine AllReadyH.cons ops_at7 (fun K hK => ?_) AllReadyH.nil
        rw [if_pos (by rfl)]
        refine wp_append_lies wa (.tmp 72) (.tmp 74) 54 rfl 0 69 i0 _ 4 48 Try.underlying54 HI.out HZ0.out HZ1.out HZ2.out rfl (by decide) (.slice (some ⟨g, 0, none⟩) n c) n (vcells vs) rfl (hka.owns HRW.out (fun _ _ h => h)) ⟨ab, 0, none⟩ 1 1 (#[.int .i64 (nx : Int), .int .i64 v.size, .int .i64 v.quota, .slice sa m cb] : Array Value).toList rfl rfl (World.news_of_block (cs := #[.int .i64 (nx : Int), .int .i64 v.size, .int .i64 v.quota, .slice sa m cb]) (t := 69) (fr := (0, 0)) hca) (by simp [Value.oneCell']) (by omega) (by unfold maxLen; omega) (by omega) (Nat.zero_le _) wa.heap.size rfl ?_
        intro g4 c4 w4 hown4 hgrow4 hat4 hlt4
        have hk4 : Keeps (fun x => (Value.slice (some ⟨g, 0, none⟩) n c).ownBlock = some x) wx w4 := (hka.mono (G := fun x => (Value.slice (some ⟨g, 0, none⟩) n c).ownBlock = some x) (fun _ _ h => h.elim)).trans (Keeps.of_grown hgrow4 (fun _ h => h)) (fun _ _ h => h)
        have hv4 := HV.out.keeps hk4 hlvb
        have hh4 := HHD.out.keeps hk4 hlr
        have hat5 : (Value.slice (some ⟨g, 0, none⟩) n c).ownBlock = some g4 ∨ wx.heap.size ≤ g4 := hat4.imp id (fun e => by rw [e]; exact hka.size)
        have HO4 := Lib.hid hown4; clear hown4 hgrow4 hat4
        go_simp
        refine hK.out _ _ ⟨hv4⟩ (fun hHeld => ?_)
        clear hK K
        refine wpAnyH_take (i := 8) (v := (.pointer (some ⟨r, 0, none⟩))) ops_at8 (by kernel_rfl) (by kernel_rfl) (by kernel_rfl) (fun _ _ _ h => h) (Or.inl ⟨by rfl, fun V hV => ?_⟩) hHeld ?_
        · go_simp
        simp only [Act.put, List.setIfInBounds_toArray, List.set_cons_zero, List.set_cons_succ]
        refine wpAnyH_take (i := 9) (v := (.pointer (some ⟨r, 0, none⟩))) ops_at9 (by kernel_rfl) (by kernel_rfl) (by kernel_rfl) (fun _ _ _ h => h) (Or.inl ⟨by rfl, fun V hV => ?_⟩) hHeld ?_
        · go_simp
        simp only [Act.put, List.setIfInBounds_toArray, List.set_cons_zero, List.set_cons_succ]
        refine wpAnyH_ready (rs := [10]) (by kernel_rfl) (by simp) ?_
        refine AllReadyH.cons ops_at10 (fun K hK => ?_) AllReadyH.nil
        rw [if_pos (by rfl)]
        have e0 := hh4.cell 0
        have f0 := hh4.free 0
        simp only [List.getElem?_toArray, List.getElem?_cons_zero] at e0
        go_simp
        obtain ⟨w5, hw5⟩ : ∃ w5, w5 = w4.setCell ⟨r, 0, none⟩ (.slice (some ⟨g4, 0, none⟩) (n + 1) c4) := ⟨_, rfl⟩
        rw [← hw5]
        have hk5 : Keeps (fun x => x = r) w4 w5 := by rw [hw5]; exact (Keeps.refl (fun x => x = r) w4).setCell (p := ⟨r, 0, none⟩) (fun _ => rfl) _
        have hh5 : CellsAt w5 r #[.slice (some ⟨g4, 0, none⟩) (n + 1) c4, .int .i64 (nx : Int)] 56 := by rw [hw5]; have := hh4.set 0 (.slice (some ⟨g4, 0, none⟩) (n + 1) c4); simpa using this
        have hv5 := hv4.keeps hk5 (fun e => hrb e.symm)
        clear hw5 e0 f0
        refine hK.out _ _ ⟨hv5⟩ (fun hHeld => ?_)
        clear hK K
        refine wpAnyH_done (by kernel_rfl) ?_ _
        go_wp2_with fail
        go_meet
        exact ⟨rfl, w4, g4, c4, hk4, by have := HO4.out; rw [HUE.out]; exact this, hat5, hk5, hh5, by rw [HUE.out]; exact hv5⟩
      · rw [if_pos (by rfl)]
        go_simp
        obtain ⟨ab, hab⟩ : ∃ ab, ab = wx.heap.size := ⟨_, rfl⟩
        obtain ⟨wa, hwa⟩ : ∃ wa, wa = (wx.alloc (.cells #[.int .i64 (nx : Int), .int .i64 v.size, .int .i64 v.quota, .slice sa m cb] 69)).drew := ⟨_, rfl⟩
        rw [← hwa, ← hab]
        have hka : Keeps (fun _ => False) wx wa := by rw [hwa]; exact ((Keeps.refl _ wx).alloc _).drew
        have hca : CellsAt wa ab #[.int .i64 (nx : Int), .int .i64 v.size, .int .i64 v.quota, .slice sa m cb] 69 := by rw [hwa, hab]; show CellsAt (wx.alloc _) _ _ _; exact heap_at rfl
        clear hwa hab
        refine hK.out _ _ ⟨HV.out.keeps hka id⟩ (fun hHeld => ?_)
        clear hK K
        have x0a := (HHD.out.keeps hka id).cell 0
        simp only [List.getElem?_toArray, List.getElem?_cons_zero] at x0a
        refine wpAnyH_ready (rs := [4]) (by kernel_rfl) (by simp) ?_
        refine AllReadyH.cons ops_at4 (fun K hK => ?_) AllReadyH.nil
        rw [if_pos (by rfl)]
        go_simp
        refine hK.out _ _ ⟨HV.out.keeps hka id⟩ (fun hHeld => ?_)
        clear hK K x0a
        refine wpAnyH_ready (rs := [7]) (by kernel_rfl) (by simp) ?_
        refine AllReadyH.cons ops_at7 (fun K hK => ?_) AllReadyH.nil
        rw [if_pos (by rfl)]
        refine wp_append_lies wa (.tmp 72) (.tmp 74) 54 rfl 0 69 i0 _ 4 48 Try.underlying54 HI.out HZ0.out HZ1.out HZ2.out rfl (by decide) (.slice (some ⟨g, 0, none⟩) n c) n (vcells vs) rfl (hka.owns HRW.out (fun _ _ h => h)) ⟨ab, 0, none⟩ 1 1 (#[.int .i64 (nx : Int), .int .i64 v.size, .int .i64 v.quota, .slice sa m cb] : Array Value).toList rfl rfl (World.news_of_block (cs := #[.int .i64 (nx : Int), .int .i64 v.size, .int .i64 v.quota, .slice sa m cb]) (t := 69) (fr := (0, 0)) hca) (by simp [Value.oneCell']) (by omega) (by unfold maxLen; omega) (by omega) (Nat.zero_le _) wa.heap.size rfl ?_
        intro g4 c4 w4 hown4 hgrow4 hat4 hlt4
        have hk4 : Keeps (fun x => (Value.slice (some ⟨g, 0, none⟩) n c).ownBlock = some x) wx w4 := (hka.mono (G := fun x => (Value.slice (some ⟨g, 0, none⟩) n c).ownBlock = some x) (fun _ _ h => h.elim)).trans (Keeps.of_grown hgrow4 (fun _ h => h)) (fun _ _ h => h)
        have hv4 := HV.out.keeps hk4 hlvb
        have hh4 := HHD.out.keeps hk4 hlr
        have hat5 : (Value.slice (some ⟨g, 0, none⟩) n c).ownBlock = some g4 ∨ wx.heap.size ≤ g4 := hat4.imp id (fun e => by rw [e]; exact hka.size)
        have HO4 := Lib.hid hown4; clear hown4 hgrow4 hat4
        go_simp
        refine hK.out _ _ ⟨hv4⟩ (fun hHeld => ?_)
        clear hK K
        refine wpAnyH_take (i := 8) (v := (.pointer (some ⟨r, 0, none⟩))) ops_at8 (by kernel_rfl) (by kernel_rfl) (by kernel_rfl) (fun _ _ _ h => h) (Or.inl ⟨by rfl, fun V hV => ?_⟩) hHeld ?_
        · go_simp
        simp only [Act.put, List.setIfInBounds_toArray, List.set_cons_zero, List.set_cons_succ]
        refine wpAnyH_take (i := 9) (v := (.pointer (some ⟨r, 0, none⟩))) ops_at9 (by kernel_rfl) (by kernel_rfl) (by kernel_rfl) (fun _ _ _ h => h) (Or.inl ⟨by rfl, fun V hV => ?_⟩) hHeld ?_
        · go_simp
        simp only [Act.put, List.setIfInBounds_toArray, List.set_cons_zero, List.set_cons_succ]
        refine wpAnyH_ready (rs := [10]) (by kernel_rfl) (by simp) ?_
        refine AllReadyH.cons ops_at10 (fun K hK => ?_) AllReadyH.nil
        rw [if_pos (by rfl)]
        have e0 := hh4.cell 0
        have f0 := hh4.free 0
        simp only [List.getElem?_toArray, List.getElem?_cons_zero] at e0
        go_simp
        obtain ⟨w5, hw5⟩ : ∃ w5, w5 = w4.setCell ⟨r, 0, none⟩ (.slice (some ⟨g4, 0, none⟩) (n + 1) c4) := ⟨_, rfl⟩
        rw [← hw5]
        have hk5 : Keeps (fun x => x = r) w4 w5 := by rw [hw5]; exact (Keeps.refl (fun x => x = r) w4).setCell (p := ⟨r, 0, none⟩) (fun _ => rfl) _
        have hh5 : CellsAt w5 r #[.slice (some ⟨g4, 0, none⟩) (n + 1) c4, .int .i64 (nx : Int)] 56 := by rw [hw5]; have := hh4.set 0 (.slice (some ⟨g4, 0, none⟩) (n + 1) c4); simpa using this
        have hv5 := hv4.keeps hk5 (fun e => hrb e.symm)
        clear hw5 e0 f0
        refine hK.out _ _ ⟨hv5⟩ (fun hHeld => ?_)
        clear hK K
        refine wpAnyH_done (by kernel_rfl) ?_ _
        go_wp2_with fail
        go_meet
        exact ⟨rfl, w4, g4, c4, hk4, by have := HO4.out; rw [HUE.out]; exact this, hat5, hk5, hh5, by rw [HUE.out]; exact hv5⟩
  obtain ⟨rfl, w4, g4, c4, hadd⟩ := hcut
  clear x0 HRW HHD
  have HAD := Lib.hid hadd; clear hadd
  obtain ⟨w5, hw5⟩ : ∃ w5, w5 = wc := ⟨_, rfl⟩
  rw [← hw5] at HAD ⊢
  clear hw5
  have n1 := HAD.out.head.cell 1
  have nf := HAD.out.head.free 1
  simp only [List.getElem?_toArray, List.getElem?_cons_zero, List.getElem?_cons_succ] at n1
  have hnw : IntKind.i64.wrap ((nx : Int) + 1) = (nx : Int) + 1 := IntWalk.i64_in _ (by omega)
  obtain ⟨w6, hw6⟩ : ∃ w6, w6 = w5.setCell ⟨r, 1, none⟩ (.int .i64 ((nx : Int) + 1)) := ⟨_, rfl⟩
  have hk6 : Keeps (fun x => x = r) w5 w6 := by rw [hw6]; exact (Keeps.refl (fun x => x = r) w5).setCell (p := ⟨r, 1, none⟩) (fun _ => rfl) _
  have hh6 : CellsAt w6 r #[.slice (some ⟨g4, 0, none⟩) (n + 1) c4, .int .i64 ((nx : Int) + 1)] 56 := by rw [hw6]; have := HAD.out.head.set 1 (.int .i64 ((nx : Int) + 1)); simpa using this
  have hv6 := HAD.out.box.keeps hk6 (fun e => hrb e.symm)
  have hwx : w.heap.size ≤ wx.heap.size := Nat.le_trans hz1 HBX.out.size
  skip
  go_upto_region 14 with fail
  rw [← hw6]
  clear hw6 n1 nf hnw
  have v0 := hv6.cell 0
  simp only [List.getElem?_toArray, List.getElem?_cons_zero] at v0
  rw [HUE.out] at v0
  have H6 := Lib.hid (show Keeps (fun x => x = r) w4 w6 from HAD.out.ks.trans hk6 (fun _ _ h => h))
  have HH6 := Lib.hid hh6
  clear hk6 hh6 hv6
  have HF4 := Lib.hid (rfour_any w6.heap.size (.slice none 0 0) [] nx w6 (Owns.nil _ _) (Nat.le_refl _) (by simp) (by omega))
  go_wp2_with fail
  refine HF4.out.mono ?_
  rintro e w7 ⟨x7, rfl, hown7, hb7⟩
  rw [List.nil_append] at hown7
  have HO7 := Lib.hid hown7; clear hown7
  have HB7 := Lib.hid hb7; clear hb7 HF4 v0
  go_wp2
  go_ret
  exact add_post H.out HBX1.out HRX.out HNX.out HUE.out HN.out HAD.out H6.out HH6.out HES.out HSB.out (by rw [HUE.out]; exact HCS.out) HO7.out HB7.out
end Go.Proofs.Ytmanldcohbegkaa
