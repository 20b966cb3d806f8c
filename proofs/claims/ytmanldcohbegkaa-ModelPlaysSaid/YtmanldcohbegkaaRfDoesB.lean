/-
  The document's model: does: create, snapshot. (Written by gen_rfdoes.py.)
-/
import Derived.Test.YtmanldcohbegkaaRfDoesA
import Derived.RegionTactic
import Derived.ChangeAlike
namespace Go.Proofs.Ytmanldcohbegkaa
open Go.RowKit

theorem RefIs.add2 {w w4 wf : World} {r : Nat} {lv lv' bv : Value} {vs : List (Vo × Value)} {S : Mo} {W : Nat → Prop} {u : Vo} {es : REs} (h : RefIs w r lv vs S W) (k : Keeps (fun x => lv.ownBlock = some x) w w4) (hrow : w4.ownsRow 0 69 4 lv' (vs.length + 1) (vcells vs ++ vcell4 (u, bv))) (hlv : ∀ g, lv'.ownBlock = some g → lv.ownBlock = some g ∨ w.heap.size ≤ g)
    (hrr : RRow (since W w.heap.size w4.heap.size) w4 bv es) (hs : SameBl es.data u.bl) (ks : Keeps (fun x => x = r) w4 wf) (hh : CellsAt wf r #[lv', .int .i64 (S.next + 1)] 56) :
    RefIs wf r lv' (vs ++ [(u, bv)]) (S.add u) (since W w.heap.size wf.heap.size) := by
  have hh4 := h.head.keeps k h.rowNe
  have hr2 := rowKept hrow hh4 ks
  refine ⟨hh, ?_, ?_, ?_, .inl h.inR, ?_, ?_⟩
  · rw [vcells_append]
    have e : vcells [(u, bv)] = vcell4 (u, bv) := by simp [vcells]
    rw [e, List.length_append]
    exact hr2
  · simp [Mo.add, h.vols]
  · intro p hp
    rcases List.mem_append.1 hp with hp | hp
    · obtain ⟨es2, h3, h4⟩ := h.bl p hp
      exact ⟨es2, ((h3.other k h.lvNot).other ks (headNot hh4)).more (fun _ hx => .inl hx), h4⟩
    · rw [List.mem_singleton] at hp
      subst hp
      exact ⟨es, (hrr.other ks (headNot hh4)).more (fun _ hx => hx.imp id (fun hx => ⟨hx.1, Nat.lt_of_lt_of_le hx.2 ks.size⟩)), hs⟩
  · intro g hg
    rcases hlv g hg with h5 | h5
    · exact .inl (h.inL g h5)
    · exact .inr ⟨h5, (hr2.lt g hg).2⟩
  · intro x hx
    rcases hx with hx | hx
    · exact Nat.lt_of_lt_of_le (h.lt x hx) (Nat.le_trans k.size ks.size)
    · exact hx.2
structure BxAt (vb : Nat) (x0 x1 x2 : Int) (bv : Value) (V : World) : Prop where
  z : CellsAt V vb #[.int .i64 x0, .int .i64 x1, .int .i64 x2, bv] 69
/-- Where the row has one volume more. -/
structure AddAt (w : World) (r vb n : Nat) (lv : Value) (vs : List (Vo × Value)) (nx : Nat) (u : Vo) (bv : Value) (wx : World) (w4 : World) (g4 c4 : Nat) (V : World) : Prop where
  kp : Keeps (fun x => lv.ownBlock = some x) wx w4
  row : w4.ownsRow 0 69 4 (.slice (some ⟨g4, 0, none⟩) (n + 1) c4) (n + 1) (vcells vs ++ vcell4 (u, bv))
  at4 : lv.ownBlock = some g4 ∨ wx.heap.size ≤ g4
  ks : Keeps (fun x => x = r) w4 V
  head : CellsAt V r #[.slice (some ⟨g4, 0, none⟩) (n + 1) c4, .int .i64 (nx : Int)] 56
  box : CellsAt V vb #[.int .i64 u.id, .int .i64 u.size, .int .i64 u.quota, bv] 69
theorem add_post {w wx w4 w5 w6 w7 : World} {r vb n g4 c4 : Nat} {lv bv x7 : Value} {vs : List (Vo × Value)} {S : Mo} {W : Nat → Prop} {u : Vo} {es : REs} {t : Tk} {nx : Nat} {x1 x2 : Int} {bl : List (Int × List Nat)} (h : RefIs w r lv vs S W) (hb : Below w.heap.size w wx) (_hx : RefIs wx r lv vs S W) (hnx : S.next = (nx : Int)) (hu : u = ⟨(nx : Int), x1, x2, bl⟩) (hn : n = vs.length) (ha : AddAt w r vb n lv vs nx u bv wx w4 g4 c4 w5)
    (k6 : Keeps (fun x => x = r) w4 w6) (hh6 : CellsAt w6 r #[.slice (some ⟨g4, 0, none⟩) (n + 1) c4, .int .i64 ((nx : Int) + 1)] 56) (hes : RRow (since W w.heap.size wx.heap.size) wx bv es) (hsb : SameBl es.data bl) (hc : changeS S t = (fourB nx, S.add u)) (ho : Owns w6.heap.size w7 x7 (fourB nx)) (hb7 : Below w6.heap.size w6 w7) : DoesPost w r lv S W t (.returned x7) w7 := by
  have hzx : w.heap.size ≤ wx.heap.size := hb.size
  have k4 : Keeps (fun x => lv.ownBlock = some x) w w4 := (Keeps.of_below hb).trans ha.kp (fun _ _ h => h)
  have hlvx : ∀ x, lv.ownBlock = some x → ∀ cur, wx.heap[x]? ≠ some (.cells cur 5 (0, 0)) ∧ wx.heap[x]? ≠ some (.cells cur 87 (0, 0)) := (h.below hb).lvNot
  have hrr4 : RRow (since W w.heap.size w4.heap.size) w4 bv es := (hes.other ha.kp hlvx).more (fun _ hx => hx.imp id (fun hx => ⟨hx.1, Nat.lt_of_lt_of_le hx.2 ha.kp.size⟩))
  have hR6 := h.add2 (u := u) (bv := bv) (lv' := .slice (some ⟨g4, 0, none⟩) (n + 1) c4) k4 (by rw [← hn]; exact ha.row) (fun x hx => by
    have e : g4 = x := by simpa [Value.ownBlock] using hx
    subst e
    exact ha.at4.imp id (fun e => by omega)) hrr4 (by rw [hu]; exact hsb) k6 (by rw [hnx]; exact hh6)
  have hz6 : w.heap.size ≤ w6.heap.size := Nat.le_trans k4.size k6.size
  refine ⟨x7, _, _, since W w.heap.size w6.heap.size, rfl, by rw [hc]; exact ho.mono hz6, by rw [hc]; exact hR6.below hb7, ?_, fun y hy => hy.imp id (fun hy => hy.1)⟩
  exact ((k4.mono (G := fun y => y = r ∨ lv.ownBlock = some y) (fun _ _ hx => .inr hx)).trans k6 (fun _ _ hx => .inl hx)).trans (Keeps.of_below (F := fun _ => False) hb7) (fun _ _ hx => hx.elim)
set_option maxRecDepth 100000 in
set_option maxHeartbeats 6400000 in
theorem rdoes_create (r : Nat) (lv : Value) (vs : List (Vo × Value)) (S : Mo) (W : Nat → Prop) (t : Tk) (dv : Value) (w : World) (h : RefIs w r lv vs S W) (hg : Good S) (hdv : ∃ a n c, dv = .slice a n c) (hop : t.op = 6) (lost : Bool) (hr : refuseS S t lost = 0) :
    Calls Try.prog 29 #[.pointer (some ⟨r, 0, none⟩), .agg (t.cells dv)] w (DoesPost w r lv S W t) := by
  obtain ⟨hl7, hnext⟩ := refuse_fresh hr (.inl hop)
  have hn0 := hg.next0
  obtain ⟨nx, hnx⟩ : ∃ nx : Nat, S.next = (nx : Int) := ⟨S.next.toNat, by omega⟩
  have hc : changeS S t = (fourB nx, S.add ⟨(nx : Int), t.siz, t.quo, []⟩) := by unfold changeS; rw [if_neg (by omega), if_pos hop, hnx]; rfl
  obtain ⟨da, dn, dc, rfl⟩ := hdv
  have hlen8 : vs.length ≤ 8 := by rw [h.len]; exact hg.len
  obtain ⟨w1, hw1⟩ : ∃ w1, w1 = w.alloc (.cells (t.cells (.slice da dn dc)) 30) := ⟨_, rfl⟩
  have hb1 : Below w.heap.size w w1 := by rw [hw1]; exact allocBelow w _
  have hc1 : CellsAt w1 w.heap.size (t.cells (.slice da dn dc)) 30 := by rw [hw1]; exact heap_at rfl
  have h1 := h.below hb1
  have hz1 : w.heap.size ≤ w1.heap.size := hb1.size
  have htl : w.heap.size < w1.heap.size := hc1.lt
  have HF := Lib.hid (rfind_any r lv vs S W t.vol w1 h1 hlen8)
  obtain ⟨fi, hfi⟩ : ∃ fi, fi = firstAt (fun v : Vo => v.id == t.vol) S.vols := ⟨_, rfl⟩
  rw [← hfi] at HF
  have HFI := Lib.hid hfi; clear hfi
  have HB1 := Lib.hid hb1; clear hb1
  have HC1 := Lib.hid hc1; clear hc1
  have H := Lib.hid h; clear h
  have H1 := Lib.hid h1; clear h1
  have c5 := HC1.out.cell 5
  have c2 := HC1.out.cell 2
  simp only [Tk.cells, List.getElem?_toArray, List.getElem?_cons_zero, List.getElem?_cons_succ] at c5 c2
  obtain ⟨la, lc, rfl, _⟩ := ownsForm H1.out.row
  obtain ⟨n, hn⟩ : ∃ n, n = vs.length := ⟨_, rfl⟩
  rw [← hn] at H H1 hlen8 ⊢
  have hn7 : n ≤ 7 := by have := H.out.len; omega
  have HN := Lib.hid hn; clear hn
  have b2 : (t.op == 2) = false := by simp [hop]
  have b10 : (t.op == 10) = false := by simp [hop]
  have b6 : (t.op == 6) = true := by simp [hop]
  have b7 : (t.op == 7) = false := by simp [hop]
  have b8 : (t.op == 8) = false := by simp [hop]
  have b9 : (t.op == 9) = false := by simp [hop]
  have hnxl : nx < 1073741824 := by omega
  have n1 := H1.out.head.cell 1
  simp only [List.getElem?_toArray, List.getElem?_cons_zero, List.getElem?_cons_succ] at n1
  rw [hnx] at n1
  have q8 := HC1.out.cell 8
  have q9 := HC1.out.cell 9
  simp only [Tk.cells, List.getElem?_toArray, List.getElem?_cons_zero, List.getElem?_cons_succ] at q8 q9
  have HNX := Lib.hid hnx
  clear hnx hop hr hl7 hnext hn0
  have HCS' := Lib.hid hc; clear hc
  unfold Tk.cells at hw1 ⊢
  go_enter Try.func29, Try.ntmps29
  go_upto_region 1 with fail
  rw [← hw1]
  clear hw1
  go_wp2_with fail
  refine HF.out.mono ?_
  rintro e w2 ⟨rfl, rfl⟩
  clear HF c5
  go_upto_region 9 with fail
  refine wp_region_held_drew (S := fun V => V.cell? ⟨r, 1, none⟩ = some (.int .i64 (nx : Int)) ∧ V.cell? ⟨w.heap.size, 8, none⟩ = some (.int .i64 t.siz) ∧ V.cell? ⟨w.heap.size, 9, none⟩ = some (.int .i64 t.quo)) (by kernel_rfl) ⟨n1, q8, q9⟩ (fun hHeld => ?_)
  refine wpAnyH_take (i := 0) (v := (.pointer (some ⟨r, 0, none⟩))) ops_at0 (by kernel_rfl) (by kernel_rfl) (by kernel_rfl) (fun _ _ _ h => h) (Or.inl ⟨by rfl, fun V hV => ?_⟩) hHeld ?_
  · go_simp
  simp only [Act.put, List.setIfInBounds_toArray, List.set_cons_zero, List.set_cons_succ]
  refine wpAnyH_take (i := 1) (v := (.pointer (some ⟨r, 0, none⟩))) ops_at1 (by kernel_rfl) (by kernel_rfl) (by kernel_rfl) (fun _ _ _ h => h) (Or.inl ⟨by rfl, fun V hV => ?_⟩) hHeld ?_
  · go_simp
  simp only [Act.put, List.setIfInBounds_toArray, List.set_cons_zero, List.set_cons_succ]
  refine wpAnyH_take (i := 2) (v := (.pointer (some ⟨r, 1, none⟩))) ops_at2 (by kernel_rfl) (by kernel_rfl) (by kernel_rfl) (fun _ _ _ h => h) (Or.inl ⟨by rfl, fun V hV => ?_⟩) hHeld ?_
  · go_simp
  simp only [Act.put, List.setIfInBounds_toArray, List.set_cons_zero, List.set_cons_succ]
  refine wpAnyH_take (i := 3) (v := .int .i64 (nx : Int)) ops_at3 (by kernel_rfl) (by kernel_rfl) (by kernel_rfl) (fun _ _ _ h => h) (Or.inl ⟨by rfl, fun V hV => ?_⟩) hHeld ?_
  · obtain ⟨n1, q8, q9⟩ := hV
    go_simp
  simp only [Act.put, List.setIfInBounds_toArray, List.set_cons_zero, List.set_cons_succ]
  refine wpAnyH_take (i := 4) (v := (.pointer (some ⟨w.heap.size, 8, none⟩))) ops_at4 (by kernel_rfl) (by kernel_rfl) (by kernel_rfl) (fun _ _ _ h => h) (Or.inl ⟨by rfl, fun V hV => ?_⟩) hHeld ?_
  · go_simp
  simp only [Act.put, List.setIfInBounds_toArray, List.set_cons_zero, List.set_cons_succ]
  refine wpAnyH_take (i := 5) (v := .int .i64 t.siz) ops_at5 (by kernel_rfl) (by kernel_rfl) (by kernel_rfl) (fun _ _ _ h => h) (Or.inl ⟨by rfl, fun V hV => ?_⟩) hHeld ?_
  · obtain ⟨n1, q8, q9⟩ := hV
    go_simp
  simp only [Act.put, List.setIfInBounds_toArray, List.set_cons_zero, List.set_cons_succ]
  refine wpAnyH_take (i := 6) (v := (.pointer (some ⟨w.heap.size, 9, none⟩))) ops_at6 (by kernel_rfl) (by kernel_rfl) (by kernel_rfl) (fun _ _ _ h => h) (Or.inl ⟨by rfl, fun V hV => ?_⟩) hHeld ?_
  · go_simp
  simp only [Act.put, List.setIfInBounds_toArray, List.set_cons_zero, List.set_cons_succ]
  refine wpAnyH_take (i := 7) (v := .int .i64 t.quo) ops_at7 (by kernel_rfl) (by kernel_rfl) (by kernel_rfl) (fun _ _ _ h => h) (Or.inl ⟨by rfl, fun V hV => ?_⟩) hHeld ?_
  · obtain ⟨n1, q8, q9⟩ := hV
    go_simp
  simp only [Act.put, List.setIfInBounds_toArray, List.set_cons_zero, List.set_cons_succ]
  refine wpAnyH_take (i := 8) (v := .agg #[.int .i64 (nx : Int), .int .i64 t.siz, .int .i64 t.quo, .slice none 0 0]) ops_at8 (by kernel_rfl) (by kernel_rfl) (by kernel_rfl) (fun _ _ _ h => h) (Or.inl ⟨by rfl, fun V hV => ?_⟩) hHeld ?_
  · go_simp
  simp only [Act.put, List.setIfInBounds_toArray, List.set_cons_zero, List.set_cons_succ]
  refine wpAnyH_ready (rs := [9]) (by kernel_rfl) (by simp) ?_
  refine AllReadyH.cons ops_at9 (fun K hK => ?_) AllReadyH.nil
  rw [if_pos (by rfl)]
  go_simp
  refine hK.out _ _ ⟨((allocBelow w1 (.cells #[.int .i64 0, .int .i64 0, .int .i64 0, .slice none 0 0] 69)).cell (p := ⟨r, 1, none⟩) (block_lt n1)).trans n1, ((allocBelow w1 (.cells #[.int .i64 0, .int .i64 0, .int .i64 0, .slice none 0 0] 69)).cell (p := ⟨w.heap.size, 8, none⟩) (block_lt q8)).trans q8, ((allocBelow w1 (.cells #[.int .i64 0, .int .i64 0, .int .i64 0, .slice none 0 0] 69)).cell (p := ⟨w.heap.size, 9, none⟩) (block_lt q9)).trans q9⟩ (fun hHeld => ?_)
  clear hK K
  refine wpAnyH_ready (rs := [10]) (by kernel_rfl) (by simp) ?_
  refine AllReadyH.cons ops_at10 (fun K hK => ?_) AllReadyH.nil
  rw [if_pos (by rfl)]
  go_simp
  refine hK.out _ _ ⟨((allocBelow w1 (.cells #[.int .i64 (nx : Int), .int .i64 t.siz, .int .i64 t.quo, .slice none 0 0] 69)).cell (p := ⟨r, 1, none⟩) (block_lt n1)).trans n1, ((allocBelow w1 (.cells #[.int .i64 (nx : Int), .int .i64 t.siz, .int .i64 t.quo, .slice none 0 0] 69)).cell (p := ⟨w.heap.size, 8, none⟩) (block_lt q8)).trans q8, ((allocBelow w1 (.cells #[.int .i64 (nx : Int), .int .i64 t.siz, .int .i64 t.quo, .slice none 0 0] 69)).cell (p := ⟨w.heap.size, 9, none⟩) (block_lt q9)).trans q9⟩ (fun hHeld => ?_)
  clear hK K
  refine wpAnyH_done (by kernel_rfl) ?_ _
  obtain ⟨vb, hvb⟩ : ∃ vb, vb = w1.heap.size := ⟨_, rfl⟩
  obtain ⟨w3, hw3⟩ : ∃ w3, w3 = (w1.alloc (.cells #[.int .i64 (nx : Int), .int .i64 t.siz, .int .i64 t.quo, .slice none 0 0] 69)).drew := ⟨_, rfl⟩
  have hb3 : Below w1.heap.size w1 w3 := by rw [hw3]; exact (allocBelow w1 _).drew
  have hv3 : CellsAt w3 vb #[.int .i64 (nx : Int), .int .i64 t.siz, .int .i64 t.quo, .slice none 0 0] 69 := by rw [hw3, hvb]; show CellsAt (w1.alloc _) _ _ _; exact heap_at rfl
  have hvbz : w1.heap.size ≤ vb := by omega
  have c2x := (HC1.out.below hb3 (by omega)).cell 2
  simp only [Tk.cells, List.getElem?_toArray, List.getElem?_cons_zero, List.getElem?_cons_succ] at c2x
  go_upto_region 10 with fail
  rw [← hw3, ← hvb]
  clear hw3 hvb q8 q9 n1 c2
  obtain ⟨wx, hwx⟩ : ∃ wx, wx = w3 := ⟨_, rfl⟩
  rw [← hwx] at hb3 hv3 c2x ⊢
  clear hwx
  have HRX := Lib.hid (H1.out.below hb3)
  have HBX := Lib.hid hb3
  have HBX1 := Lib.hid (HB1.out.trans (hb3.mono hz1))
  have HV := Lib.hid hv3
  clear hb3 hv3
  have HES := Lib.hid (show RRow (since W w.heap.size wx.heap.size) wx (.slice none 0 0) ([] : REs) from ⟨World.ownsRow_nil _ _ _ _, fun e he => by simp at he, fun x hx => by simp [Value.ownBlock] at hx⟩)
  have HSB := Lib.hid (show SameBl (REs.data ([] : REs)) [] from SameBl.nil)
  have HCS := Lib.hid (show changeS S t = (fourB nx, S.add ⟨(nx : Int), t.siz, t.quo, []⟩) from HCS'.out)
  obtain ⟨u, hu⟩ : ∃ u : Vo, u = ⟨(nx : Int), t.siz, t.quo, []⟩ := ⟨_, rfl⟩
  have HUE := Lib.hid hu; clear hu
  have hrw := HRX.out.row
  have hhd := HRX.out.head
  rw [HNX.out] at hhd
  have hrw : wx.ownsRow 0 69 4 (.slice la n lc) n (vcells vs) := by have := hrw; rw [← HN.out] at this; exact this
  have HRW := Lib.hid hrw; clear hrw
  have HHD := Lib.hid hhd; clear hhd
  have hrb : r ≠ vb := by intro e; have h1 := HHD.out; have h2 := HV.out; unfold CellsAt at h1 h2; rw [e, h2] at h1; simp at h1
  have hlr : ¬ (Value.slice la n lc).ownBlock = some r := HRX.out.rowNe
  have hlvb : ¬ (Value.slice la n lc).ownBlock = some vb := fun e => by have := HRX.out.lt vb (HRX.out.inL vb e); have h2 := H.out.lt vb (H.out.inL vb e); omega
  have x0 := HHD.out.cell 0
  simp only [List.getElem?_toArray, List.getElem?_cons_zero] at x0
  go_upto_region 12 with fail
  go_cut [6] (fun b V => b = .pointer (some ⟨vb, 0, none⟩) ∧ ∃ w4 g4 c4, AddAt w r vb n (.slice la n lc) vs nx u (.slice none 0 0) wx w4 g4 c4 V)
  case first =>
    as_aux_lemma =>
      obtain ⟨i0, hi0', hz0', hz1', hz2'⟩ := info_parts Try.info_rvol
      have HI := Lib.hid hi0'; clear hi0'
      have HZ0 := Lib.hid hz0'; clear hz0'
      have HZ1 := Lib.hid hz1'; clear hz1'
      have HZ2 := Lib.hid hz2'; clear hz2'
      refine wp_region_held_drew (S := BxAt vb (nx : Int) t.siz t.quo (.slice none 0 0)) (by kernel_rfl) ⟨HV.out⟩ (fun hHeld => ?_)
      refine wpAnyH_take (i := 0) (v := (.pointer (some ⟨r, 0, none⟩))) ops_at0 (by kernel_rfl) (by kernel_rfl) (by kernel_rfl) (fun _ _ _ h => h) (Or.inl ⟨by rfl, fun V hV => ?_⟩) hHeld ?_
      · go_simp
      simp only [Act.put, List.setIfInBounds_toArray, List.set_cons_zero, List.set_cons_succ]
      refine wpAnyH_take (i := 1) (v := (.pointer (some ⟨r, 0, none⟩))) ops_at1 (by kernel_rfl) (by kernel_rfl) (by kernel_rfl) (fun _ _ _ h => h) (Or.inl ⟨by rfl, fun V hV => ?_⟩) hHeld ?_
      · go_simp
      simp only [Act.put, List.setIfInBounds_toArray, List.set_cons_zero, List.set_cons_succ]
      refine wpAnyH_take (i := 2) (v := (.pointer (some ⟨r, 0, none⟩))) ops_at2 (by kernel_rfl) (by kernel_rfl) (by kernel_rfl) (fun _ _ _ h => h) (Or.inl ⟨by rfl, fun V hV => ?_⟩) hHeld ?_
      · go_simp
      simp only [Act.put, List.setIfInBounds_toArray, List.set_cons_zero, List.set_cons_succ]
      refine wpAnyH_take (i := 3) (v := (.pointer (some ⟨r, 0, none⟩))) ops_at3 (by kernel_rfl) (by kernel_rfl) (by kernel_rfl) (fun _ _ _ h => h) (Or.inl ⟨by rfl, fun V hV => ?_⟩) hHeld ?_
      · go_simp
      simp only [Act.put, List.setIfInBounds_toArray, List.set_cons_zero, List.set_cons_succ]
      refine wpAnyH_take (i := 5) (v := .agg #[.int .i64 (nx : Int), .int .i64 t.siz, .int .i64 t.quo, .slice none 0 0]) ops_at5 (by kernel_rfl) (by kernel_rfl) (by kernel_rfl) (fun _ _ _ h => h) (Or.inl ⟨by rfl, fun V hV => ?_⟩) hHeld ?_
      · have hz := fun j => CellsAt.cell hV.z j
        go_simp
      simp only [Act.put, List.setIfInBounds_toArray, List.set_cons_zero, List.set_cons_succ]
      refine wpAnyH_ready (rs := [4, 6]) (by kernel_rfl) (by simp) ?_
      refine AllReadyH.cons ops_at4 (fun K hK => ?_) (AllReadyH.cons ops_at6 (fun K hK => ?_) AllReadyH.nil)
      · rw [if_pos (by rfl)]
        go_simp
        refine hK.out _ _ ⟨HV.out⟩ (fun hHeld => ?_)
        clear hK K
        refine wpAnyH_ready (rs := [6]) (by kernel_rfl) (by simp) ?_
        refine AllReadyH.cons ops_at6 (fun K hK => ?_) AllReadyH.nil
        rw [if_pos (by rfl)]
        go_simp
        obtain ⟨ab, hab⟩ : ∃ ab, ab = wx.heap.size := ⟨_, rfl⟩
        obtain ⟨wa, hwa⟩ : ∃ wa, wa = (wx.alloc (.cells #[.int .i64 (nx : Int), .int .i64 t.siz, .int .i64 t.quo, .slice none 0 0] 69)).drew := ⟨_, rfl⟩
        rw [← hwa, ← hab]
        have hka : Keeps (fun _ => False) wx wa := by rw [hwa]; exact ((Keeps.refl _ wx).alloc _).drew
        have hca : CellsAt wa ab #[.int .i64 (nx : Int), .int .i64 t.siz, .int .i64 t.quo, .slice none 0 0] 69 := by rw [hwa, hab]; show CellsAt (wx.alloc _) _ _ _; exact heap_at rfl
        clear hwa hab
        refine hK.out _ _ ⟨HV.out.keeps hka id⟩ (fun hHeld => ?_)
        clear hK K
        refine wpAnyH_ready (rs := [7]) (by kernel_rfl) (by simp) ?_
        refine AllReadyH.cons ops_at7 (fun K hK => ?_) AllReadyH.nil
        rw [if_pos (by rfl)]
        refine wp_append_lies wa (.tmp 72) (.tmp 74) 54 rfl 0 69 i0 _ 4 48 Try.underlying54 HI.out HZ0.out HZ1.out HZ2.out rfl (by decide) (.slice la n lc) n (vcells vs) rfl (hka.owns HRW.out (fun _ _ h => h)) ⟨ab, 0, none⟩ 1 1 (#[.int .i64 (nx : Int), .int .i64 t.siz, .int .i64 t.quo, .slice none 0 0] : Array Value).toList rfl rfl (World.news_of_block (cs := #[.int .i64 (nx : Int), .int .i64 t.siz, .int .i64 t.quo, .slice none 0 0]) (t := 69) (fr := (0, 0)) hca) (by simp [Value.oneCell']) (by omega) (by unfold maxLen; omega) (by omega) (Nat.zero_le _) wa.heap.size rfl ?_
        intro g4 c4 w4 hown4 hgrow4 hat4 hlt4
        have hk4 : Keeps (fun x => (Value.slice la n lc).ownBlock = some x) wx w4 := (hka.mono (G := fun x => (Value.slice la n lc).ownBlock = some x) (fun _ _ h => h.elim)).trans (Keeps.of_grown hgrow4 (fun _ h => h)) (fun _ _ h => h)
        have hv4 := HV.out.keeps hk4 hlvb
        have hh4 := HHD.out.keeps hk4 hlr
        have hat5 : (Value.slice la n lc).ownBlock = some g4 ∨ wx.heap.size ≤ g4 := hat4.imp id (fun e => by rw [e]; exact hka.size)
        have HO4 := Lib.hid hown4; clear hown4 hgrow4 hat4
        go_simp
        refine hK.out _ _ ⟨hv4⟩ (fun hHeld => ?_)
        clear hK K
        refine wpAnyH_take (i := 8) (v := (.pointer (some ⟨r, 0, none⟩))) ops_at8 (by kernel_rfl) (by kernel_rfl) (by kernel_rfl) (fun _ _ _ h => h) (Or.inl ⟨by rfl, fun V hV => ?_⟩) hHeld ?_
        · go_simp
        simp only [Act.put, List.setIfInBounds_toArray, List.set_cons_zero, List.set_cons_succ]
        refine wpAnyH_take (i := 9) (v := (.pointer (some ⟨r, 0, none⟩))) ops_at9 (by kernel_rfl) (by kernel_rfl) (by kernel_rfl) (fun _ _ _ h => h) (Or.inl ⟨by rfl, fun V hV => ?_⟩) hHeld ?_
        · go_simp
        simp only [Act.put, List.setIfInBounds_toArray, List.set_cons_zero, List.set_cons_succ]
        refine wpAnyH_ready (rs := [10]) (by kernel_rfl) (by simp) ?_
        refine AllReadyH.cons ops_at10 (fun K hK => ?_) AllReadyH.nil
        rw [if_pos (by rfl)]
        have e0 := hh4.cell 0
        have f0 := hh4.free 0
        simp only [List.getElem?_toArray, List.getElem?_cons_zero] at e0
        go_simp
        obtain ⟨w5, hw5⟩ : ∃ w5, w5 = w4.setCell ⟨r, 0, none⟩ (.slice (some ⟨g4, 0, none⟩) (n + 1) c4) := ⟨_, rfl⟩
        rw [← hw5]
        have hk5 : Keeps (fun x => x = r) w4 w5 := by rw [hw5]; exact (Keeps.refl (fun x => x = r) w4).setCell (p := ⟨r, 0, none⟩) (fun _ => rfl) _
        have hh5 : CellsAt w5 r #[.slice (some ⟨g4, 0, none⟩) (n + 1) c4, .int .i64 (nx : Int)] 56 := by rw [hw5]; have := hh4.set 0 (.slice (some ⟨g4, 0, none⟩) (n + 1) c4); simpa using this
        have hv5 := hv4.keeps hk5 (fun e => hrb e.symm)
        clear hw5 e0 f0
        refine hK.out _ _ ⟨hv5⟩ (fun hHeld => ?_)
        clear hK K
        refine wpAnyH_done (by kernel_rfl) ?_ _
        go_wp2_with fail
        go_meet
        exact ⟨rfl, w4, g4, c4, hk4, by have := HO4.out; rw [HUE.out]; exact this, hat5, hk5, hh5, by rw [HUE.out]; exact hv5⟩
      · rw [if_pos (by rfl)]
        go_simp
        obtain ⟨ab, hab⟩ : ∃ ab, ab = wx.heap.size := ⟨_, rfl⟩
        obtain ⟨wa, hwa⟩ : ∃ wa, wa = (wx.alloc (.cells #[.int .i64 (nx : Int), .int .i64 t.siz, .int .i64 t.quo, .slice none 0 0] 69)).drew := ⟨_, rfl⟩
        rw [← hwa, ← hab]
        have hka : Keeps (fun _ => False) wx wa := by rw [hwa]; exact ((Keeps.refl _ wx).alloc _).drew
        have hca : CellsAt wa ab #[.int .i64 (nx : Int), .int .i64 t.siz, .int .i64 t.quo, .slice none 0 0] 69 := by rw [hwa, hab]; show CellsAt (wx.alloc _) _ _ _; exact heap_at rfl
        clear hwa hab
        refine hK.out _ _ ⟨HV.out.keeps hka id⟩ (fun hHeld => ?_)
        clear hK K
        have x0a := (HHD.out.keeps hka id).cell 0
        simp only [List.getElem?_toArray, List.getElem?_cons_zero] at x0a
        refine wpAnyH_ready (rs := [4]) (by kernel_rfl) (by simp) ?_
        refine AllReadyH.cons ops_at4 (fun K hK => ?_) AllReadyH.nil
        rw [if_pos (by rfl)]
        go_simp
        refine hK.out _ _ ⟨HV.out.keeps hka id⟩ (fun hHeld => ?_)
        clear hK K x0a
        refine wpAnyH_ready (rs := [7]) (by kernel_rfl) (by simp) ?_
        refine AllReadyH.cons ops_at7 (fun K hK => ?_) AllReadyH.nil
        rw [if_pos (by rfl)]
        refine wp_append_lies wa (.tmp 72) (.tmp 74) 54 rfl 0 69 i0 _ 4 48 Try.underlying54 HI.out HZ0.out HZ1.out HZ2.out rfl (by decide) (.slice la n lc) n (vcells vs) rfl (hka.owns HRW.out (fun _ _ h => h)) ⟨ab, 0, none⟩ 1 1 (#[.int .i64 (nx : Int), .int .i64 t.siz, .int .i64 t.quo, .slice none 0 0] : Array Value).toList rfl rfl (World.news_of_block (cs := #[.int .i64 (nx : Int), .int .i64 t.siz, .int .i64 t.quo, .slice none 0 0]) (t := 69) (fr := (0, 0)) hca) (by simp [Value.oneCell']) (by omega) (by unfold maxLen; omega) (by omega) (Nat.zero_le _) wa.heap.size rfl ?_
        intro g4 c4 w4 hown4 hgrow4 hat4 hlt4
        have hk4 : Keeps (fun x => (Value.slice la n lc).ownBlock = some x) wx w4 := (hka.mono (G := fun x => (Value.slice la n lc).ownBlock = some x) (fun _ _ h => h.elim)).trans (Keeps.of_grown hgrow4 (fun _ h => h)) (fun _ _ h => h)
        have hv4 := HV.out.keeps hk4 hlvb
        have hh4 := HHD.out.keeps hk4 hlr
        have hat5 : (Value.slice la n lc).ownBlock = some g4 ∨ wx.heap.size ≤ g4 := hat4.imp id (fun e => by rw [e]; exact hka.size)
        have HO4 := Lib.hid hown4; clear hown4 hgrow4 hat4
        go_simp
        refine hK.out _ _ ⟨hv4⟩ (fun hHeld => ?_)
        clear hK K
        refine wpAnyH_take (i := 8) (v := (.pointer (some ⟨r, 0, none⟩))) ops_at8 (by kernel_rfl) (by kernel_rfl) (by kernel_rfl) (fun _ _ _ h => h) (Or.inl ⟨by rfl, fun V hV => ?_⟩) hHeld ?_
        · go_simp
        simp only [Act.put, List.setIfInBounds_toArray, List.set_cons_zero, List.set_cons_succ]
        refine wpAnyH_take (i := 9) (v := (.pointer (some ⟨r, 0, none⟩))) ops_at9 (by kernel_rfl) (by kernel_rfl) (by kernel_rfl) (fun _ _ _ h => h) (Or.inl ⟨by rfl, fun V hV => ?_⟩) hHeld ?_
        · go_simp
        simp only [Act.put, List.setIfInBounds_toArray, List.set_cons_zero, List.set_cons_succ]
        refine wpAnyH_ready (rs := [10]) (by kernel_rfl) (by simp) ?_
        refine AllReadyH.cons ops_at10 (fun K hK => ?_) AllReadyH.nil
        rw [if_pos (by rfl)]
        have e0 := hh4.cell 0
        have f0 := hh4.free 0
        simp only [List.getElem?_toArray, List.getElem?_cons_zero] at e0
        go_simp
        obtain ⟨w5, hw5⟩ : ∃ w5, w5 = w4.setCell ⟨r, 0, none⟩ (.slice (some ⟨g4, 0, none⟩) (n + 1) c4) := ⟨_, rfl⟩
        rw [← hw5]
        have hk5 : Keeps (fun x => x = r) w4 w5 := by rw [hw5]; exact (Keeps.refl (fun x => x = r) w4).setCell (p := ⟨r, 0, none⟩) (fun _ => rfl) _
        have hh5 : CellsAt w5 r #[.slice (some ⟨g4, 0, none⟩) (n + 1) c4, .int .i64 (nx : Int)] 56 := by rw [hw5]; have := hh4.set 0 (.slice (some ⟨g4, 0, none⟩) (n + 1) c4); simpa using this
        have hv5 := hv4.keeps hk5 (fun e => hrb e.symm)
        clear hw5 e0 f0
        refine hK.out _ _ ⟨hv5⟩ (fun hHeld => ?_)
        clear hK K
        refine wpAnyH_done (by kernel_rfl) ?_ _
        go_wp2_with fail
        go_meet
        exact ⟨rfl, w4, g4, c4, hk4, by have := HO4.out; rw [HUE.out]; exact this, hat5, hk5, hh5, by rw [HUE.out]; exact hv5⟩
  obtain ⟨rfl, w4, g4, c4, hadd⟩ := hcut
  clear x0 HRW HHD
  have HAD := Lib.hid hadd; clear hadd
  obtain ⟨w5, hw5⟩ : ∃ w5, w5 = wc := ⟨_, rfl⟩
  rw [← hw5] at HAD ⊢
  clear hw5
  have n1 := HAD.out.head.cell 1
  have nf := HAD.out.head.free 1
  simp only [List.getElem?_toArray, List.getElem?_cons_zero, List.getElem?_cons_succ] at n1
  have hnw : IntKind.i64.wrap ((nx : Int) + 1) = (nx : Int) + 1 := IntWalk.i64_in _ (by omega)
  obtain ⟨w6, hw6⟩ : ∃ w6, w6 = w5.setCell ⟨r, 1, none⟩ (.int .i64 ((nx : Int) + 1)) := ⟨_, rfl⟩
  have hk6 : Keeps (fun x => x = r) w5 w6 := by rw [hw6]; exact (Keeps.refl (fun x => x = r) w5).setCell (p := ⟨r, 1, none⟩) (fun _ => rfl) _
  have hh6 : CellsAt w6 r #[.slice (some ⟨g4, 0, none⟩) (n + 1) c4, .int .i64 ((nx : Int) + 1)] 56 := by rw [hw6]; have := HAD.out.head.set 1 (.int .i64 ((nx : Int) + 1)); simpa using this
  have hv6 := HAD.out.box.keeps hk6 (fun e => hrb e.symm)
  have hwx : w.heap.size ≤ wx.heap.size := Nat.le_trans hz1 HBX.out.size
  skip
  go_upto_region 14 with fail
  rw [← hw6]
  clear hw6 n1 nf hnw
  have v0 := hv6.cell 0
  simp only [List.getElem?_toArray, List.getElem?_cons_zero] at v0
  rw [HUE.out] at v0
  have H6 := Lib.hid (show Keeps (fun x => x = r) w4 w6 from HAD.out.ks.trans hk6 (fun _ _ h => h))
  have HH6 := Lib.hid hh6
  clear hk6 hh6 hv6
  have HF4 := Lib.hid (rfour_any w6.heap.size (.slice none 0 0) [] nx w6 (Owns.nil _ _) (Nat.le_refl _) (by simp) (by omega))
  go_wp2_with fail
  refine HF4.out.mono ?_
  rintro e w7 ⟨x7, rfl, hown7, hb7⟩
  rw [List.nil_append] at hown7
  have HO7 := Lib.hid hown7; clear hown7
  have HB7 := Lib.hid hb7; clear hb7 HF4 v0
  go_wp2
  go_ret
  exact add_post H.out HBX1.out HRX.out HNX.out HUE.out HN.out HAD.out H6.out HH6.out HES.out HSB.out (by rw [HUE.out]; exact HCS.out) HO7.out HB7.out
end Go.Proofs.Ytmanldcohbegkaa
