/-
  ModelLists: the walk. (Written by gen_mdlists.py.)
-/
import Derived.Test.YtmanldcohbegkaaMdLsMath
import Derived.Test.YtmanldcohbegkaaMdBox
import Derived.RegionTactic
import Derived.ChangeAlike
import Derived.BigQuiet
namespace Go.Proofs.Ytmanldcohbegkaa
open Go.RowKit

theorem box_set {w : World} {b : Nat} {T : TypeId} {x0 x1 x2 x3 x4 : Value} (h : CellsAt w b #[x0, x1, x2, x3, x4] T) (y0 y1 y2 y3 y4 : Value) :
    CellsAt (((((w.setCell ⟨b, 0, none⟩ y0).setCell ⟨b, 1, none⟩ y1).setCell ⟨b, 2, none⟩ y2).setCell ⟨b, 3, none⟩ y3).setCell ⟨b, 4, none⟩ y4) b #[y0, y1, y2, y3, y4] T := by
  have := ((((h.set 0 y0).set 1 y1).set 2 y2).set 3 y3).set 4 y4
  simpa using this

set_option maxRecDepth 100000 in
set_option maxHeartbeats 12800000 in
theorem lists_law (a0 : Option Addr) (n c0 : Nat) (l : List AskV) (w0 : World) (ho : AsksAt w0 (.slice a0 n c0) l) (hn : n ≤ maxLen) :
    Calls Try.prog 6 #[.slice a0 n c0] w0 fun e w' => e = .returned (.bool true) ∧ Below w0.heap.size w0 w' := by
  obtain ⟨q1, hat⟩ := ho.at
  have hn2 : n ≤ l.length := by omega
  have hn3 : l.length ≤ n := by omega
  have hn4 : n ≤ 9223372036854775807 := hn
  clear q1
  have HAT := Lib.hid hat; clear hat ho
  go_enter Try.func6, Try.ntmps6
  go_wp2_with fail
  refine (new_at w0).mono ?_
  rintro e w1 ⟨m, W1, rfl, hm1, hb1, hn1⟩
  have HM1 := Lib.hid hm1; clear hm1
  have HB1 := Lib.hid hb1; clear hb1
  have HN1 := Lib.hid hn1; clear hn1
  go_wp2_with fail
  refine (known_any w1).mono ?_
  rintro e w2 ⟨rfl, hb2⟩
  have HM2 := Lib.hid (HM1.out.below hb2)
  have HB2 := Lib.hid (HB1.out.trans (hb2.mono HB1.out.size)); clear hb2
  clear HM1 HB1
  go_wp2_with fail
  go_loopw [4, 5] (fun g i wr => ∃ k : Nat, k ≤ n ∧ i = .int .i64 (k : Int) ∧ ∃ S W, g = .int .i64 (S.next - 1) ∧ ModelAt wr m S W ∧ Good S ∧ (∀ x, W x → w0.heap.size ≤ x) ∧ Below w0.heap.size w0 wr) (fun _ i _ => n - (intOf i).toNat)
  case atStart => exact ⟨0, by omega, rfl, ⟨[], 1⟩, W1, rfl, HM2.out, Good.start, HN1.out, HB2.out⟩
  case round =>
    obtain ⟨k, hk, rfl, S, W, rfl, hm, hg, hW, hb⟩ := hrel
    have HM := Lib.hid hm; clear hm
    have HG := Lib.hid hg; clear hg
    have HW := Lib.hid hW; clear hW
    have HB := Lib.hid hb; clear hb
    clear HM2 HB2 HN1
    obtain ⟨g0, hg0⟩ : ∃ g0, g0 = S.next - 1 := ⟨_, rfl⟩
    rw [← hg0]
    have HG0 := Lib.hid hg0; clear hg0
    by_cases hlt : k < n
    rotate_left
    · obtain rfl : n = k := by omega
      have hkk : ¬ (n : Int) < (n : Int) := by omega
      go_wp2
      go_ret
      exact ⟨rfl, HB.out⟩
    have hkn : (k : Int) < (n : Int) := by omega
    have hk0 : (0 : Int) ≤ (k : Int) := by omega
    obtain ⟨⟨t, dv, st0, dn0⟩, hy⟩ : ∃ y, l[k]? = some y := ⟨l[k]'(by omega), by simp [show k < l.length by omega]⟩
    obtain ⟨⟨b, o, rfl, hbl, hcells⟩, ⟨hbytes, hfm⟩, hdl⟩ := HAT.out k _ hy
    dsimp only at hbytes hfm hdl
    obtain ⟨da, dc, rfl, hdc⟩ := hfm
    obtain ⟨dn, hdn⟩ : ∃ dn, dn = t.data.length := ⟨_, rfl⟩
    rw [← hdn] at hbytes hdc hcells
    clear hy
    have hAS : AskS b o k t (.slice da dn dc) st0 dn0 wr := (AskS.of (y := ⟨t, .slice da dn dc, st0, dn0⟩) hcells).below HB.out hbl
    have HA0 := Lib.hid (AskS.of (y := ⟨t, .slice da dn dc, st0, dn0⟩) hcells)
    have HSTEP := Lib.hid (ls_step S t st0 dn0)
    have HGD := Lib.hid (HG.out.doS t st0 dn0)
    obtain ⟨⟨⟨qc, qt, sq, kq, dq⟩, Sq⟩, hq⟩ : ∃ q, q = doS S t st0 dn0 := ⟨_, rfl⟩
    rw [← hq] at HSTEP HGD
    dsimp only at HSTEP HGD
    have hDO : ∀ V, ModelAt V m S W → Below w0.heap.size w0 V → Calls Try.prog 13 #[.pointer (some ⟨m, 0, none⟩), .agg (t.cells (.slice da dn dc)), .int .i64 st0, .int .i64 dn0] V fun e w' => ∃ r W', e = .returned (.agg (replyCells t sq kq r)) ∧ Owns V.heap.size w' r dq ∧ ModelAt w' m Sq W' ∧ Keeps W V w' ∧ ∀ k, W' k → W k ∨ V.heap.size ≤ k := fun V hv hb => by
      have := do_at m S W t (.slice da dn dc) st0 dn0 V hv HG.out (hbytes.later hb) ⟨da, dc, by rw [hdn], by omega⟩ hdl
      rw [← hq] at this
      exact this
    clear hq
    dsimp only [replyCells] at hDO
    unfold Tk.cells at hDO
    have HDO := Lib.hid hDO; clear hDO hbytes hcells
    have HDN := Lib.hid hdn; clear hdn
    have hkz : (((k : Int))).toNat = k := by omega
    obtain ⟨rn, hrn⟩ : ∃ rn, rn = dq.length := ⟨_, rfl⟩
    have HRN := Lib.hid hrn; clear hrn
    go_upto_region 8 with fail
    go_cut [6] from 23 to 201 (fun v wx => ∃ ab ra rc W', v = .pointer (some ⟨ab, 0, none⟩) ∧ CellsAt wx ab #[.int .i64 t.cmd, .int .i64 t.tag, .int .i64 sq, .int .i64 kq, .slice ra rn rc] 35 ∧ Owns w0.heap.size wx (.slice ra rn rc) dq ∧ w0.heap.size ≤ ab ∧ ModelAt wx m Sq W' ∧ (∀ x, W' x → w0.heap.size ≤ x) ∧ Below w0.heap.size w0 wx)
    case first =>
      as_aux_lemma =>
          skip
          refine wp_region_held_drew (S := AskS b o k t (.slice da dn dc) st0 dn0) (by kernel_rfl) hAS.drew (fun hHeld => ?_)
          refine wpAnyH_take (i := 0) (v := (.pointer (some ⟨m, 0, none⟩))) ops_at0 (by kernel_rfl) (by kernel_rfl) (by kernel_rfl) (fun _ _ _ h => h) (Or.inl ⟨by rfl, fun V hV => ?_⟩) hHeld ?_
          · go_simp
          simp only [Act.put, List.setIfInBounds_toArray, List.set_cons_zero, List.set_cons_succ]
          refine wpAnyH_take (i := 1) (v := .slice (some ⟨b, o, none⟩) n c0) ops_at1 (by kernel_rfl) (by kernel_rfl) (by kernel_rfl) (fun _ _ _ h => h) (Or.inl ⟨by rfl, fun V hV => ?_⟩) hHeld ?_
          · go_simp
          simp only [Act.put, List.setIfInBounds_toArray, List.set_cons_zero, List.set_cons_succ]
          refine wpAnyH_take (i := 2) (v := .int .i64 (k : Int)) ops_at2 (by kernel_rfl) (by kernel_rfl) (by kernel_rfl) (fun _ _ _ h => h) (Or.inl ⟨by rfl, fun V hV => ?_⟩) hHeld ?_
          · go_simp
          simp only [Act.put, List.setIfInBounds_toArray, List.set_cons_zero, List.set_cons_succ]
          refine wpAnyH_take (i := 3) (v := (.pointer (some ⟨b, o + k * 13, none⟩))) ops_at3 (by kernel_rfl) (by kernel_rfl) (by kernel_rfl) (fun _ _ _ h => h) (Or.inl ⟨by rfl, fun V hV => ?_⟩) hHeld ?_
          · go_simp
          simp only [Act.put, List.setIfInBounds_toArray, List.set_cons_zero, List.set_cons_succ]
          refine wpAnyH_take (i := 4) (v := (.pointer (some ⟨b, o + k * 13, none⟩))) ops_at4 (by kernel_rfl) (by kernel_rfl) (by kernel_rfl) (fun _ _ _ h => h) (Or.inl ⟨by rfl, fun V hV => ?_⟩) hHeld ?_
          · go_simp
          simp only [Act.put, List.setIfInBounds_toArray, List.set_cons_zero, List.set_cons_succ]
          refine wpAnyH_take (i := 5) (v := .agg #[.int .i64 t.cmd, .int .i64 t.tag, .int .i64 t.op, .bool t.ord, .bool t.fua, .int .i64 t.vol, .int .i64 t.lba, .int .i64 t.cnt, .int .i64 t.siz, .int .i64 t.quo, .slice da dn dc]) ops_at5 (by kernel_rfl) (by kernel_rfl) (by kernel_rfl) (fun _ _ _ h => h) (Or.inl ⟨by rfl, fun V hV => ?_⟩) hHeld ?_
          · have hq := hV.cells
            obtain ⟨q0, q1, q2, q3, q4, q5, q6, q7, q8, q9, q10, q11, q12⟩ := hq
            go_simp
          simp only [Act.put, List.setIfInBounds_toArray, List.set_cons_zero, List.set_cons_succ]
          refine wpAnyH_take (i := 6) (v := .slice (some ⟨b, o, none⟩) n c0) ops_at6 (by kernel_rfl) (by kernel_rfl) (by kernel_rfl) (fun _ _ _ h => h) (Or.inl ⟨by rfl, fun V hV => ?_⟩) hHeld ?_
          · go_simp
          simp only [Act.put, List.setIfInBounds_toArray, List.set_cons_zero, List.set_cons_succ]
          refine wpAnyH_take (i := 7) (v := .int .i64 (k : Int)) ops_at7 (by kernel_rfl) (by kernel_rfl) (by kernel_rfl) (fun _ _ _ h => h) (Or.inl ⟨by rfl, fun V hV => ?_⟩) hHeld ?_
          · go_simp
          simp only [Act.put, List.setIfInBounds_toArray, List.set_cons_zero, List.set_cons_succ]
          refine wpAnyH_take (i := 8) (v := (.pointer (some ⟨b, o + k * 13, none⟩))) ops_at8 (by kernel_rfl) (by kernel_rfl) (by kernel_rfl) (fun _ _ _ h => h) (Or.inl ⟨by rfl, fun V hV => ?_⟩) hHeld ?_
          · go_simp
          simp only [Act.put, List.setIfInBounds_toArray, List.set_cons_zero, List.set_cons_succ]
          refine wpAnyH_take (i := 9) (v := (.pointer (some ⟨b, o + k * 13 + 11, none⟩))) ops_at9 (by kernel_rfl) (by kernel_rfl) (by kernel_rfl) (fun _ _ _ h => h) (Or.inl ⟨by rfl, fun V hV => ?_⟩) hHeld ?_
          · go_simp
          simp only [Act.put, List.setIfInBounds_toArray, List.set_cons_zero, List.set_cons_succ]
          refine wpAnyH_take (i := 10) (v := .int .i64 st0) ops_at10 (by kernel_rfl) (by kernel_rfl) (by kernel_rfl) (fun _ _ _ h => h) (Or.inl ⟨by rfl, fun V hV => ?_⟩) hHeld ?_
          · have hq := hV.cells
            obtain ⟨q0, q1, q2, q3, q4, q5, q6, q7, q8, q9, q10, q11, q12⟩ := hq
            go_simp
          simp only [Act.put, List.setIfInBounds_toArray, List.set_cons_zero, List.set_cons_succ]
          refine wpAnyH_take (i := 11) (v := .slice (some ⟨b, o, none⟩) n c0) ops_at11 (by kernel_rfl) (by kernel_rfl) (by kernel_rfl) (fun _ _ _ h => h) (Or.inl ⟨by rfl, fun V hV => ?_⟩) hHeld ?_
          · go_simp
          simp only [Act.put, List.setIfInBounds_toArray, List.set_cons_zero, List.set_cons_succ]
          refine wpAnyH_take (i := 12) (v := .int .i64 (k : Int)) ops_at12 (by kernel_rfl) (by kernel_rfl) (by kernel_rfl) (fun _ _ _ h => h) (Or.inl ⟨by rfl, fun V hV => ?_⟩) hHeld ?_
          · go_simp
          simp only [Act.put, List.setIfInBounds_toArray, List.set_cons_zero, List.set_cons_succ]
          refine wpAnyH_take (i := 13) (v := (.pointer (some ⟨b, o + k * 13, none⟩))) ops_at13 (by kernel_rfl) (by kernel_rfl) (by kernel_rfl) (fun _ _ _ h => h) (Or.inl ⟨by rfl, fun V hV => ?_⟩) hHeld ?_
          · go_simp
          simp only [Act.put, List.setIfInBounds_toArray, List.set_cons_zero, List.set_cons_succ]
          refine wpAnyH_take (i := 14) (v := (.pointer (some ⟨b, o + k * 13 + 12, none⟩))) ops_at14 (by kernel_rfl) (by kernel_rfl) (by kernel_rfl) (fun _ _ _ h => h) (Or.inl ⟨by rfl, fun V hV => ?_⟩) hHeld ?_
          · go_simp
          simp only [Act.put, List.setIfInBounds_toArray, List.set_cons_zero, List.set_cons_succ]
          refine wpAnyH_take (i := 15) (v := .int .i64 dn0) ops_at15 (by kernel_rfl) (by kernel_rfl) (by kernel_rfl) (fun _ _ _ h => h) (Or.inl ⟨by rfl, fun V hV => ?_⟩) hHeld ?_
          · have hq := hV.cells
            obtain ⟨q0, q1, q2, q3, q4, q5, q6, q7, q8, q9, q10, q11, q12⟩ := hq
            go_simp
          simp only [Act.put, List.setIfInBounds_toArray, List.set_cons_zero, List.set_cons_succ]
          refine wpAnyH_ready (rs := [16, 17]) (by kernel_rfl) (by simp) ?_
          refine AllReadyH.cons ops_at16 (fun K hK => ?_) (AllReadyH.cons ops_at17 (fun K hK => ?_) AllReadyH.nil)
          · rw [if_pos (by rfl)]
            go_simp
            refine (HDO.out wr.drew (HM.out.kept (Keeps.refl _ wr).drew) HB.out.drew).mono ?_
            rintro e V1 ⟨r, W', rfl, hown, hm1, hk1, hn1⟩
            obtain ⟨ra, rc, rfl, _⟩ := hown.bytes.form
            rw [← HRN.out] at hown ⊢
            have hb1 : Below w0.heap.size wr V1 := ((Keeps.refl (fun _ => False) wr).drew.mono (G := W) (fun _ _ h => h.elim) |>.trans hk1 (fun _ _ h => h)).below HB.out.size (fun x hx h => by have := HW.out x h; omega)
            have hAS1 := hAS.below hb1 (by omega)
            go_wp2_with fail
            refine hK.out _ _ hAS1 (fun hHeld => ?_)
            clear hK K
            refine wpAnyH_ready (rs := [17]) (by kernel_rfl) (by simp) ?_
            refine AllReadyH.cons ops_at17 (fun K hK => ?_) AllReadyH.nil
            rw [if_pos (by rfl)]
            go_simp
            have hb2 : Below w0.heap.size wr (V1.alloc (.cells #[.int .i64 0, .int .i64 0, .int .i64 0, .int .i64 0, .slice none 0 0] 35)) := hb1.alloc (Nat.le_trans HB.out.size hb1.size) _
            refine hK.out _ _ (hAS.below hb2 (by omega)) (fun hHeld => ?_)
            clear hK K
            refine wpAnyH_ready (rs := [18]) (by kernel_rfl) (by simp) ?_
            refine AllReadyH.cons ops_at18 (fun K hK => ?_) AllReadyH.nil
            rw [if_pos (by rfl)]
            go_simp
            have hb3 : Below w0.heap.size wr (V1.alloc (.cells #[.int .i64 t.cmd, .int .i64 t.tag, .int .i64 sq, .int .i64 kq, .slice ra rn rc] 35)) := hb1.alloc (Nat.le_trans HB.out.size hb1.size) _
            refine hK.out _ _ (hAS.below hb3 (by omega)) (fun hHeld => ?_)
            clear hK K
            have hk3 : Keeps (fun _ => False) V1 (V1.alloc (.cells #[.int .i64 t.cmd, .int .i64 t.tag, .int .i64 sq, .int .i64 kq, .slice ra rn rc] 35)) := (Keeps.refl _ V1).alloc _
            have hz0 : w0.heap.size ≤ V1.heap.size := Nat.le_trans HB.out.size hb1.size
            have hz1 : w0.heap.size ≤ wr.heap.size := HB.out.size
            have hz2 : wr.drew.heap.size = wr.heap.size := rfl
            refine wpAnyH_done (by kernel_rfl) ?_ _
            go_wp2_with fail
            go_meet
            exact ⟨_, ra, rc, W', rfl, heap_at rfl, Owns.mono (hk3.owns hown (fun _ _ h => h)) (by omega), hz0, hm1.kept hk3, fun x hx => (hn1 x hx).elim (HW.out x) (fun h => by omega), HB.out.trans hb3⟩
          · rw [if_pos (by rfl)]
            go_simp
            obtain ⟨V0, hV0⟩ : ∃ V0, V0 = (wr.alloc (.cells #[.int .i64 0, .int .i64 0, .int .i64 0, .int .i64 0, .slice none 0 0] 35)).drew := ⟨_, rfl⟩
            rw [← hV0]
            have hk0 : Keeps (fun _ => False) wr V0 := by rw [hV0]; exact ((Keeps.refl _ wr).alloc _).drew
            have hc0 : CellsAt V0 wr.heap.size #[.int .i64 0, .int .i64 0, .int .i64 0, .int .i64 0, .slice none 0 0] 35 := by rw [hV0]; show CellsAt (wr.alloc _) _ _ _; exact heap_at rfl
            have hz0 : w0.heap.size ≤ wr.heap.size := HB.out.size
            have hzV : wr.heap.size < V0.heap.size := hc0.lt
            have hb0 : Below w0.heap.size wr V0 := hk0.below hz0 (fun _ _ h => h)
            clear hV0
            refine hK.out _ _ (hAS.below hb0 (by omega)) (fun hHeld => ?_)
            clear hK K
            refine wpAnyH_ready (rs := [16]) (by kernel_rfl) (by simp) ?_
            refine AllReadyH.cons ops_at16 (fun K hK => ?_) AllReadyH.nil
            rw [if_pos (by rfl)]
            go_simp
            refine (HDO.out V0 (HM.out.kept hk0) (HB.out.trans hb0)).mono ?_
            rintro e V1 ⟨r, W', rfl, hown, hm1, hk1, hn1⟩
            obtain ⟨ra, rc, rfl, _⟩ := hown.bytes.form
            rw [← HRN.out] at hown ⊢
            have hWab : ¬ W wr.heap.size := fun h => by have := HM.out.lt _ h; omega
            have hb1 : Below w0.heap.size wr V1 := hb0.trans (hk1.below (by omega) (fun x hx h => by have := HW.out x h; omega))
            have hc2 := hc0.keeps hk1 hWab
            go_wp2_with fail
            refine hK.out _ _ (hAS.below hb1 (by omega)) (fun hHeld => ?_)
            clear hK K
            refine wpAnyH_ready (rs := [18]) (by kernel_rfl) (by simp) ?_
            refine AllReadyH.cons ops_at18 (fun K hK => ?_) AllReadyH.nil
            rw [if_pos (by rfl)]
            obtain ⟨ab, hab⟩ : ∃ ab, ab = wr.heap.size := ⟨_, rfl⟩
            rw [← hab] at hc2 hWab ⊢
            have hab0 : w0.heap.size ≤ ab := by omega
            have hab1 : ab < V0.heap.size := by omega
            clear hab
            have f0 := hc2.free 0
            have f1 := hc2.free 1
            have f2 := hc2.free 2
            have f3 := hc2.free 3
            have f4 := hc2.free 4
            have e0 := hc2.cell 0
            have e1 := hc2.cell 1
            have e2 := hc2.cell 2
            have e3 := hc2.cell 3
            have e4 := hc2.cell 4
            simp only [List.getElem?_toArray, List.getElem?_cons_zero, List.getElem?_cons_succ] at e0 e1 e2 e3 e4
            go_simp
            obtain ⟨V3, hV3⟩ : ∃ V3, V3 = ((((V1.setCell ⟨ab, 0, none⟩ (.int .i64 t.cmd)).setCell ⟨ab, 1, none⟩ (.int .i64 t.tag)).setCell ⟨ab, 2, none⟩ (.int .i64 sq)).setCell ⟨ab, 3, none⟩ (.int .i64 kq)).setCell ⟨ab, 4, none⟩ (.slice ra rn rc) := ⟨_, rfl⟩
            rw [← hV3]
            have hc3 : CellsAt V3 ab #[.int .i64 t.cmd, .int .i64 t.tag, .int .i64 sq, .int .i64 kq, .slice ra rn rc] 35 := by rw [hV3]; exact box_set hc2 _ _ _ _ _
            have hk3 : Keeps (fun x => x = ab) V1 V3 := by rw [hV3]; exact (((((Keeps.refl (fun x => x = ab) V1).setCell (p := ⟨ab, 0, none⟩) (fun _ => rfl) _).setCell (p := ⟨ab, 1, none⟩) (fun _ => rfl) _).setCell (p := ⟨ab, 2, none⟩) (fun _ => rfl) _).setCell (p := ⟨ab, 3, none⟩) (fun _ => rfl) _).setCell (p := ⟨ab, 4, none⟩) (fun _ => rfl) _
            clear hV3 f0 f1 f2 f3 f4 e0 e1 e2 e3 e4
            skip
            have hb3 : Below w0.heap.size wr V3 := hb1.trans (hk3.below (Nat.le_trans hz0 hb1.size) (fun x hx h => by omega))
            refine hK.out _ _ (hAS.below hb3 (by omega)) (fun hHeld => ?_)
            clear hK K
            have ho3 : Owns w0.heap.size V3 (.slice ra rn rc) dq := Owns.mono (hk3.owns hown (fun g hg e => by have := (Owns.from hown g hg).1; omega)) (by omega)
            have hm3 : ModelAt V3 m Sq W' := hm1.keeps hk3 (fun x hx e => by rcases hn1 x hx with h | h; exact hWab (e ▸ h); omega) (fun x cur hx e => by subst e; unfold CellsAt at hc2; rw [hc2] at hx; simp at hx)
            refine wpAnyH_done (by kernel_rfl) ?_ _
            go_wp2_with fail
            go_meet
            exact ⟨_, ra, rc, W', rfl, hc3, ho3, hab0, hm3, fun x hx => (hn1 x hx).elim (HW.out x) (fun h => by omega), HB.out.trans hb3⟩
    obtain ⟨ab, ra, rc, W2, rfl, hbox, hown, hab0, hm2, hW2, hb2⟩ := hcut
    have HC := Lib.hid hbox; clear hbox
    have HO := Lib.hid hown; clear hown
    have HM2 := Lib.hid hm2; clear hm2
    have HW2 := Lib.hid hW2; clear hW2
    have HB2 := Lib.hid hb2; clear hb2
    clear HM HW HB HDO hAS
    obtain ⟨mb, hmb⟩ : ∃ mb : Bool, mb = decide (t.op = 6 ∨ t.op = 7) := ⟨_, rfl⟩
    obtain ⟨cb, hcb⟩ : ∃ cb : Bool, cb = (mb && (sq == 0)) := ⟨_, rfl⟩
    obtain ⟨db, hdb⟩ : ∃ db : Bool, db = ((sq == 12) && mb) := ⟨_, rfl⟩
    obtain ⟨g1, hg1⟩ : ∃ g1 : Int, g1 = if cb = true then S.next else g0 := ⟨_, rfl⟩
    have HLB := Lib.hid (ls_bools HSTEP.out mb cb db g0 g1 hmb hcb hdb HG0.out hg1); clear HSTEP
    have HMB := Lib.hid hmb; clear hmb
    have HCB := Lib.hid hcb; clear hcb
    have HDB := Lib.hid hdb; clear hdb
    have HG1 := Lib.hid hg1; clear hg1
    go_upto_region 9 with fail
    go_cut [7] from 23 to 201 (fun v wx => v = .bool mb ∧ wc = wx)
    case first =>
      as_aux_lemma =>
        obtain ⟨_, _, q2, _⟩ := (HA0.out.below HB2.out hbl).cells
        by_cases o6 : t.op = 6
        · have b6 : (t.op == 6) = true := by simp [o6]
          have hl : mb = true := by rw [HMB.out]; simp [o6]
          have HL := Lib.hid hl; clear hl o6
          go_wp2_with fail
          go_meet
          exact ⟨by rw [HL.out], rfl⟩
        by_cases o7 : t.op = 7
        · have b6 : (t.op == 6) = false := by simp [o6]
          have b7 : (t.op == 7) = true := by simp [o7]
          have hl : mb = true := by rw [HMB.out]; simp [o7]
          have HL := Lib.hid hl; clear hl o6 o7
          go_wp2_with fail
          go_meet
          exact ⟨by rw [HL.out], rfl⟩
        · have b6 : (t.op == 6) = false := by simp [o6]
          have b7 : (t.op == 7) = false := by simp [o7]
          have hl : mb = false := by rw [HMB.out]; simp [o6, o7]
          have HL := Lib.hid hl; clear hl o6 o7
          go_wp2_with fail
          go_meet
          exact ⟨by rw [HL.out], rfl⟩
    obtain ⟨rfl, rfl⟩ := hcut
    clear HMB
    have a2 := HC.out.cell 2
    simp only [List.getElem?_toArray, List.getElem?_cons_zero, List.getElem?_cons_succ] at a2
    go_upto_region 10 with fail
    go_cut [67] from 23 to 201 (fun v wx => v = .bool cb ∧ wc = wx)
    case first =>
      as_aux_lemma =>
        cases mb with
        | false =>
          go_wp2_with fail
          go_meet
          exact ⟨by rw [HCB.out]; rfl, rfl⟩
        | true =>
          by_cases hs : sq = 0
          · have bs : (sq == 0) = true := by simp [hs]
            have hl : cb = true := by rw [HCB.out, bs]; rfl
            have HL := Lib.hid hl; clear hl hs
            go_wp2_with fail
            go_meet
            exact ⟨by rw [HL.out], rfl⟩
          · have bs : (sq == 0) = false := by simp [hs]
            have hl : cb = false := by rw [HCB.out, bs]; rfl
            have HL := Lib.hid hl; clear hl hs
            go_wp2_with fail
            go_meet
            exact ⟨by rw [HL.out], rfl⟩
    obtain ⟨rfl, rfl⟩ := hcut
    go_upto_if 67 with fail
    go_cut [4, 8, 9] from 23 to 201 (fun g x y wx => g = .int .i64 g1 ∧ wc = wx)
    case first =>
      as_aux_lemma =>
        cases cb with
        | false =>
          go_wp2_with fail
          go_meet
          exact ⟨by rw [HG1.out]; rfl, rfl⟩
        | true =>
          obtain ⟨hdq, hs0⟩ : dq = fourB S.next.toNat ∧ sq = 0 := ⟨HLB.out.1 rfl, by have := HCB.out; rw [eq_comm, Bool.and_eq_true] at this; simpa using this.2⟩
          have hn0 := HG.out.next0
          have hn1 := HG.out.next1
          have hrn : rn = 4 := by rw [HRN.out, hdq]; rfl
          subst hrn
          clear hs0
          rcases HO.out.bytes with ⟨e0, _⟩ | ⟨gq, off, cp, e1, hcl⟩
          · rw [e0] at hdq; exact absurd hdq (by simp [fourB])
          injection e1 with e1 e2 e3
          subst e1
          clear e2 e3
          have HCL := Lib.hid hcl; clear hcl
          have HDQ := Lib.hid hdq; clear hdq
          have hsm : ∀ j, dq.getD j 0 < 256 := fun j => by rw [HDQ.out]; exact fourB_small (by omega) j
          have HSM := Lib.hid hsm; clear hsm
          have hfin : ((decB dq 0 4 : Nat) : Int) = S.next := by
            rw [decB_four dq 0 S.next.toNat (by omega) (fun j _ => by rw [HDQ.out, Nat.zero_add])]; omega
          have HFIN := Lib.hid hfin; clear hfin
          have hgg : g1 = S.next := by rw [HG1.out]; rfl
          have HGG := Lib.hid hgg; clear hgg
          have a4 := HC.out.cell 4
          simp only [List.getElem?_toArray, List.getElem?_cons_zero, List.getElem?_cons_succ] at a4
          go_wp2_with fail
          go_loopw [8, 9] (fun d i wy => ∃ j : Nat, j ≤ 4 ∧ i = .int .i64 (j : Int) ∧ d = .int .i64 ((decB dq 0 j : Nat) : Int) ∧ wc = wy) (fun _ i _ => 4 - (intOf i).toNat)
          case atStart => exact ⟨0, by omega, rfl, rfl, rfl⟩
          case round =>
            obtain ⟨j, hj, rfl, rfl, rfl⟩ := hrel
            obtain ⟨D, hD⟩ : ∃ D, D = decB dq 0 j := ⟨_, rfl⟩
            rw [← hD]
            have hDl : D < 4294967296 := by rw [hD]; exact decB_small HSM.out 0 j hj
            have HD := Lib.hid hD; clear hD
            by_cases hj4 : j < 4
            · have hj4' : (j : Int) < 4 := by omega
              have hj0 : (0 : Int) ≤ (j : Int) := by omega
              obtain ⟨X, hX⟩ : ∃ X, X = dq.getD j 0 := ⟨_, rfl⟩
              have hXl : X < 256 := by rw [hX]; exact HSM.out j
              have x1 : wc.cell? ⟨gq, off + j, none⟩ = some (.int .u8 (X : Nat)) := by rw [hX]; exact HCL.out j (by rw [HDQ.out]; exact hj4)
              have HX := Lib.hid hX; clear hX
              have hw1 : IntKind.i64.wrap (256 * (D : Int)) = 256 * (D : Int) := IntWalk.i64_in _ (by omega)
              have hw2 : IntKind.i64.wrap (256 * (D : Int) + (X : Int)) = 256 * (D : Int) + (X : Int) := IntWalk.i64_in _ (by omega)
              have hw3 : IntKind.i64.wrap (X : Int) = (X : Int) := IntWalk.i64_in _ (by omega)
              go_wp2
              go_roundw
              case rel => refine ⟨j + 1, by omega, by simp, by rw [HD.out, HX.out]; simp [decB], ?_⟩; first | rfl | trivial
              case measure => simp only [intOf]; omega
            · obtain rfl : j = 4 := by omega
              have hDf : (D : Int) = S.next := by rw [HD.out]; exact HFIN.out
              have hle : ¬ ((D : Int) ≤ g0) := by have := HG0.out; omega
              have HDF := Lib.hid (show (D : Int) = g1 by rw [HGG.out]; exact hDf); clear hDf
              go_wp2_with fail
              go_meet
              exact ⟨by rw [HDF.out], rfl⟩
    obtain ⟨rfl, rfl⟩ := hcut
    obtain ⟨g2, hg2⟩ : ∃ g2 : Int, g2 = Sq.next - 1 := ⟨_, rfl⟩
    have HG2 := Lib.hid hg2; clear hg2
    have hn0 := HGD.out.next0
    have hn1 := HGD.out.next1
    go_upto_region 19 with fail
    go_cut [99] from 23 to 201 (fun v wx => v = .bool db ∧ wc = wx)
    case first =>
      as_aux_lemma =>
        by_cases hs : sq = 12
        · have bs : (sq == 12) = true := by simp [hs]
          have hl : db = mb := by rw [HDB.out, bs]; rfl
          have HL := Lib.hid hl; clear hl hs
          go_wp2_with fail
          go_meet
          exact ⟨by rw [HL.out], rfl⟩
        · have bs : (sq == 12) = false := by simp [hs]
          have hl : db = false := by rw [HDB.out, bs]; rfl
          have HL := Lib.hid hl; clear hl hs
          go_wp2_with fail
          go_meet
          exact ⟨by rw [HL.out], rfl⟩
    obtain ⟨rfl, rfl⟩ := hcut
    clear a2
    go_upto_if 99 with fail
    go_cut [4] from 23 to 201 (fun g wx => g = .int .i64 g2 ∧ wc = wx)
    case first =>
      as_aux_lemma =>
        cases db with
        | false =>
          have hl : g1 = g2 := by rw [HG2.out]; exact HLB.out.2.1 rfl
          have HL := Lib.hid hl; clear hl
          go_wp2_with fail
          go_meet
          exact ⟨by rw [HL.out], rfl⟩
        | true =>
          have hl : g1 + 1 = g2 := by rw [HG2.out]; exact HLB.out.2.2 rfl
          have hw : IntKind.i64.wrap (g1 + 1) = g1 + 1 := IntWalk.i64_in _ (by have := HG2.out; omega)
          have HL := Lib.hid hl; clear hl
          go_wp2_with fail
          go_meet
          exact ⟨by rw [HL.out], rfl⟩
    obtain ⟨rfl, rfl⟩ := hcut
    clear HLB HG1 HCB HDB HC HO HRN HDN hk0 hkz hdc hdl
    have HDO2 := Lib.hid (fun (V : World) (hV : ModelAt V m Sq W2) => do_at m Sq W2 ⟨0, 0, 10, false, false, 0, 0, 0, 0, 0, []⟩ (.slice none 0 0) 0 0 V hV HGD.out (.inl ⟨rfl, none, 0, rfl, fun _ => rfl⟩) ⟨none, 0, rfl, Nat.le_refl _⟩ (by simp))
    rw [list_told] at HDO2
    dsimp only [replyCells, Tk.cells] at HDO2
    have HTOLD := Lib.hid (fun (k : Nat) (v : Vo) (h : Sq.vols[k]? = some v) => HGD.out.told h)
    have HSML := Lib.hid (fun j => small_getD HGD.out.small j)
    have hVL := HGD.out.len
    have HVL := Lib.hid hVL; clear hVL
    have hsz0 : w0.heap.size ≤ wc.heap.size := HB2.out.size
    go_wp2_with fail
    refine (volumes_at m Sq W2 wc HM2.out HGD.out).mono ?_
    rintro e V1 ⟨rv, rfl, hrow, hk1⟩
    obtain ⟨al, nv, cl, rfl, hnv⟩ : ∃ a n c, rv = .slice a n c ∧ n = Sq.vols.length := by
      rcases hrow.2 with ⟨e, h0⟩ | ⟨g, cap, cur, e, _⟩
      · exact ⟨_, _, _, e, h0.symm⟩
      · exact ⟨_, _, _, e, rfl⟩
    rw [← hnv] at hrow
    have hnv8 : nv ≤ 8 := by have := HVL.out; omega
    have hnv1 : nv ≤ Sq.vols.length := by omega
    have hnv2 : Sq.vols.length ≤ nv := by omega
    have hll : (listS Sq.vols).length = 8 * nv := by rw [listS_length, hnv]
    obtain ⟨ln, hln⟩ : ∃ ln, ln = (listS Sq.vols).length := ⟨_, rfl⟩
    have hln8 : ln ≤ 8 * nv := by omega
    have hln9 : 8 * nv ≤ ln := by omega
    have HLN := Lib.hid hln; clear hln hll hnv
    have hrw : ∀ g, Value.ownBlock (.slice al nv cl) = some g → ¬ W2 g := fun g hg h => by have := (hrow.lt g hg).1; have := HM2.out.lt g h; omega
    obtain ⟨rb, hrb⟩ : ∃ rb, rb = wc.heap.size := ⟨_, rfl⟩
    rw [← hrb] at hrow
    clear hrb
    have HRW := Lib.hid hrw; have HROW := Lib.hid hrow; clear hrow hrw
    have HMv := Lib.hid (HM2.out.kept hk1)
    have HBv := Lib.hid (HB2.out.trans (hk1.below hsz0 (fun _ _ h => h)))
    have hsz1 := Nat.le_trans hsz0 hk1.size
    clear hk1 HM2 HB2 hsz0
    go_wp2_with fail
    refine (HDO2.out V1 HMv.out).mono ?_
    rintro e V2 ⟨r2, W3, rfl, hown, hm3, hk3, hn3⟩
    obtain ⟨rl, rlc, rfl, _⟩ := hown.bytes.form
    rw [← HLN.out] at hown ⊢
    have HW3 := Lib.hid (show ∀ x, W3 x → w0.heap.size ≤ x from fun x hx => (hn3 x hx).elim (HW2.out x) (fun h => by omega)); clear hn3
    obtain ⟨bb, hbb⟩ : ∃ bb, bb = V2.heap.size := ⟨_, rfl⟩
    obtain ⟨V3, hV3⟩ : ∃ V3, V3 = V2.alloc (.cells #[.int .i64 0, .int .i64 0, .int .i64 0, .int .i64 0, .slice rl ln rlc] 35) := ⟨_, rfl⟩
    have hk4 : Keeps (fun _ => False) V2 V3 := by rw [hV3]; exact (Keeps.refl _ V2).alloc _
    have HX3 := Lib.hid (show CellsAt V3 bb #[.int .i64 0, .int .i64 0, .int .i64 0, .int .i64 0, .slice rl ln rlc] 35 by rw [hV3, hbb]; exact heap_at rfl)
    have HO3 := Lib.hid (Owns.mono (hk4.owns hown (fun _ _ h => h)) hsz1)
    have HM3 := Lib.hid (hm3.kept hk4)
    have HR3 := Lib.hid (hk4.owns (hk3.owns HROW.out HRW.out) (fun _ _ h => h))
    have HB3 := Lib.hid ((HBv.out.trans (hk3.below hsz1 (fun x hx h => by have := HW2.out x h; omega))).trans (hk4.below (Nat.le_trans hsz1 hk3.size) (fun _ _ h => h)))
    clear hown hm3 hk3 HMv HBv HROW HW2 HDO2 HRW
    go_upto_region 23 with fail
    rw [← hV3, ← hbb]
    clear hV3 hbb hk4 hsz1
    have a4 := HX3.out.cell 4
    simp only [List.getElem?_toArray, List.getElem?_cons_zero, List.getElem?_cons_succ] at a4
    have hb1 : ((ln : Int) != 8 * (nv : Int)) = false := by rw [bne_eq_false_iff_eq]; omega
    have hw8 : IntKind.i64.wrap (8 * (nv : Int)) = 8 * (nv : Int) := IntWalk.i64_in _ (by omega)
    have hg8 : decide ((8 : Int) < (nv : Int)) = false := decide_eq_false (by omega)
    go_wp2_with fail
    clear hb1 hw8 hg8 a4
    go_loopw [12, 13, 14, 15] (fun i d1 d2 q wy => ∃ x : Nat, x ≤ nv ∧ i = .int .i64 (x : Int) ∧ CellsAt wy bb #[.int .i64 0, .int .i64 0, .int .i64 0, .int .i64 0, .slice rl ln rlc] 35 ∧ Owns w0.heap.size wy (.slice rl ln rlc) (listS Sq.vols) ∧ ModelAt wy m Sq W3 ∧ wy.ownsRow rb 45 6 (.slice al nv cl) nv (volsV Sq.vols) ∧ Below w0.heap.size w0 wy) (fun i _ _ _ _ => nv - (intOf i).toNat)
    case atStart => exact ⟨0, by omega, rfl, HX3.out, HO3.out, HM3.out, HR3.out, HB3.out⟩
    case round =>
      obtain ⟨x, hx, rfl, hx3, ho3, hm3, hr3, hb3⟩ := hrel
      clear HX3 HO3 HM3 HR3 HB3
      have HX3 := Lib.hid hx3; clear hx3
      have HO3 := Lib.hid ho3; clear ho3
      have HM3 := Lib.hid hm3; clear hm3
      have HR3 := Lib.hid hr3; clear hr3
      have HB3 := Lib.hid hb3; clear hb3
      by_cases hxn : x < nv
      rotate_left
      · obtain rfl : nv = x := by omega
        have hkk : ¬ (nv : Int) < (nv : Int) := by omega
        have HG2' := HG2.out
        go_wp2
        go_roundw
        case rel => exact ⟨k + 1, by omega, by simp, Sq, W3, by rw [HG2.out], HM3.out, HGD.out, HW3.out, HB3.out⟩
        case measure => simp only [intOf]; omega
      have hxn' : (x : Int) < (nv : Int) := by omega
      have hx0 : (0 : Int) ≤ (x : Int) := by omega
      obtain ⟨v, hv⟩ : ∃ v, Sq.vols[x]? = some v := ⟨Sq.vols[x]'(by omega), by simp [show x < Sq.vols.length by omega]⟩
      have HT := Lib.hid (HTOLD.out x v hv)
      have HV := Lib.hid hv; clear hv
      obtain ⟨gl, rfl⟩ : ∃ gl, al = some ⟨gl, 0, none⟩ := by
        rcases HR3.out.2 with ⟨e, h0⟩ | ⟨g, cap, cur, e, _⟩
        · omega
        · injection e with e1; exact ⟨g, e1⟩
      obtain ⟨go, off, cp, hgo⟩ : ∃ go off cp, Value.slice rl ln rlc = .slice (some ⟨go, off, none⟩) ln cp ∧ ∀ i, i < ln → wr.cell? ⟨go, off + i, none⟩ = some (.int .u8 ((listS Sq.vols).getD i 0 : Nat)) := by
        rcases HO3.out.bytes with ⟨e0, _⟩ | ⟨gq, off, cp, e1, hcl⟩
        · have := HLN.out; rw [e0] at this; simp at this; omega
        · rw [← HLN.out] at e1 hcl; exact ⟨_, _, _, e1, hcl⟩
      obtain ⟨e1, hcl⟩ := hgo
      injection e1 with e1 e2 e3
      subst e1
      clear e2 e3
      have HCL := Lib.hid hcl; clear hcl
      have a4 := HX3.out.cell 4
      simp only [List.getElem?_toArray, List.getElem?_cons_zero, List.getElem?_cons_succ] at a4
      go_wp2_with fail
      go_loopw [13, 14, 15] (fun d1 d2 i wy => ∃ j : Nat, j ≤ 4 ∧ i = .int .i64 (j : Int) ∧ d1 = .int .i64 ((decB (listS Sq.vols) (8 * x) j : Nat) : Int) ∧ d2 = .int .i64 ((decB (listS Sq.vols) (8 * x + 4) j : Nat) : Int) ∧ wr = wy) (fun _ _ i _ => 4 - (intOf i).toNat)
      case atStart => exact ⟨0, by omega, rfl, rfl, rfl, rfl⟩
      case round =>
        obtain ⟨j, hj, rfl, rfl, rfl, rfl⟩ := hrel
        obtain ⟨D1, hD1⟩ : ∃ D1, D1 = decB (listS Sq.vols) (8 * x) j := ⟨_, rfl⟩
        rw [← hD1]
        obtain ⟨D2, hD2⟩ : ∃ D2, D2 = decB (listS Sq.vols) (8 * x + 4) j := ⟨_, rfl⟩
        rw [← hD2]
        have hDl1 : D1 < 4294967296 := by rw [hD1]; exact decB_small HSML.out _ j hj
        have hDl2 : D2 < 4294967296 := by rw [hD2]; exact decB_small HSML.out _ j hj
        have HD1 := Lib.hid hD1; clear hD1
        have HD2 := Lib.hid hD2; clear hD2
        by_cases hj4 : j < 4
        · have hj4' : (j : Int) < 4 := by omega
          have hj0 : (0 : Int) ≤ (j : Int) := by omega
          obtain ⟨X, hX⟩ : ∃ X, X = (listS Sq.vols).getD (8 * x + j) 0 := ⟨_, rfl⟩
          obtain ⟨Y, hY⟩ : ∃ Y, Y = (listS Sq.vols).getD (8 * x + 4 + j) 0 := ⟨_, rfl⟩
          have hXl : X < 256 := by rw [hX]; exact HSML.out _
          have hYl : Y < 256 := by rw [hY]; exact HSML.out _
          have x1 : wr.cell? ⟨go, off + (8 * x + j), none⟩ = some (.int .u8 (X : Nat)) := by rw [hX]; exact HCL.out _ (by omega)
          have y1 : wr.cell? ⟨go, off + (8 * x + 4 + j), none⟩ = some (.int .u8 (Y : Nat)) := by rw [hY]; exact HCL.out _ (by omega)
          have HX := Lib.hid hX; clear hX
          have HY := Lib.hid hY; clear hY
          have hi1 : (8 * (x : Int) + (j : Int)) < (ln : Int) := by omega
          have hi2 : (8 * (x : Int) + 4 + (j : Int)) < (ln : Int) := by omega
          have hi3 : (0 : Int) ≤ 8 * (x : Int) + (j : Int) := by omega
          have hi4 : (0 : Int) ≤ 8 * (x : Int) + 4 + (j : Int) := by omega
          have hn1' : (8 * (x : Int) + (j : Int)).toNat = 8 * x + j := by omega
          have hn2' : (8 * (x : Int) + 4 + (j : Int)).toNat = 8 * x + 4 + j := by omega
          have hw1 : IntKind.i64.wrap (256 * (D1 : Int)) = 256 * (D1 : Int) := IntWalk.i64_in _ (by omega)
          have hw2 : IntKind.i64.wrap (256 * (D1 : Int) + (X : Int)) = 256 * (D1 : Int) + (X : Int) := IntWalk.i64_in _ (by omega)
          have hw3 : IntKind.i64.wrap (X : Int) = (X : Int) := IntWalk.i64_in _ (by omega)
          have hv1 : IntKind.i64.wrap (256 * (D2 : Int)) = 256 * (D2 : Int) := IntWalk.i64_in _ (by omega)
          have hv2 : IntKind.i64.wrap (256 * (D2 : Int) + (Y : Int)) = 256 * (D2 : Int) + (Y : Int) := IntWalk.i64_in _ (by omega)
          have hv3 : IntKind.i64.wrap (Y : Int) = (Y : Int) := IntWalk.i64_in _ (by omega)
          have hz1 : IntKind.i64.wrap (8 * (x : Int)) = 8 * (x : Int) := IntWalk.i64_in _ (by omega)
          have hz2 : IntKind.i64.wrap (8 * (x : Int) + (j : Int)) = 8 * (x : Int) + (j : Int) := IntWalk.i64_in _ (by omega)
          have hz3 : IntKind.i64.wrap (8 * (x : Int) + 4) = 8 * (x : Int) + 4 := IntWalk.i64_in _ (by omega)
          have hz4 : IntKind.i64.wrap (8 * (x : Int) + 4 + (j : Int)) = 8 * (x : Int) + 4 + (j : Int) := IntWalk.i64_in _ (by omega)
          go_wp2
          go_roundw
          case rel => refine ⟨j + 1, by omega, by simp, by rw [HD1.out, HX.out]; simp [decB], by rw [HD2.out, HY.out]; simp [decB], ?_⟩; first | rfl | trivial
          case measure => simp only [intOf]; omega
        obtain rfl : j = 4 := by omega
        have hE1 : (D1 : Int) = v.id := by rw [HD1.out, HT.out.id]; have := HT.out.id0; omega
        have hE2 : (D2 : Int) = v.size := by rw [HD2.out, HT.out.size]; have := HT.out.size0; omega
        rw [hE1, hE2]
        clear hE1 hE2 hDl1 hDl2 HD1 HD2
        have q0 := (World.ownsRow.cellAt HR3.out (x * 6 + 0) (by omega)).trans (volsV_get Sq.vols x 0 v HV.out (by omega))
        have q2 := (World.ownsRow.cellAt HR3.out (x * 6 + 2) (by omega)).trans (volsV_get Sq.vols x 2 v HV.out (by omega))
        have q3 := (World.ownsRow.cellAt HR3.out (x * 6 + 3) (by omega)).trans (volsV_get Sq.vols x 3 v HV.out (by omega))
        have q5 := (World.ownsRow.cellAt HR3.out (x * 6 + 5) (by omega)).trans (volsV_get Sq.vols x 5 v HV.out (by omega))
        simp only [vcell, List.getElem?_cons_zero, List.getElem?_cons_succ, Nat.add_zero] at q0 q2 q3 q5
        have hgt : ¬ g2 < v.id := by have := HT.out.id1; have := HG2.out; omega
        have hrm : ¬ v.quota < (v.bl.length : Int) := by have := HT.out.room; omega
        have hxz : ((x : Int)).toNat = x := by omega
        obtain ⟨nb, hnb⟩ : ∃ nb, nb = v.bl.length := ⟨_, rfl⟩
        rw [← hnb] at q5 hrm
        clear hnb
        go_upto_region 35 with fail
        go_cut [201] from 119 to 201 (fun b wx => b = .bool false ∧ ∃ d, wx = wr.drewN d)
        case first =>
          as_aux_lemma =>
            by_cases hx1 : 0 < x
            · obtain ⟨u, hu⟩ : ∃ u, Sq.vols[x - 1]? = some u := ⟨Sq.vols[x - 1]'(by omega), by simp [show x - 1 < Sq.vols.length by omega]⟩
              have hris : ¬ v.id ≤ u.id := by have := HT.out.rise u hx1 hu; omega
              have p0 := (World.ownsRow.cellAt HR3.out ((x - 1) * 6 + 0) (by omega)).trans (volsV_get Sq.vols (x - 1) 0 u hu (by omega))
              simp only [vcell, List.getElem?_cons_zero, Nat.add_zero] at p0
              clear hu
              have hx1' : (0 : Int) < (x : Int) := by omega
              have hwx : IntKind.i64.wrap ((x : Int) - 1) = (x : Int) - 1 := IntWalk.i64_in _ (by omega)
              have hxm0 : (0 : Int) ≤ (x : Int) - 1 := by omega
              have hxm1 : (x : Int) - 1 < (nv : Int) := by omega
              have hxmz : ((x : Int) - 1).toNat = x - 1 := by omega
              have t1 : decide ((0 : Int) < (x : Int)) = true := by simpa using hx1'
              have t2 : decide (v.id ≤ u.id) = false := by simpa using hris
              have t3 : decide (g2 < v.id) = false := by simpa using hgt
              go_quiet (fail)
              go_wp2_with fail
              go_meet
              exact ⟨rfl, _, rfl⟩
            · have hx1' : ¬ (0 : Int) < (x : Int) := by omega
              have t1 : decide ((0 : Int) < (x : Int)) = false := by simpa using hx1'
              have t3 : decide (g2 < v.id) = false := by simpa using hgt
              go_quiet (fail)
              go_wp2_with fail
              go_meet
              exact ⟨rfl, _, rfl⟩
        obtain ⟨rfl, dd, rfl⟩ := hcut
        clear q0 q2 q3 q5 hgt hrm a4
        go_wp2
        go_roundw
        case rel => exact ⟨x + 1, by omega, by simp, HX3.out.keeps ((Keeps.refl (fun _ => False) _).drewN _) id, ((Keeps.refl (fun _ => False) _).drewN _).owns HO3.out (fun _ _ h => h), HM3.out.kept ((Keeps.refl _ _).drewN _), ((Keeps.refl (fun _ => False) _).drewN _).owns HR3.out (fun _ _ h => h), below_drewN HB3.out _⟩
        case measure => simp only [intOf]; omega
end Go.Proofs.Ytmanldcohbegkaa
