/-
  ModelBlocks: the walk. (Written by gen_mdblocks.py.)
-/
import Derived.Test.YtmanldcohbegkaaMdBlkMath
import Derived.Test.YtmanldcohbegkaaMdBox
import Derived.RegionTactic
import Derived.ChangeAlike
import Derived.BigQuiet
namespace Go.Proofs.Ytmanldcohbegkaa
open Go.RowKit

set_option maxRecDepth 100000 in
set_option maxHeartbeats 12800000 in
theorem blocks_law (a0 : Option Addr) (n c0 : Nat) (l : List AskV) (w0 : World) (ho : AsksAt w0 (.slice a0 n c0) l) (hn : n ≤ maxLen) :
    Calls Try.prog 4 #[.slice a0 n c0] w0 fun e w' => e = .returned (.bool true) ∧ Below w0.heap.size w0 w' := by
  obtain ⟨q1, hat⟩ := ho.at
  have hn2 : n ≤ l.length := by omega
  have hn3 : l.length ≤ n := by omega
  have hn4 : n ≤ 9223372036854775807 := hn
  clear q1
  have HAT := Lib.hid hat; clear hat ho
  go_enter Try.func4, Try.ntmps4
  go_wp2_with fail
  refine (new_at w0).mono ?_
  rintro e w1 ⟨m, W1, rfl, hm1, hb1, hn1⟩
  have HM1 := Lib.hid hm1; clear hm1
  have HB1 := Lib.hid hb1; clear hb1
  have HN1 := Lib.hid hn1; clear hn1
  go_wp2_with fail
  refine (known_any w1).mono ?_
  rintro e w2 ⟨rfl, hb2⟩
  have HM2 := Lib.hid (HM1.out.below hb2)
  have HB2 := Lib.hid (HB1.out.trans (hb2.mono HB1.out.size)); clear hb2
  clear HM1 HB1
  go_wp2_with fail
  have HDO0 := Lib.hid (do_at m ⟨[], 1⟩ W1 ⟨0, 0, 6, false, false, 0, 0, 0, 16, 16, []⟩ (.slice none 0 0) 0 0 w2 HM2.out Good.start (.inl ⟨rfl, none, 0, rfl, fun _ => rfl⟩) ⟨none, 0, rfl, Nat.le_refl _⟩ (by simp))
  have HONE := Lib.hid blk_start
  obtain ⟨⟨⟨qc0, qt0, sq0, kq0, dq0⟩, S0⟩, hq0⟩ : ∃ q, q = doS ⟨[], 1⟩ ⟨0, 0, 6, false, false, 0, 0, 0, 16, 16, []⟩ 0 0 := ⟨_, rfl⟩
  rw [← hq0] at HDO0 HONE
  clear hq0
  dsimp only [replyCells] at HDO0 HONE
  refine HDO0.out.mono ?_
  rintro e w3 ⟨r0, W3, rfl, _, hm3, hk3, hn3b⟩
  have HN3 := Lib.hid (fun x (hx : W3 x) => (hn3b x hx).elim (HN1.out x) (fun h => Nat.le_trans HB2.out.size h)); clear hn3b
  have HB3 := Lib.hid (HB2.out.trans (hk3.below HB2.out.size (fun x hx h => by have := HN1.out x h; omega))); clear hk3 HM2 HB2 HN1 HDO0
  obtain ⟨w4, hw4⟩ : ∃ w4, w4 = w3.alloc (.cells #[.int .u8 0, .int .u8 0, .int .u8 0, .int .u8 0, .int .u8 0, .int .u8 0, .int .u8 0, .int .u8 0, .int .u8 0, .int .u8 0, .int .u8 0, .int .u8 0, .int .u8 0, .int .u8 0, .int .u8 0, .int .u8 0] 42) := ⟨_, rfl⟩
  have hk4 : Keeps (fun _ => False) w3 w4 := by rw [hw4]; exact (Keeps.refl _ w3).alloc _
  have HF4 := Lib.hid (show FillAt w4 w3.heap.size (zeros 16) by rw [hw4]; exact heap_at rfl)
  obtain ⟨fb, hfb⟩ : ∃ fb, fb = w3.heap.size := ⟨_, rfl⟩
  have hfb0 : w0.heap.size ≤ fb := by rw [hfb]; exact HB3.out.size
  have HN4 := Lib.hid (show ∀ x, W3 x → w0.heap.size ≤ x ∧ x ≠ fb from fun x hx => ⟨HN3.out x hx, by have := hm3.lt x hx; omega⟩)
  have HM4 := Lib.hid (hm3.kept hk4)
  have HB4 := Lib.hid (HB3.out.trans (hk4.below HB3.out.size (fun _ _ h => h)))
  clear hm3 hk4 HN3 HB3
  go_upto_region 6 with fail
  rw [← hw4, ← hfb]
  rw [← hfb] at HF4
  clear hw4 hfb
  go_wp2_with fail
  go_loopw [5] (fun i wr => ∃ k : Nat, k ≤ n ∧ i = .int .i64 (k : Int) ∧ ∃ S W bl fl, ModelAt wr m S W ∧ One S bl ∧ FillAt wr fb fl ∧ fl.length = 16 ∧ (∀ p, p < 16 → fl.getD p 0 = b0 bl p) ∧ (∀ x, W x → w0.heap.size ≤ x ∧ x ≠ fb) ∧ Below w0.heap.size w0 wr) (fun i _ => n - (intOf i).toNat)
  case atStart => exact ⟨0, by omega, rfl, S0, W3, [], zeros 16, HM4.out, HONE.out, HF4.out, rfl, fun p _ => by rw [zeros_getD, b0_nil], HN4.out, HB4.out⟩
  case round =>
    obtain ⟨k, hk, rfl, S, W, bl, fl, hm, ho, hf, hfl, hv, hW, hb⟩ := hrel
    have HM := Lib.hid hm; clear hm
    have HO := Lib.hid ho; clear ho
    have HF := Lib.hid hf; clear hf
    have HV := Lib.hid hv; clear hv
    have HW := Lib.hid hW; clear hW
    have HB := Lib.hid hb; clear hb
    clear HM4 HONE HF4 HN4 HB4
    have hfl1 : fl.length ≤ 16 := by omega
    have hfl2 : 16 ≤ fl.length := by omega
    clear hfl
    by_cases hlt : k < n
    · have hkn : (k : Int) < (n : Int) := by omega
      have hk0 : (0 : Int) ≤ (k : Int) := by omega
      obtain ⟨⟨t, dv, st0, dn0⟩, hy⟩ : ∃ y, l[k]? = some y := ⟨l[k]'(by omega), by simp [show k < l.length by omega]⟩
      obtain ⟨⟨b, o, rfl, hbl, hcells⟩, ⟨hbytes, hfm⟩, hdl⟩ := HAT.out k _ hy
      dsimp only at hbytes hfm hdl
      obtain ⟨da, dc, rfl, hdc⟩ := hfm
      obtain ⟨dn, hdn⟩ : ∃ dn, dn = t.data.length := ⟨_, rfl⟩
      rw [← hdn] at hbytes hdc hcells
      have HDN := Lib.hid hdn; clear hdn
      clear hy
      have hBw : Below w0.heap.size w0 wr := HB.out
      have hAS : AskS b o k t (.slice da dn dc) st0 dn0 wr := (AskS.of (y := ⟨t, .slice da dn dc, st0, dn0⟩) hcells).below hBw hbl
      obtain ⟨q0, q1, q2, q3, q4, q5, q6, q7, q8, q9, q10, q11, q12⟩ := hAS.cells
      clear q11 q12 hAS hcells
      have hkz : ((k : Int)).toNat = k := by omega
      obtain ⟨tb, htb⟩ : ∃ tb, tb = wr.heap.size := ⟨_, rfl⟩
      obtain ⟨V1, hV1⟩ : ∃ V1, V1 = wr.alloc (.cells (t.cells (.slice da dn dc)) 30) := ⟨_, rfl⟩
      have hk1 : Keeps (fun _ => False) wr V1 := by rw [hV1]; exact (Keeps.refl _ wr).alloc _
      have hc1 : CellsAt V1 tb (t.cells (.slice da dn dc)) 30 := by rw [hV1, htb]; exact heap_at rfl
      have htb1 : tb < V1.heap.size := hc1.lt
      have htb0 : w0.heap.size ≤ tb := by rw [htb]; exact HB.out.size
      have htbz : wr.heap.size ≤ tb := Nat.le_of_eq htb.symm
      have htbf : tb ≠ fb := by have : fb < wr.heap.size := CellsAt.lt HF.out; omega
      have htbW : ∀ x, W x → x ≠ tb := fun x hx => by have := HM.out.lt x hx; omega
      unfold Tk.cells at hV1
      go_upto_region 10 with fail
      rw [← hV1, ← htb]
      clear hV1 htb q0 q1 q2 q3 q4 q5 q6 q7 q8 q9 q10
      have p5 := hc1.cell 5
      have pf := hc1.free 5
      simp only [Tk.cells, List.getElem?_toArray, List.getElem?_cons_zero, List.getElem?_cons_succ] at p5
      obtain ⟨V2, hV2⟩ : ∃ V2, V2 = V1.setCell ⟨tb, 5, none⟩ (.int .i64 1) := ⟨_, rfl⟩
      obtain ⟨t1, ht1⟩ : ∃ t1 : Tk, t1 = ⟨t.cmd, t.tag, t.op, t.ord, t.fua, 1, t.lba, t.cnt, t.siz, t.quo, t.data⟩ := ⟨_, rfl⟩
      have HT2 := Lib.hid (show CellsAt V2 tb (t1.cells (.slice da dn dc)) 30 by rw [hV2, ht1]; exact hc1.set 5 _)
      have hk2 : Keeps (fun x => x = tb) V1 V2 := by rw [hV2]; exact (Keeps.refl (fun x => x = tb) V1).setCell (p := ⟨tb, 5, none⟩) (fun _ => rfl) _
      have hk12 : Keeps (fun _ => False) wr V2 := ⟨hk2.os.trans hk1.os, hk2.tape.trans hk1.tape, hk2.output.trans hk1.output, Nat.le_trans hk1.size hk2.size, fun x hx h => (hk2.block x (Nat.lt_of_lt_of_le hx hk1.size) (by omega)).trans (hk1.block x hx h)⟩
      go_upto_region 11 with fail
      rw [← hV2]
      clear hV2 p5 pf hc1
      have HM2 := Lib.hid (HM.out.kept hk12)
      have HF2 := Lib.hid (HF.out.other hk12 id)
      have HB2 := Lib.hid (HB.out.trans (hk12.below HB.out.size (fun _ _ h => h)))
      have htb2 : tb < V2.heap.size := HT2.out.lt
      clear hk1 hk2 hk12 HM HF HB htb1
      have ht1v : t1.vol = 1 := by rw [ht1]
      have ht1d : t1.data = t.data := by rw [ht1]
      have HT1 := Lib.hid ht1; clear ht1
      have HTV := Lib.hid ht1v; clear ht1v
      rw [← ht1d] at HDN hdl hbytes
      clear ht1d
      go_cut [40] from 33 to 40 (fun v wx => ((v = .bool true ∧ ¬ (t1.op = 3 ∨ t1.op = 5)) ∨ (v = .bool false ∧ (t1.op = 3 ∨ t1.op = 5))) ∧ V2 = wx)
      case first =>
        have p2 := HT2.out.cell 2
        simp only [Tk.cells, List.getElem?_toArray, List.getElem?_cons_zero, List.getElem?_cons_succ] at p2
        by_cases o3 : t1.op = 3
        · have b3 : (t1.op != 3) = false := by simp [o3]
          have HO3 := Lib.hid o3; clear o3
          go_wp2_with fail
          go_meet
          exact ⟨.inr ⟨rfl, .inl HO3.out⟩, rfl⟩
        by_cases o5 : t1.op = 5
        · have b3 : (t1.op != 3) = true := by simp [o3]
          have b5 : (t1.op != 5) = false := by simp [o5]
          have HO3 := Lib.hid o5; clear o5 o3
          go_wp2_with fail
          go_meet
          exact ⟨.inr ⟨rfl, .inr HO3.out⟩, rfl⟩
        · have b3 : (t1.op != 3) = true := by simp [o3]
          have b5 : (t1.op != 5) = true := by simp [o5]
          have HO3 := Lib.hid (show ¬ (t1.op = 3 ∨ t1.op = 5) by simp [o3, o5]); clear o5 o3
          go_wp2_with fail
          go_meet
          exact ⟨.inl ⟨rfl, HO3.out⟩, rfl⟩
      obtain ⟨hcut, rfl⟩ := hcut
      rcases hcut with ⟨rfl, hno⟩ | ⟨rfl, h35⟩
      · clear hno
        go_wp2
        go_roundw
        case rel => exact ⟨k + 1, by omega, by simp, S, W, bl, fl, HM2.out, HO.out, HF2.out, by omega, HV.out, HW.out, HB2.out⟩
        case measure => simp only [intOf]; omega
      have H35 := Lib.hid h35; clear h35
      have hDO := do_at m S W t1 (.slice da dn dc) 0 0 V2 HM2.out HO.out.good (hbytes.later HB2.out) ⟨da, dc, by rw [← HDN.out], by rw [← HDN.out]; exact hdc⟩ hdl
      obtain ⟨bl2, hone2, hst⟩ := blk_step HO.out t1 HTV.out H35.out
      obtain ⟨⟨⟨qc, qt, sq, kq, dq⟩, Sq⟩, hq⟩ : ∃ q, q = doS S t1 0 0 := ⟨_, rfl⟩
      rw [← hq] at hDO hone2 hst
      clear hq
      dsimp only at hone2 hst
      dsimp only [replyCells] at hDO
      have HO2 := Lib.hid hone2; clear hone2
      have HST := Lib.hid hst; clear hst
      have cT := fun j => HT2.out.cell j
      unfold Tk.cells at cT hDO
      have HDO := Lib.hid hDO; clear hDO
      go_wp2_with fail
      refine HDO.out.mono ?_
      rintro e V3 ⟨r, Wq, rfl, hown, hm3, hk3, hn3c⟩
      clear HDO cT
      obtain ⟨ra, rc, rfl, _⟩ := hown.bytes.form
      clear hown
      obtain ⟨rn, hrn⟩ : ∃ rn, rn = dq.length := ⟨_, rfl⟩
      rw [← hrn]
      clear hrn
      obtain ⟨ab, hab⟩ : ∃ ab, ab = V3.heap.size := ⟨_, rfl⟩
      obtain ⟨V4, hV4⟩ : ∃ V4, V4 = V3.alloc (.cells #[.int .i64 t1.cmd, .int .i64 t1.tag, .int .i64 sq, .int .i64 kq, .slice ra rn rc] 35) := ⟨_, rfl⟩
      have hk4 : Keeps (fun _ => False) V3 V4 := by rw [hV4]; exact (Keeps.refl _ V3).alloc _
      have HA4 := Lib.hid (show CellsAt V4 ab #[.int .i64 t1.cmd, .int .i64 t1.tag, .int .i64 sq, .int .i64 kq, .slice ra rn rc] 35 by rw [hV4, hab]; exact heap_at rfl)
      have hBw0 : w0.heap.size ≤ V2.heap.size := HB2.out.size
      have HT4 := Lib.hid (CellsAt.keeps (HT2.out.keeps hk3 (fun h => htbW _ h rfl)) hk4 id)
      have HF4 := Lib.hid ((HF2.out.other hk3 (fun h => (HW.out _ h).2 rfl)).other hk4 id)
      have HM4 := Lib.hid (hm3.kept hk4)
      have HB4 := Lib.hid ((HB2.out.trans (hk3.below hBw0 (fun x hx h => by have := (HW.out x h).1; omega))).trans (hk4.below (Nat.le_trans hBw0 hk3.size) (fun _ _ h => h)))
      have HW4 := Lib.hid (show ∀ x, Wq x → w0.heap.size ≤ x ∧ x ≠ fb from fun x hx => (hn3c x hx).elim (HW.out x) (fun h => ⟨by omega, by have : fb < V2.heap.size := CellsAt.lt HF2.out; omega⟩))
      have habf : ab ≠ fb := by have : fb < V2.heap.size := CellsAt.lt HF2.out; have := hk3.size; omega
      clear hk3 hm3 hn3c HM2 HF2 HB2 HT2 htbW htb2
      go_upto_region 13 with fail
      rw [← hV4, ← hab]
      clear hV4 hab hk4
      have a2 := HA4.out.cell 2
      simp only [List.getElem?_toArray, List.getElem?_cons_zero, List.getElem?_cons_succ] at a2
      rcases HST.out with ⟨hs0, hbl2⟩ | ⟨hs0, a, c, hlba, hcnt, hc1, hc8, hac, hdat, hval⟩
      · have bs : (sq != 0) = true := by simp [hs0]
        clear HST hs0
        subst hbl2
        go_wp2
        go_roundw
        case rel => exact ⟨k + 1, by omega, by simp, Sq, Wq, _, fl, HM4.out, HO2.out, HF4.out, by omega, HV.out, HW4.out, HB4.out⟩
        case measure => simp only [intOf]; omega
      subst hs0
      clear HST
      have HVAL := Lib.hid hval; clear hval
      have HDAT := Lib.hid hdat; clear hdat
      obtain ⟨v, hvd⟩ : ∃ v : Nat → Nat, v = fun j => if t1.op = 3 then t1.data.getD (j * 64) 0 else 0 := ⟨_, rfl⟩
      have HVD := Lib.hid hvd; clear hvd
      have HFN := Lib.hid HF4.out
      go_wp2_with fail
      go_loopw [8] (fun i wy => ∃ y : Nat, y ≤ c ∧ i = .int .i64 (y : Int) ∧ FillAt wy fb (upd fl a v y) ∧ Keeps (fun x => x = fb) V4 wy) (fun i _ => c - (intOf i).toNat)
      case atStart => exact ⟨0, by omega, rfl, HF4.out, Keeps.refl _ _⟩
      case round =>
        obtain ⟨y, hy, rfl, hf, hk5⟩ := hrel
        clear HF4 a2
        have HF := Lib.hid hf; clear hf
        have cT := fun j => (HT4.out.keeps hk5 htbf).cell j
        have t2 := cT 2
        have t6 := cT 6
        have t7 := cT 7
        have t10 := cT 10
        clear cT
        simp only [Tk.cells, List.getElem?_toArray, List.getElem?_cons_zero, List.getElem?_cons_succ] at t2 t6 t7 t10
        rw [hlba] at t6
        rw [hcnt] at t7
        have HK5 := Lib.hid hk5; clear hk5
        by_cases hyc : y < c
        · have hyc' : (y : Int) < (c : Int) := by omega
          have hay0 : (0 : Int) ≤ (a : Int) + (y : Int) := by omega
          have hay1 : (a : Int) + (y : Int) < 16 := by omega
          have hayz : ((a : Int) + (y : Int)).toNat = a + y := by omega
          have hlen : (upd fl a v y).length = fl.length := upd_length _ _ _ _
          have fc := FillAt.cell HF.out (a + y) (by omega)
          have ff := FillAt.free HF.out (a + y)
          obtain ⟨V6, hV6⟩ : ∃ V6, V6 = wr.setCell ⟨fb, a + y, none⟩ (.int .u8 0) := ⟨_, rfl⟩
          have HF6 := Lib.hid (show FillAt V6 fb ((upd fl a v y).set (a + y) 0) by rw [hV6]; exact HF.out.set (a + y) 0)
          have hk6 : Keeps (fun x => x = fb) wr V6 := by rw [hV6]; exact (Keeps.refl (fun x => x = fb) wr).setCell (p := ⟨fb, a + y, none⟩) (fun _ => rfl) _
          have s2 := (hk6.cell (p := ⟨tb, 2, none⟩) (block_lt t2) htbf).trans t2
          have s6 := (hk6.cell (p := ⟨tb, 6, none⟩) (block_lt t6) htbf).trans t6
          have s10 := (hk6.cell (p := ⟨tb, 10, none⟩) (block_lt t10) htbf).trans t10
          go_upto_region 18 with fail
          rw [← hV6]
          clear hV6 fc ff t2 t6 t10 t7
          have HK6 := Lib.hid (HK5.out.trans hk6 (fun _ _ h => h)); clear hk6 HK5
          by_cases h3 : t1.op = 3
          · have b3 : (t1.op == 3) = true := by simp [h3]
            have hdn2 : dn = c * 64 := by rw [HDN.out]; exact HDAT.out h3
            have hvy : v y = t1.data.getD (y * 64) 0 := by rw [HVD.out]; exact if_pos h3
            skip
            rcases hbytes with ⟨e0, _⟩ | ⟨g, off, cp, e1, hcl⟩
            · exfalso; have := HDN.out; rw [e0] at this; simp at this; omega
            injection e1 with e1 e2 e3
            subst e1
            have hgz := block_lt (hcl 0 (by omega))
            have hgf : g ≠ fb := by intro e; have : g < w0.heap.size := hgz; omega
            have x1 : V6.cell? ⟨g, off + y * 64, none⟩ = some (.int .u8 (v y : Nat)) := by
              rw [hvy]
              have h1 := hcl (y * 64) (by omega)
              exact (HK6.out.cell (p := ⟨g, off + y * 64, none⟩) (Nat.lt_of_lt_of_le hgz HB4.out.size) hgf).trans ((HB4.out.cell (p := ⟨g, off + y * 64, none⟩) hgz).trans h1)
            have hyd : (64 : Int) * (y : Int) < (dn : Int) := by omega
            have hyd0 : (0 : Int) ≤ 64 * (y : Int) := by omega
            have hydz : ((64 : Int) * (y : Int)).toNat = y * 64 := by omega
            have fc6 := FillAt.cell HF6.out (a + y) (by rw [List.length_set]; omega)
            have ff6 := FillAt.free HF6.out (a + y)
            have H3 := Lib.hid h3; clear h3 hcl e2 e3 hvy
            have HDN2 := Lib.hid hdn2; clear hdn2
            have hwy : IntKind.i64.wrap ((a : Int) + (y : Int)) = (a : Int) + (y : Int) := IntWalk.i64_in _ (by omega)
            have hw64 : IntKind.i64.wrap (64 * (y : Int)) = 64 * (y : Int) := IntWalk.i64_in _ (by omega)
            go_upto_region 19 with fail
            refine wp_region_held_drew (S := fun V => V.cell? ⟨tb, 6, none⟩ = some (.int .i64 (a : Int)) ∧ V.cell? ⟨tb, 10, none⟩ = some (.slice (some ⟨g, off, none⟩) dn dc) ∧ V.cell? ⟨g, off + y * 64, none⟩ = some (.int .u8 (v y : Nat))) (by kernel_rfl) ⟨s6, s10, x1⟩ (fun hHeld => ?_)
            refine wpAnyH_take (i := 0) (v := .pointer (some ⟨tb, 6, none⟩)) ops_at0 (by kernel_rfl) (by kernel_rfl) (by kernel_rfl) (fun _ _ _ h => h) (Or.inl ⟨by rfl, fun V hV => ?_⟩) hHeld ?_
            · go_simp
            simp only [Act.put, List.setIfInBounds_toArray, List.set_cons_zero, List.set_cons_succ]
            refine wpAnyH_take (i := 1) (v := .int .i64 (a : Int)) ops_at1 (by kernel_rfl) (by kernel_rfl) (by kernel_rfl) (fun _ _ _ h => h) (Or.inl ⟨by rfl, fun V hV => ?_⟩) hHeld ?_
            · obtain ⟨z6, z10, zx⟩ := hV
              go_simp
            simp only [Act.put, List.setIfInBounds_toArray, List.set_cons_zero, List.set_cons_succ]
            refine wpAnyH_take (i := 2) (v := .int .i64 (y : Int)) ops_at2 (by kernel_rfl) (by kernel_rfl) (by kernel_rfl) (fun _ _ _ h => h) (Or.inl ⟨by rfl, fun V hV => ?_⟩) hHeld ?_
            · go_simp
            simp only [Act.put, List.setIfInBounds_toArray, List.set_cons_zero, List.set_cons_succ]
            refine wpAnyH_take (i := 3) (v := .int .i64 ((a : Int) + (y : Int))) ops_at3 (by kernel_rfl) (by kernel_rfl) (by kernel_rfl) (fun _ _ _ h => h) (Or.inl ⟨by rfl, fun V hV => ?_⟩) hHeld ?_
            · go_simp
            simp only [Act.put, List.setIfInBounds_toArray, List.set_cons_zero, List.set_cons_succ]
            refine wpAnyH_take (i := 4) (v := .pointer (some ⟨tb, 10, none⟩)) ops_at4 (by kernel_rfl) (by kernel_rfl) (by kernel_rfl) (fun _ _ _ h => h) (Or.inl ⟨by rfl, fun V hV => ?_⟩) hHeld ?_
            · go_simp
            simp only [Act.put, List.setIfInBounds_toArray, List.set_cons_zero, List.set_cons_succ]
            refine wpAnyH_take (i := 5) (v := .slice (some ⟨g, off, none⟩) dn dc) ops_at5 (by kernel_rfl) (by kernel_rfl) (by kernel_rfl) (fun _ _ _ h => h) (Or.inl ⟨by rfl, fun V hV => ?_⟩) hHeld ?_
            · obtain ⟨z6, z10, zx⟩ := hV
              go_simp
            simp only [Act.put, List.setIfInBounds_toArray, List.set_cons_zero, List.set_cons_succ]
            refine wpAnyH_take (i := 6) (v := .int .i64 (y : Int)) ops_at6 (by kernel_rfl) (by kernel_rfl) (by kernel_rfl) (fun _ _ _ h => h) (Or.inl ⟨by rfl, fun V hV => ?_⟩) hHeld ?_
            · go_simp
            simp only [Act.put, List.setIfInBounds_toArray, List.set_cons_zero, List.set_cons_succ]
            refine wpAnyH_take (i := 7) (v := .int .i64 (64 * (y : Int))) ops_at7 (by kernel_rfl) (by kernel_rfl) (by kernel_rfl) (fun _ _ _ h => h) (Or.inl ⟨by rfl, fun V hV => ?_⟩) hHeld ?_
            · go_simp
            simp only [Act.put, List.setIfInBounds_toArray, List.set_cons_zero, List.set_cons_succ]
            refine wpAnyH_take (i := 8) (v := .pointer (some ⟨g, off + y * 64, none⟩)) ops_at8 (by kernel_rfl) (by kernel_rfl) (by kernel_rfl) (fun _ _ _ h => h) (Or.inl ⟨by rfl, fun V hV => ?_⟩) hHeld ?_
            · go_simp
            simp only [Act.put, List.setIfInBounds_toArray, List.set_cons_zero, List.set_cons_succ]
            refine wpAnyH_take (i := 9) (v := .int .u8 (v y : Nat)) ops_at9 (by kernel_rfl) (by kernel_rfl) (by kernel_rfl) (fun _ _ _ h => h) (Or.inl ⟨by rfl, fun V hV => ?_⟩) hHeld ?_
            · obtain ⟨z6, z10, zx⟩ := hV
              go_simp
            simp only [Act.put, List.setIfInBounds_toArray, List.set_cons_zero, List.set_cons_succ]
            refine wpAnyH_take (i := 10) (v := .pointer (some ⟨fb, a + y, none⟩)) ops_at10 (by kernel_rfl) (by kernel_rfl) (by kernel_rfl) (fun _ _ _ h => h) (Or.inl ⟨by rfl, fun V hV => ?_⟩) hHeld ?_
            · go_simp
            simp only [Act.put, List.setIfInBounds_toArray, List.set_cons_zero, List.set_cons_succ]
            refine wpAnyH_ready (rs := [11]) (by kernel_rfl) (by simp) ?_
            refine AllReadyH.cons ops_at11 (fun K hK => ?_) AllReadyH.nil
            rw [if_pos (by rfl)]
            go_simp
            obtain ⟨V7, hV7⟩ : ∃ V7, V7 = (V6.setCell ⟨fb, a + y, none⟩ (.int .u8 (v y : Nat))).drew := ⟨_, rfl⟩
            rw [← hV7]
            have hk7 : Keeps (fun x => x = fb) V6 V7 := by rw [hV7]; exact ((Keeps.refl (fun x => x = fb) V6).setCell (p := ⟨fb, a + y, none⟩) (fun _ => rfl) _).drew
            have hf7 : FillAt V7 fb (((upd fl a v y).set (a + y) 0).set (a + y) (v y)) := by rw [hV7]; exact CellsAt.drew (FillAt.set HF6.out (a + y) (v y))
            rw [List.set_set] at hf7
            have HF7 := Lib.hid (show FillAt V7 fb (upd fl a v (y + 1)) from hf7); clear hf7
            have HK7 := Lib.hid (HK6.out.trans hk7 (fun _ _ h => h))
            have u6 := (hk7.cell (p := ⟨tb, 6, none⟩) (block_lt s6) htbf).trans s6
            have u10 := (hk7.cell (p := ⟨tb, 10, none⟩) (block_lt s10) htbf).trans s10
            have ux := (hk7.cell (p := ⟨g, off + y * 64, none⟩) (block_lt x1) hgf).trans x1
            clear hV7 hk7
            refine hK.out _ _ ⟨u6, u10, ux⟩ (fun hHeld => ?_)
            clear hK K
            refine wpAnyH_done (by kernel_rfl) ?_ _
            go_wp2
            go_roundw
            case rel => exact ⟨y + 1, by omega, by simp, HF7.out, HK7.out⟩
            case measure => simp only [intOf]; omega
          · have b3 : (t1.op == 3) = false := by simp [h3]
            have hvy : v y = 0 := by rw [HVD.out]; exact if_neg h3
            have HVY := Lib.hid hvy; clear hvy h3
            go_wp2
            go_roundw
            case rel => exact ⟨y + 1, by omega, by simp, by unfold upd; rw [HVY.out]; exact HF6.out, HK6.out⟩
            case measure => simp only [intOf]; omega
        · obtain rfl : c = y := by omega
          have hkk : ¬ (c : Int) < (c : Int) := by omega
          have HX := HF
          go_wp2
          go_roundw
          case rel => exact ⟨k + 1, by omega, by simp, Sq, Wq, bl2, upd fl a v c, HM4.out.keeps HK5.out (fun x hx => (HW4.out x hx).2) (fun x cur hx => HFN.out.notBytes x cur hx), HO2.out, HF.out, by rw [upd_length]; omega, fun p hp => by rw [upd_get _ _ _ _ (by omega), HVAL.out, HV.out p hp, HVD.out], HW4.out, HB4.out.trans (HK5.out.below HB4.out.size (fun x hx h => by omega))⟩
          case measure => simp only [intOf]; omega
    · obtain rfl : n = k := by omega
      have hkk : ¬ (n : Int) < (n : Int) := by omega
      have HM5 := HM; have HF5 := HF; have HW5 := HW; have HB5 := HB
      clear HM HF HW HB
      go_wp2_with fail
      go_loopw [9] (fun i wz => ∃ y : Nat, y ≤ 16 ∧ i = .int .i64 (y : Int) ∧ ∃ W', ModelAt wz m S W' ∧ FillAt wz fb fl ∧ (∀ x, W' x → w0.heap.size ≤ x ∧ x ≠ fb) ∧ Below w0.heap.size w0 wz) (fun i _ => 16 - (intOf i).toNat)
      case atStart => exact ⟨0, by omega, rfl, W, HM5.out, HF5.out, HW5.out, HB5.out⟩
      case round =>
        obtain ⟨y, hy, rfl, W', hm, hf, hW, hb⟩ := hrel
        clear HM5 HF5 HW5 HB5
        have HM := Lib.hid hm; clear hm
        have HF := Lib.hid hf; clear hf
        have HW := Lib.hid hW; clear hW
        have HB := Lib.hid hb; clear hb
        by_cases hyc : y < 16
        · have hy16 : (y : Int) < 16 := by omega
          have hy0 : (0 : Int) ≤ (y : Int) := by omega
          have hyz : ((y : Int)).toNat = y := by omega
          obtain ⟨dq, hrd, hdl, hd0⟩ := blk_read HO.out y hyc
          have hDO := do_at m S W' (rdTk 1 y) (.slice none 0 0) 0 0 wr HM.out HO.out.good (.inl ⟨rfl, none, 0, rfl, fun _ => rfl⟩) ⟨none, 0, rfl, Nat.le_refl _⟩ (by simp [rdTk])
          rw [hrd] at hDO
          dsimp only [replyCells, Tk.cells, rdTk] at hDO
          clear hrd
          have HDO := Lib.hid hDO; clear hDO
          obtain ⟨β, hβ⟩ : ∃ β, β = b0 bl y := ⟨_, rfl⟩
          rw [← hβ] at hd0
          have hv0 : fl.getD y 0 = β := (HV.out y hyc).trans hβ.symm
          clear hβ
          have HD0 := Lib.hid hd0; clear hd0
          have HV0 := Lib.hid hv0; clear hv0
          have HDL := Lib.hid hdl; clear hdl
          go_wp2_with fail
          refine HDO.out.mono ?_
          rintro e V1 ⟨r, W2, rfl, hown, hm1, hk1, hn1⟩
          clear HDO
          obtain ⟨ra, rc, rfl, _⟩ := hown.bytes.form
          rw [HDL.out]
          rcases hown.bytes with ⟨e0, _⟩ | ⟨g, off, cp, e1, hcl⟩
          · exfalso; have := HDL.out; rw [e0] at this; simp at this
          injection e1 with e1 e2 e3
          subst e1
          clear e2 e3
          have hx0 := hcl 0 (by rw [HDL.out]; omega)
          rw [HD0.out, Nat.add_zero] at hx0
          clear hcl hown
          have HX0 := Lib.hid hx0; clear hx0
          obtain ⟨ab, hab⟩ : ∃ ab, ab = V1.heap.size := ⟨_, rfl⟩
          obtain ⟨V2, hV2⟩ : ∃ V2, V2 = V1.alloc (.cells #[.int .i64 0, .int .i64 0, .int .i64 0, .int .i64 0, .slice (some ⟨g, off, none⟩) 64 rc] 35) := ⟨_, rfl⟩
          have hk2 : Keeps (fun _ => False) V1 V2 := by rw [hV2]; exact (Keeps.refl _ V1).alloc _
          have HA2 := Lib.hid (show CellsAt V2 ab #[.int .i64 0, .int .i64 0, .int .i64 0, .int .i64 0, .slice (some ⟨g, off, none⟩) 64 rc] 35 by rw [hV2, hab]; exact heap_at rfl)
          have hBw0 : w0.heap.size ≤ wr.heap.size := HB.out.size
          have hfbl : fb < wr.heap.size := CellsAt.lt HF.out
          have HF2 := Lib.hid ((HF.out.other hk1 (fun h => (HW.out _ h).2 rfl)).other hk2 id)
          have HM2 := Lib.hid (hm1.kept hk2)
          have HB2 := Lib.hid ((HB.out.trans (hk1.below hBw0 (fun x hx h => by have := (HW.out x h).1; omega))).trans (hk2.below (Nat.le_trans hBw0 hk1.size) (fun _ _ h => h)))
          have HW2 := Lib.hid (show ∀ x, W2 x → w0.heap.size ≤ x ∧ x ≠ fb from fun x hx => (hn1 x hx).elim (HW.out x) (fun h => ⟨by omega, by omega⟩))
          have x1 := (hk2.cell (p := ⟨g, off, none⟩) (block_lt HX0.out) id).trans HX0.out
          clear hk1 hm1 hn1 HX0
          go_upto_region 24 with fail
          rw [← hV2, ← hab]
          clear hV2 hab hk2
          have a2 := HA2.out.cell 2
          have a4 := HA2.out.cell 4
          simp only [List.getElem?_toArray, List.getElem?_cons_zero, List.getElem?_cons_succ] at a2 a4
          have f1 := FillAt.cell HF2.out y (by omega)
          rw [HV0.out] at f1
          clear HM HF HW HB
          go_quiet (fail)
          go_wp2
          go_roundw
          case rel => exact ⟨y + 1, by omega, by simp, W2, HM2.out.kept ((Keeps.refl _ V2).drewN _), HF2.out.other (F := fun _ => False) ((Keeps.refl _ V2).drewN _) id, HW2.out, below_drewN HB2.out _⟩
          case measure => simp only [intOf]; omega
        · obtain rfl : y = 16 := by omega
          go_wp2
          go_ret
          exact ⟨rfl, HB.out⟩
end Go.Proofs.Ytmanldcohbegkaa
