/-
  ModelPlays: the walk. (Written by gen_mdplays.py.)
-/
import Derived.Test.YtmanldcohbegkaaMdPlMath
import Derived.Test.YtmanldcohbegkaaMdBox
import Derived.RegionTactic
import Derived.ChangeAlike
namespace Go.Proofs.Ytmanldcohbegkaa
open Go.RowKit

def own1 (v : Value) (x : Nat) : Prop := v.ownBlock = some x

set_option maxRecDepth 100000 in
set_option maxHeartbeats 12800000 in
theorem plays_law (a0 : Option Addr) (n c0 : Nat) (l : List AskV) (w0 : World) (ho : AsksAt w0 (.slice a0 n c0) l) (hn : n ≤ maxLen) :
    Calls Try.prog 3 #[.slice a0 n c0] w0 fun e w' => e = .returned (.bool true) ∧ Below w0.heap.size w0 w' := by
  obtain ⟨q1, hat⟩ := ho.at
  have hn2 : n ≤ l.length := by omega
  have hn3 : l.length ≤ n := by omega
  have hn4 : n ≤ 9223372036854775807 := hn
  clear q1
  have HAT := Lib.hid hat; clear hat ho
  go_enter Try.func3, Try.ntmps3
  go_wp2_with fail
  refine (new_at w0).mono ?_
  rintro e w1 ⟨m, W1, rfl, hm1, hb1, hn1⟩
  have HM1 := Lib.hid hm1; clear hm1
  have HB1 := Lib.hid hb1; clear hb1
  have HN1 := Lib.hid hn1; clear hn1
  obtain ⟨r, hr⟩ : ∃ r, r = w1.heap.size := ⟨_, rfl⟩
  go_wp2_with fail
  refine (rnew_any w1).mono ?_
  rintro e w2 ⟨rfl, hr2, hb2⟩
  rw [← hr] at hr2 ⊢
  have HM2 := Lib.hid (HM1.out.below hb2)
  have HB2 := Lib.hid (HB1.out.trans (hb2.mono HB1.out.size)); clear hb2
  have HR2 := Lib.hid hr2; clear hr2
  have HD2 := Lib.hid (show ∀ x, W1 x → ¬ x = r from fun x hx e => by have := HM1.out.lt x hx; omega)
  have hr0 : w0.heap.size ≤ r := by rw [hr]; exact HB1.out.size
  clear HM1 HB1 hr
  go_wp2_with fail
  refine (known_any w2).mono ?_
  rintro e w3 ⟨rfl, hb3⟩
  have HM3 := Lib.hid (HM2.out.below hb3)
  have HR3 := Lib.hid (HR2.out.below hb3)
  have HB3 := Lib.hid (HB2.out.trans (hb3.mono HB2.out.size)); clear hb3
  clear HM2 HB2 HR2
  go_wp2_with fail
  go_loopw [5] (fun i wr => ∃ k : Nat, k ≤ n ∧ i = .int .i64 (k : Int) ∧ ∃ S W lv vs WR, RawAt (fun _ => False) wr m S W ∧ RefIs wr r lv vs S WR ∧ Good S ∧ (∀ x, W x → w0.heap.size ≤ x) ∧ (∀ x, WR x → w0.heap.size ≤ x) ∧ (∀ x, W x → ¬ WR x) ∧ Below w0.heap.size w0 wr) (fun i _ => n - (intOf i).toNat)
  case atStart => exact ⟨0, by omega, rfl, ⟨[], 1⟩, W1, _, _, _, raw_of HM3.out, HR3.out, Good.start, HN1.out, fun x hx => by omega, HD2.out, HB3.out⟩
  case round =>
    obtain ⟨k, hk, rfl, S, W, lv, vs, WR, hm, hrf, hg, hW, hWR, hdj, hb⟩ := hrel
    clear HM3 HR3 HB3 HN1 HD2
    have HM := Lib.hid hm; clear hm
    have HRf := Lib.hid hrf; clear hrf
    have HG := Lib.hid hg; clear hg
    have HW := Lib.hid hW; clear hW
    have HWR := Lib.hid hWR; clear hWR
    have HDJ := Lib.hid hdj; clear hdj
    have HB := Lib.hid hb; clear hb
    by_cases hlt : k < n
    rotate_left
    · obtain rfl : n = k := by omega
      have hkk : ¬ (n : Int) < (n : Int) := by omega
      go_wp2
      go_ret
      exact ⟨rfl, HB.out⟩
    have hkn : (k : Int) < (n : Int) := by omega
    have hk0 : (0 : Int) ≤ (k : Int) := by omega
    have hkz : ((k : Int)).toNat = k := by omega
    obtain ⟨⟨t, dv, st0, dn0⟩, hy⟩ : ∃ y, l[k]? = some y := ⟨l[k]'(by omega), by simp [show k < l.length by omega]⟩
    obtain ⟨⟨b, o, rfl, hbl, hcells⟩, ⟨hbytes, hfm⟩, hdl⟩ := HAT.out k _ hy
    dsimp only at hbytes hfm hdl
    obtain ⟨da, dc, rfl, hdc⟩ := hfm
    obtain ⟨dn, hdn⟩ : ∃ dn, dn = t.data.length := ⟨_, rfl⟩
    rw [← hdn] at hbytes hdc hcells
    clear hy
    have hAS : AskS b o k t (.slice da dn dc) st0 dn0 wr := (AskS.of (y := ⟨t, .slice da dn dc, st0, dn0⟩) hcells).below HB.out hbl
    obtain ⟨q0, q1, q2, q3, q4, q5, q6, q7, q8, q9, q10, q11, q12⟩ := hAS.cells
    clear hAS hcells
    have HBY := Lib.hid hbytes; clear hbytes
    have hlies : LiesIn (.slice da dn dc) fun x => ¬ WR x := HBY.out.lies.mono (fun x hx h => by have := HWR.out x h; omega)
    have HLI := Lib.hid hlies; clear hlies
    have hdn1 : dn ≤ 140737488355328 := by omega
    have HDN := Lib.hid hdn; clear hdn
    have hB0 : w0.heap.size ≤ wr.heap.size := HB.out.size
    obtain ⟨xb, hxb⟩ : ∃ xb, xb = wr.heap.size := ⟨_, rfl⟩
    obtain ⟨V1, hV1⟩ : ∃ V1, V1 = wr.alloc (.cells #[.int .i64 t.cmd, .int .i64 t.tag, .int .i64 t.op, .bool t.ord, .bool t.fua, .int .i64 t.vol, .int .i64 t.lba, .int .i64 t.cnt, .int .i64 t.siz, .int .i64 t.quo, .slice da dn dc, .int .i64 st0, .int .i64 dn0] 33) := ⟨_, rfl⟩
    have hb1 : Below wr.heap.size wr V1 := by rw [hV1]; exact allocBelow wr _
    have hx1 : CellsAt V1 xb #[.int .i64 t.cmd, .int .i64 t.tag, .int .i64 t.op, .bool t.ord, .bool t.fua, .int .i64 t.vol, .int .i64 t.lba, .int .i64 t.cnt, .int .i64 t.siz, .int .i64 t.quo, .slice da dn dc, .int .i64 st0, .int .i64 dn0] 33 := by rw [hV1, hxb]; exact heap_at rfl
    have hxl : xb < V1.heap.size := hx1.lt
    have hxw : wr.heap.size ≤ xb := by omega
    go_upto_region 9 with fail
    rw [← hV1, ← hxb]
    clear hV1 hxb q0 q1 q2 q3 q4 q5 q6 q7 q8 q9 q10 q11 q12
    have x0 := hx1.cell 0
    have x1 := hx1.cell 1
    have x2 := hx1.cell 2
    have x3 := hx1.cell 3
    have x4 := hx1.cell 4
    have x5 := hx1.cell 5
    have x6 := hx1.cell 6
    have x7 := hx1.cell 7
    have x8 := hx1.cell 8
    have x9 := hx1.cell 9
    have x10 := hx1.cell 10
    simp only [List.getElem?_toArray, List.getElem?_cons_zero, List.getElem?_cons_succ] at x0 x1 x2 x3 x4 x5 x6 x7 x8 x9 x10
    obtain ⟨tb, htb⟩ : ∃ tb, tb = V1.heap.size := ⟨_, rfl⟩
    obtain ⟨V2, hV2⟩ : ∃ V2, V2 = V1.alloc (.cells #[.int .i64 t.cmd, .int .i64 t.tag, .int .i64 t.op, .bool t.ord, .bool t.fua, .int .i64 t.vol, .int .i64 t.lba, .int .i64 t.cnt, .int .i64 t.siz, .int .i64 t.quo, .slice da dn dc] 30) := ⟨_, rfl⟩
    have hb2 : Below wr.heap.size wr V2 := by rw [hV2]; exact hb1.trans ((allocBelow V1 _).mono hb1.size)
    have hx2 : CellsAt V2 xb #[.int .i64 t.cmd, .int .i64 t.tag, .int .i64 t.op, .bool t.ord, .bool t.fua, .int .i64 t.vol, .int .i64 t.lba, .int .i64 t.cnt, .int .i64 t.siz, .int .i64 t.quo, .slice da dn dc, .int .i64 st0, .int .i64 dn0] 33 := by rw [hV2]; exact hx1.later (allocBelow _ _)
    have ht2 : CellsAt V2 tb #[.int .i64 t.cmd, .int .i64 t.tag, .int .i64 t.op, .bool t.ord, .bool t.fua, .int .i64 t.vol, .int .i64 t.lba, .int .i64 t.cnt, .int .i64 t.siz, .int .i64 t.quo, .slice da dn dc] 30 := by rw [hV2, htb]; exact heap_at rfl
    have htl : tb < V2.heap.size := ht2.lt
    have htw : wr.heap.size ≤ tb := by have := hb1.size; omega
    have htx : tb ≠ xb := by omega
    go_upto_region 10 with fail
    rw [← hV2, ← htb]
    clear x0 x1 x2 x3 x4 x5 x6 x7 x8 x9 x10 hV2 htb hx1 hb1
    have y10 := ht2.cell 10
    simp only [List.getElem?_toArray, List.getElem?_cons_zero, List.getElem?_cons_succ] at y10
    have HX2 := Lib.hid hx2; clear hx2
    have HT2 := Lib.hid ht2; clear ht2
    have HB2 := Lib.hid hb2; clear hb2
    have HD2 := Lib.hid (show BytesAt V2 (.slice da dn dc) t.data from HBY.out.later (HB.out.trans (HB2.out.mono hB0)))
    go_upto_region 12 with (at_builtin; refine wpList_append_bytes rfl (.tmp 33) (.tmp 35) rfl V2.heap.size (.slice none 0 0) [] rfl (Owns.nil _ _) (.slice da dn dc) t.data rfl HD2.out (by simp; omega) (Nat.le_refl _) ?_; intro v3 V3 hown3 hgrow3; rw [List.nil_append] at hown3; obtain ⟨oa, oc, rfl, _⟩ := hown3.bytes.form; rw [← HDN.out] at hown3 ⊢)
    clear y10 HD2
    have hb3 : Below V2.heap.size V2 V3 := (Below.refl _ _).grown hgrow3 (Nat.le_refl _) (fun x hx => by simp [Value.ownBlock] at hx)
    have hz23 : V2.heap.size ≤ V3.heap.size := hb3.size
    have ht3 := HT2.out.later hb3
    have hx3 := HX2.out.later hb3
    have y10 := ht3.cell 10
    have fy10 := ht3.free 10
    simp only [List.getElem?_toArray, List.getElem?_cons_zero, List.getElem?_cons_succ] at y10
    obtain ⟨V4, hV4⟩ : ∃ V4, V4 = V3.setCell ⟨tb, 10, none⟩ (.slice oa dn oc) := ⟨_, rfl⟩
    have hk4 : Keeps (fun x => x = tb) V3 V4 := by rw [hV4]; exact (Keeps.refl (fun x => x = tb) V3).setCell (p := ⟨tb, 10, none⟩) (fun _ => rfl) _
    have ht4 : CellsAt V4 tb #[.int .i64 t.cmd, .int .i64 t.tag, .int .i64 t.op, .bool t.ord, .bool t.fua, .int .i64 t.vol, .int .i64 t.lba, .int .i64 t.cnt, .int .i64 t.siz, .int .i64 t.quo, .slice oa dn oc] 30 := by rw [hV4]; have := ht3.set 10 (.slice oa dn oc); simpa using this
    have hx4 := hx3.keeps hk4 (fun e => htx e.symm)
    have hb4 : Below wr.heap.size wr V4 := (HB2.out.trans (hb3.mono HB2.out.size)).trans (hk4.below (by have := HB2.out.size; omega) (fun x hx e => by omega))
    have hown4 : Owns V2.heap.size V4 (.slice oa dn oc) t.data := hk4.owns hown3 (fun x hx e => by
      obtain ⟨c1, h1⟩ := rowBlockT hown3 hx
      have h2 := ht3
      unfold CellsAt at h2
      rw [e, h2] at h1
      simp at h1)
    have HO4 := Lib.hid hown4; clear hown4 hown3 hgrow3
    have HX4 := Lib.hid hx4; clear hx4 hx3
    have HT4 := Lib.hid ht4; clear ht4 ht3
    have HB4 := Lib.hid hb4; clear hb4 hb3
    have hz4 : wr.heap.size ≤ V4.heap.size := HB4.out.size
    have hz24 : V2.heap.size ≤ V4.heap.size := by have := hk4.size; omega
    go_upto_region 13 with fail
    rw [← hV4]
    clear hV4 y10 fy10 hk4 HX2 HT2
    obtain ⟨z, hz⟩ : ∃ z : Nat → Prop, z = fun x => own1 (.slice oa dn oc) x ∨ (t.op ≠ 3 ∧ V4.heap.size ≤ x) := ⟨_, rfl⟩
    have HZ := Lib.hid hz; clear hz
    have hz2w : wr.heap.size ≤ V2.heap.size := HB2.out.size
    have HM4 := Lib.hid (show RawAt z V4 m S W from (HM.out.named (z := z) (fun x hx => by rw [HZ.out] at hx; rcases hx with hx | hx; have := (Owns.from HO4.out x hx).1; omega; omega)).kept (Keeps.of_below HB4.out))
    have HR4 := Lib.hid (HRf.out.below HB4.out)
    obtain ⟨⟨⟨qc, qt, sq, kq, dq⟩, Sq⟩, hq⟩ : ∃ q, q = doS S t st0 dn0 := ⟨_, rfl⟩
    have HGq := Lib.hid (show Good Sq by have := HG.out.doS t st0 dn0; rw [← hq] at this; exact this)
    have hDO := raw_do z m S W t (.slice oa dn oc) st0 dn0 V4 HM4.out HG.out HO4.out.bytes ⟨oa, oc, by rw [HDN.out], by rw [← HDN.out]; exact own_room HO4.out⟩ hdl (fun h3 x hx => by rw [HZ.out] at hx; rcases hx with hx | hx; exact (Owns.from HO4.out x hx).2; exact absurd h3 hx.1)
    have hq1 : (Rp.mk qc qt sq kq dq, Sq) = doS S t st0 dn0 := hq
    rw [← hq] at hDO
    have HWD := Lib.hid (show t.op = 3 → dq = [] from fun h3 => by have := doS_write_data S t st0 dn0 h3; rw [← hq] at this; exact this)
    have HQ := Lib.hid hq1; clear hq hq1
    dsimp only [replyCells] at hDO
    unfold Tk.cells at hDO
    have HDO := Lib.hid hDO; clear hDO
    have y0 := HT4.out.cell 0
    have y1 := HT4.out.cell 1
    have y2 := HT4.out.cell 2
    have y3 := HT4.out.cell 3
    have y4 := HT4.out.cell 4
    have y5 := HT4.out.cell 5
    have y6 := HT4.out.cell 6
    have y7 := HT4.out.cell 7
    have y8 := HT4.out.cell 8
    have y9 := HT4.out.cell 9
    have y10 := HT4.out.cell 10
    simp only [List.getElem?_toArray, List.getElem?_cons_zero, List.getElem?_cons_succ] at y0 y1 y2 y3 y4 y5 y6 y7 y8 y9 y10
    have x11 := HX4.out.cell 11
    have x12 := HX4.out.cell 12
    simp only [List.getElem?_toArray, List.getElem?_cons_zero, List.getElem?_cons_succ] at x11 x12
    go_wp2_with fail
    refine HDO.out.mono ?_
    rintro e V5 ⟨ra, W5, rfl, hown5, hm5, hk5, hn5⟩
    clear HDO y0 y1 y2 y3 y4 y5 y6 y7 y8 y9 y10 x11 x12
    have HOLT := Lib.hid (show ∀ x, own1 (.slice oa dn oc) x → V2.heap.size ≤ x ∧ x < V4.heap.size from fun x hx => Owns.from HO4.out x hx)
    obtain ⟨aa, ac, rfl, _⟩ := hown5.bytes.form
    obtain ⟨an, han⟩ : ∃ an, an = dq.length := ⟨_, rfl⟩
    rw [← han] at hown5 ⊢
    have HAN := Lib.hid han; clear han
    have HALT := Lib.hid (show ∀ x, own1 (.slice aa an ac) x → V4.heap.size ≤ x ∧ x < V5.heap.size from fun x hx => Owns.from hown5 x hx)
    obtain ⟨ab, hab⟩ : ∃ ab, ab = V5.heap.size := ⟨_, rfl⟩
    obtain ⟨V6, hV6⟩ : ∃ V6, V6 = V5.alloc (.cells #[.int .i64 t.cmd, .int .i64 t.tag, .int .i64 sq, .int .i64 kq, .slice aa an ac] 35) := ⟨_, rfl⟩
    have hk6 : Keeps (fun _ => False) V5 V6 := by rw [hV6]; exact (Keeps.refl _ V5).alloc _
    have ha6 : CellsAt V6 ab #[.int .i64 t.cmd, .int .i64 t.tag, .int .i64 sq, .int .i64 kq, .slice aa an ac] 35 := by rw [hV6, hab]; exact heap_at rfl
    have hz45 : V4.heap.size ≤ V5.heap.size := hk5.size
    have hz56 : V5.heap.size ≤ V6.heap.size := hk6.size
    have habw : V5.heap.size ≤ ab := by omega
    have hWlt := HM.out.lt
    have hWRlt := HRf.out.lt
    have HW5 := Lib.hid (show ∀ x, W5 x → W x ∨ (V4.heap.size ≤ x ∧ x < V5.heap.size) from fun x hx => (hn5 x hx).imp id (fun h => ⟨h, hm5.lt x hx⟩)); clear hn5
    have HM6 := Lib.hid (hm5.kept hk6)
    have hnW : ∀ {b : Nat}, V4.heap.size > b → wr.heap.size ≤ b → ¬ W b := fun {b} _ h2 h3 => by have := hWlt b h3; omega
    have HX6 := Lib.hid ((HX4.out.keeps hk5 (fun h => by have := hWlt xb h; omega)).keeps hk6 id)
    have HT6 := Lib.hid ((HT4.out.keeps hk5 (fun h => by have := hWlt tb h; omega)).keeps hk6 id)
    have HO6 := Lib.hid (show Owns V2.heap.size V6 (.slice oa dn oc) t.data from hk6.owns (hk5.owns HO4.out (fun x hx h => by have h1 := (Owns.from HO4.out x hx).1; have := hWlt x h; omega)) (fun _ _ h => h))
    have HA6 := Lib.hid (show Owns V4.heap.size V6 (.slice aa an ac) dq from hk6.owns hown5 (fun _ _ h => h)); clear hown5
    have HR6 := Lib.hid ((HR4.out.keeps hk5 (fun x hx h => HDJ.out x h hx)).kept hk6)
    have HB6 := Lib.hid (show Below w0.heap.size w0 V6 from ((HB.out.trans (HB4.out.mono hB0)).trans (hk5.below (by omega) (fun x hx h => by have := HW.out x h; omega))).trans (hk6.below (by omega) (fun _ _ h => h)))
    have HC6 := Lib.hid ha6; clear ha6 hnW
    go_upto_region 14 with fail
    rw [← hV6, ← hab]
    clear hV6 hab hk6 hk5 hm5 HM4 HR4 HX4 HT4 HO4
    have hRD := rdo_any r lv vs S WR t da dn dc st0 dn0 V6 HR6.out HG.out HDN.out (HBY.out.later HB6.out) hdc hdl HLI.out
    rw [← HQ.out] at hRD
    unfold Tk.cells at hRD
    have HRD := Lib.hid hRD; clear hRD
    have x0 := HX6.out.cell 0
    have x1 := HX6.out.cell 1
    have x2 := HX6.out.cell 2
    have x3 := HX6.out.cell 3
    have x4 := HX6.out.cell 4
    have x5 := HX6.out.cell 5
    have x6 := HX6.out.cell 6
    have x7 := HX6.out.cell 7
    have x8 := HX6.out.cell 8
    have x9 := HX6.out.cell 9
    have x10 := HX6.out.cell 10
    have x11 := HX6.out.cell 11
    have x12 := HX6.out.cell 12
    simp only [List.getElem?_toArray, List.getElem?_cons_zero, List.getElem?_cons_succ] at x0 x1 x2 x3 x4 x5 x6 x7 x8 x9 x10 x11 x12
    go_wp2_with fail
    refine HRD.out.mono ?_
    rintro e V7 ⟨rb, lv7, vs7, WR7, rfl, hown7, hr7, hk7, hn7⟩
    dsimp only at hown7 hr7
    clear HRD x0 x1 x2 x3 x4 x5 x6 x7 x8 x9 x10 x11 x12
    obtain ⟨ba, bc, rfl, _⟩ := hown7.bytes.form
    rw [← HAN.out] at hown7 ⊢
    dsimp only [replyCells]
    obtain ⟨bb, hbb⟩ : ∃ bb, bb = V7.heap.size := ⟨_, rfl⟩
    obtain ⟨V8, hV8⟩ : ∃ V8, V8 = V7.alloc (.cells #[.int .i64 t.cmd, .int .i64 t.tag, .int .i64 sq, .int .i64 kq, .slice ba an bc] 35) := ⟨_, rfl⟩
    have hk8 : Keeps (fun _ => False) V7 V8 := by rw [hV8]; exact (Keeps.refl _ V7).alloc _
    have HC8b := Lib.hid (show CellsAt V8 bb #[.int .i64 t.cmd, .int .i64 t.tag, .int .i64 sq, .int .i64 kq, .slice ba an bc] 35 by rw [hV8, hbb]; exact heap_at rfl)
    have hz67 : V6.heap.size ≤ V7.heap.size := hk7.size
    have hz78 : V7.heap.size ≤ V8.heap.size := hk8.size
    have hlvT : ∀ x, (x = r ∨ lv.ownBlock = some x) → WR x := fun x hx => by
      rcases hx with rfl | hx
      · exact HRf.out.inR
      · exact HRf.out.inL x hx
    have hlv5 : ∀ x cur, V6.heap[x]? = some (.cells cur 5 (0, 0)) → ¬ (x = r ∨ lv.ownBlock = some x) := fun x cur h1 h2 => by
      rcases h2 with rfl | h2
      · have h3 := HR6.out.head; unfold CellsAt at h3; rw [h1] at h3; simp at h3
      · obtain ⟨c, h3⟩ := rowBlockT HR6.out.row h2; rw [h1] at h3; simp at h3
    have hlv35 : ∀ x cur, V6.heap[x]? = some (.cells cur 35 (0, 0)) → ¬ (x = r ∨ lv.ownBlock = some x) := fun x cur h1 h2 => by
      rcases h2 with rfl | h2
      · have h3 := HR6.out.head; unfold CellsAt at h3; rw [h1] at h3; simp at h3
      · obtain ⟨c, h3⟩ := rowBlockT HR6.out.row h2; rw [h1] at h3; simp at h3
    have HWR7 := Lib.hid (show ∀ x, WR7 x → WR x ∨ V6.heap.size ≤ x from hn7); clear hn7
    have HM8 := Lib.hid ((HM6.out.keeps hk7 (fun x hx h => by rcases HW5.out x hx with h1 | h1; exact HDJ.out x h1 (hlvT x h); have := hWRlt x (hlvT x h); omega) (fun x cur hx => hlv5 x cur hx)).kept hk8)
    have HO8 := Lib.hid (show Owns V2.heap.size V8 (.slice oa dn oc) t.data from hk8.owns (hk7.owns HO6.out (fun x hx => by obtain ⟨c, h⟩ := rowBlockT HO6.out hx; exact hlv5 x c h)) (fun _ _ h => h))
    have HA8 := Lib.hid (show Owns V4.heap.size V8 (.slice aa an ac) dq from hk8.owns (hk7.owns HA6.out (fun x hx => by obtain ⟨c, h⟩ := rowBlockT HA6.out hx; exact hlv5 x c h)) (fun _ _ h => h))
    have HBB8 := Lib.hid (show Owns V6.heap.size V8 (.slice ba an bc) dq from hk8.owns hown7 (fun _ _ h => h)); clear hown7
    have HC8 := Lib.hid ((HC6.out.keeps hk7 (hlv35 ab _ HC6.out)).keeps hk8 id)
    have HR8 := Lib.hid (hr7.kept hk8)
    have HB8 := Lib.hid (show Below w0.heap.size w0 V8 from (HB6.out.trans (hk7.below (by omega) (fun x hx h => by have := HWR.out x (hlvT x h); omega))).trans (hk8.below (by omega) (fun _ _ h => h)))
    have HWLT := Lib.hid hWlt
    have HWRLT := Lib.hid hWRlt
    clear hlv5 hlv35 hlvT hr7 hWlt hWRlt
    obtain ⟨E0, hE0⟩ : ∃ E0, E0 = wr.heap.size := ⟨_, rfl⟩
    rw [← hE0] at hB0 hz4 hz2w HWLT HWRLT
    clear hE0
    go_upto_region 15 with fail
    rw [← hV8, ← hbb]
    clear hV8 hbb hk8 hk7 HM6 HR6 HX6 HT6 HO6 HA6 HC6 HB6
    have han1 : an ≤ dq.length := by have := HAN.out; omega
    have han2 : dq.length ≤ an := by have := HAN.out; omega
    have hSM := same_any V4.heap.size V6.heap.size t sq kq aa ba an ac bc dq V8 HA8.out HBB8.out han1 han2
    dsimp only [replyCells] at hSM
    have HSM := Lib.hid hSM; clear hSM
    have HVM := Lib.hid (fun (V : World) (hV : RawAt z V m Sq W5) => raw_vols z m Sq W5 V hV HGq.out)
    have HVR := Lib.hid (fun (V : World) (hV : RefIs V r lv7 vs7 Sq WR7) => rvolumes_any r lv7 vs7 Sq WR7 V hV HGq.out)
    go_cut [65] from 21 to 85 (fun b V => b = .bool false ∧ Keeps (fun _ => False) V8 V)
    case first =>
      as_aux_lemma =>
        have x0 := HC8.out.cell 0
        have x1 := HC8.out.cell 1
        have x2 := HC8.out.cell 2
        have x3 := HC8.out.cell 3
        have x4 := HC8.out.cell 4
        simp only [List.getElem?_toArray, List.getElem?_cons_zero, List.getElem?_cons_succ] at x0 x1 x2 x3 x4
        have y0 := HC8b.out.cell 0
        have y1 := HC8b.out.cell 1
        have y2 := HC8b.out.cell 2
        have y3 := HC8b.out.cell 3
        have y4 := HC8b.out.cell 4
        simp only [List.getElem?_toArray, List.getElem?_cons_zero, List.getElem?_cons_succ] at y0 y1 y2 y3 y4
        go_wp2_with fail
        refine HSM.out.mono ?_
        rintro e V9 ⟨rfl, hb9⟩
        clear x0 x1 x2 x3 x4 y0 y1 y2 y3 y4
        have hk9 : Keeps (fun _ => False) V8 V9 := Keeps.of_below hb9
        have HK9 := Lib.hid hk9; clear hk9 hb9
        go_wp2_with fail
        refine (HVM.out V9 (HM8.out.kept HK9.out)).mono ?_
        rintro e V10 ⟨r3, rfl, hr3, hk10⟩
        obtain ⟨a3, n3, c3, rfl⟩ : ∃ a n c, r3 = .slice a n c := by
          rcases hr3.2 with ⟨e, _⟩ | ⟨g, cap, cur, e, _⟩ <;> exact ⟨_, _, _, e⟩
        have HK10 := Lib.hid (HK9.out.trans hk10 (fun _ _ h => h)); clear hk10
        have HR3 := Lib.hid hr3; clear hr3
        go_wp2_with fail
        refine (HVR.out V10 (HR8.out.kept HK10.out)).mono ?_
        rintro e V11 ⟨r4, rfl, hr4, hb11⟩
        obtain ⟨a4, n4, c4, rfl⟩ : ∃ a n c, r4 = .slice a n c := by
          rcases hr4.2 with ⟨e, _⟩ | ⟨g, cap, cur, e, _⟩ <;> exact ⟨_, _, _, e⟩
        have hk11 : Keeps (fun _ => False) V10 V11 := Keeps.of_below hb11
        have HEQ := Lib.hid (eqvols_any _ _ _ _ Sq.vols Sq.vols.length V11 (hk11.owns HR3.out (fun _ _ h => h)) hr4 (Nat.le_refl _) (Nat.le_refl _) HGq.out.len)
        have HK11 := Lib.hid (HK10.out.trans hk11 (fun _ _ h => h)); clear hk11 hb11 hr4
        go_wp2_with fail
        refine HEQ.out.mono ?_
        rintro e V12 ⟨rfl, hb12⟩
        have HK12 := Lib.hid (HK11.out.trans (Keeps.of_below (F := fun _ => False) hb12) (fun _ _ h => h)); clear hb12
        go_wp2_with fail
        go_meet
        exact ⟨rfl, HK12.out⟩
    obtain ⟨rfl, hkc⟩ := hcut
    obtain ⟨V9, hV9⟩ : ∃ V9, V9 = wc := ⟨_, rfl⟩
    rw [← hV9] at hkc ⊢
    clear hV9 HSM HVM HVR
    have HM9 := Lib.hid (HM8.out.kept hkc)
    have HR9 := Lib.hid (HR8.out.kept hkc)
    have HO9 := Lib.hid (show Owns V2.heap.size V9 (.slice oa dn oc) t.data from hkc.owns HO8.out (fun _ _ h => h))
    have HA9 := Lib.hid (show Owns V4.heap.size V9 (.slice aa an ac) dq from hkc.owns HA8.out (fun _ _ h => h))
    have HC9 := Lib.hid (HC8.out.keeps hkc id)
    have hz89 : V8.heap.size ≤ V9.heap.size := hkc.size
    have HB9 := Lib.hid (HB8.out.trans (hkc.below (by omega) (fun _ _ h => h)))
    clear HM8 HR8 HO8 HA8 HBB8 HC8 HC8b HB8 hkc
    have hdn2 : dn ≤ 9223372036854775807 := by omega
    have HLEN := Lib.hid (show t.data.length = dn from HDN.out.symm)
    go_wp2_with fail
    go_loopw [11] (fun i V => ∃ j : Nat, j ≤ dn ∧ i = .int .i64 (j : Int) ∧ ∃ lx : List Nat, lx.length = dn ∧ Owns V2.heap.size V (.slice oa dn oc) lx ∧ Keeps (own1 (.slice oa dn oc)) V9 V) (fun i _ => dn - (intOf i).toNat)
    case atStart => exact ⟨0, by omega, rfl, t.data, HLEN.out, HO9.out, Keeps.refl _ _⟩
    case round =>
      obtain ⟨j, hj, rfl, lx, hlx, ho, hk2⟩ := hrel
      have HOx := Lib.hid ho; clear ho
      have HK2 := Lib.hid hk2; clear hk2
      have HLX := Lib.hid hlx; clear hlx
      by_cases hjn : j < dn
      · have hjn' : (j : Int) < (dn : Int) := by omega
        have hj0 : (0 : Int) ≤ (j : Int) := by omega
        have hjz : ((j : Int)).toNat = j := by omega
        obtain ⟨g, hg⟩ : ∃ g, oa = some ⟨g, 0, none⟩ := by
          obtain ⟨a, c, e, hf⟩ := ownsForm HOx.out
          rw [HLX.out] at hf
          injection e with e1 e2 e3
          rcases hf with ⟨_, h0, _⟩ | ⟨g, e4, _⟩
          · omega
          · exact ⟨g, e1.trans e4⟩
        subst hg
        have hc := HOx.out.cellNo j (by have := HLX.out; omega)
        have hf := HOx.out.freeNo j
        go_wp2
        go_roundw
        case rel =>
          refine ⟨j + 1, by omega, by simp, lx.set j 99, by rw [List.length_set]; exact HLX.out, HOx.out.set j 99, HK2.out.setCell (p := ⟨g, j, none⟩) (fun _ => rfl) _⟩
        case measure => simp only [intOf]; omega
      obtain rfl : dn = j := by omega
      have hkk : ¬ (dn : Int) < (dn : Int) := by omega
      have HC10 := Lib.hid (HC9.out.keeps HK2.out (fun e => by
        obtain ⟨c, h⟩ := rowBlockT HO9.out e
        have h2 := HC9.out
        unfold CellsAt at h2
        rw [h] at h2
        simp at h2))
      have hz910 : V9.heap.size ≤ wr.heap.size := HK2.out.size
      have HA10 := Lib.hid (show Owns V4.heap.size wr (.slice aa an ac) dq from HK2.out.owns HA9.out (fun x hx e => by have h1 := HALT.out x hx; have h2 := HOLT.out x e; omega))
      obtain ⟨V10, hV10⟩ : ∃ V10, V10 = wr := ⟨_, rfl⟩
      rw [← hV10] at HC10 HA10 HK2 hz910 ⊢
      clear hV10 HOx HLX HC9 HA9
      have han3 : an ≤ 9223372036854775807 := by
        obtain ⟨a, c, e, _⟩ := ownsForm HA10.out
        rcases HA10.out.2 with ⟨_, h0⟩ | ⟨g, cap, cur, e, _, _, hnc, hcm, _⟩
        · omega
        · have : cap ≤ 9223372036854775807 := hcm
          omega
      have a4 := HC10.out.cell 4
      simp only [List.getElem?_toArray, List.getElem?_cons_zero, List.getElem?_cons_succ] at a4
      have HLEN2 := Lib.hid (show dq.length = an from HAN.out.symm)
      go_wp2_with fail
      clear a4
      go_loopw [12] (fun i V => ∃ j : Nat, j ≤ an ∧ i = .int .i64 (j : Int) ∧ ∃ lx : List Nat, lx.length = an ∧ Owns V4.heap.size V (.slice aa an ac) lx ∧ Keeps (fun x => own1 (.slice aa an ac) x ∧ 0 < an) V10 V) (fun i _ => an - (intOf i).toNat)
      case atStart => exact ⟨0, by omega, rfl, dq, HLEN2.out, HA10.out, Keeps.refl _ _⟩
      case round =>
        obtain ⟨j, hj, rfl, lx, hlx, ho, hk3⟩ := hrel
        have HOx := Lib.hid ho; clear ho
        have HK3 := Lib.hid hk3; clear hk3
        have HLX := Lib.hid hlx; clear hlx
        have a4 := (HC10.out.keeps HK3.out (fun e => by
          obtain ⟨c, h⟩ := rowBlockT HA10.out e.1
          have h2 := HC10.out
          unfold CellsAt at h2
          rw [h] at h2
          simp at h2)).cell 4
        simp only [List.getElem?_toArray, List.getElem?_cons_zero, List.getElem?_cons_succ] at a4
        by_cases hjn : j < an
        · have hjn' : (j : Int) < (an : Int) := by omega
          have hj0 : (0 : Int) ≤ (j : Int) := by omega
          have hjz : ((j : Int)).toNat = j := by omega
          obtain ⟨g, hg⟩ : ∃ g, aa = some ⟨g, 0, none⟩ := by
            obtain ⟨a, c, e, hf⟩ := ownsForm HOx.out
            rw [HLX.out] at hf
            injection e with e1 e2 e3
            rcases hf with ⟨_, h0, _⟩ | ⟨g, e4, _⟩
            · omega
            · exact ⟨g, e1.trans e4⟩
          subst hg
          have hc := HOx.out.cellNo j (by have := HLX.out; omega)
          have hf := HOx.out.freeNo j
          go_wp2
          go_roundw
          case rel =>
            refine ⟨j + 1, by omega, by simp, lx.set j 98, by rw [List.length_set]; exact HLX.out, HOx.out.set j 98, HK3.out.setCell (p := ⟨g, j, none⟩) (fun _ => ⟨rfl, by omega⟩) _⟩
          case measure => simp only [intOf]; omega
        obtain rfl : an = j := by omega
        have hkk : ¬ (an : Int) < (an : Int) := by omega
        have hKz : Keeps (fun x => own1 (.slice oa dn oc) x ∨ (own1 (.slice aa an ac) x ∧ 0 < an)) V9 wr := (HK2.out.mono (fun x _ hx => .inl hx)).trans HK3.out (fun x _ hx => .inr hx)
        have hop : 0 < an → t.op ≠ 3 := fun h0 h3 => by have h1 := HWD.out h3; have := HLEN2.out; rw [h1] at this; simp at this; omega
        have HMz := Lib.hid (HM9.out.touch hKz (fun x hx => by
          rw [HZ.out]
          rcases hx with hx | hx
          · exact .inl hx
          · exact .inr ⟨hop hx.2, (HALT.out x hx.1).1⟩) (fun x hx hf => by
          rcases hf with hf | hf
          · obtain ⟨c, h⟩ := rowBlockT HO9.out hf
            exact HM9.out.noBytes x c h hx
          · obtain ⟨c, h⟩ := rowBlockT HA10.out hf.1
            have h10 : V9.heap[x]? = V10.heap[x]? := ((HK2.out.block x (by have := (HALT.out x hf.1).2; omega) (fun e => by have h1 := HALT.out x hf.1; have h2 := HOLT.out x e; omega))).symm
            rw [← h10] at h
            exact HM9.out.noBytes x c h hx))
        have HRz := Lib.hid (HR9.out.keeps hKz (fun x hx hf => by
          have h1 : E0 ≤ x ∧ x < V6.heap.size := by
            rcases hf with hf | hf
            · have := HOLT.out x hf; omega
            · have := HALT.out x hf.1; omega
          rcases HWR7.out x hx with h2 | h2
          · have := HWRLT.out x h2; omega
          · omega))
        have HBz := Lib.hid (HB9.out.trans (hKz.below (by omega) (fun x hx hf => by
          rcases hf with hf | hf
          · have := HOLT.out x hf; omega
          · have := HALT.out x hf.1; omega)))
        have HWz := Lib.hid (show ∀ x, W5 x → w0.heap.size ≤ x from fun x hx => (HW5.out x hx).elim (HW.out x) (fun h => by omega))
        have HWRz := Lib.hid (show ∀ x, WR7 x → w0.heap.size ≤ x from fun x hx => (HWR7.out x hx).elim (HWR.out x) (fun h => by omega))
        have HDz := Lib.hid (show ∀ x, W5 x → ¬ WR7 x from fun x hx hy => by
          rcases HW5.out x hx with h1 | h1
          · rcases HWR7.out x hy with h2 | h2
            · exact HDJ.out x h1 h2
            · have := HWLT.out x h1; omega
          · rcases HWR7.out x hy with h2 | h2
            · have := HWRLT.out x h2; omega
            · omega)
        clear hKz hop
        go_wp2
        go_roundw
        case rel => exact ⟨k + 1, by omega, by simp, Sq, W5, lv7, vs7, WR7, HMz.out, HRz.out, HGq.out, HWz.out, HWRz.out, HDz.out, HBz.out⟩
        case measure => simp only [intOf]; omega
end Go.Proofs.Ytmanldcohbegkaa
