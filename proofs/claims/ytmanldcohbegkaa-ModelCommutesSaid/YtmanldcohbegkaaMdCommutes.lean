/-
  ModelCommutes: the walk. (Written by gen_mdcommutes.py.)
-/
import Derived.Test.YtmanldcohbegkaaMdOwnOp
import Derived.Test.YtmanldcohbegkaaMdBox
namespace Go.Proofs.Ytmanldcohbegkaa
open Go.RowKit

theorem own_pair (S : Mo) (hS : Good S) (a b : Tk) (ha : ownOp a.op) (hb : ownOp b.op) (hab : a.vol ≠ b.vol) :
    ∃ qa qb SX SZ SF, doS S a 0 0 = (qa, SX) ∧ doS S b 0 0 = (qb, SZ) ∧ doS SX b 0 0 = (qb, SF) ∧ doS SZ a 0 0 = (qa, SF) ∧ Good SX ∧ Good SZ ∧ Good SF := by
  obtain ⟨h1, h2, h3⟩ := own_comm S a b ha hb hab
  refine ⟨(doS S a 0 0).1, (doS S b 0 0).1, (doS S a 0 0).2, (doS S b 0 0).2, (doS (doS S a 0 0).2 b 0 0).2, rfl, rfl, Prod.ext h2 rfl, Prod.ext h1.symm h3.symm, hS.doS a 0 0, hS.doS b 0 0, (hS.doS a 0 0).doS b 0 0⟩

set_option maxRecDepth 100000 in
set_option maxHeartbeats 12800000 in
theorem commutes_law (a0 : Option Addr) (n c0 : Nat) (l : List AskV) (t1 : Tk) (ta : Option Addr) (tn tc : Nat) (t2 : Tk) (ua : Option Addr) (un uc : Nat) (w : World) (ho : AsksAt w (.slice a0 n c0) l) (htb : BytesAt w (.slice ta tn tc) t1.data) (htn : tn = t1.data.length) (htc : tn ≤ tc) (htl : t1.data.length ≤ 140737488355328) (hub : BytesAt w (.slice ua un uc) t2.data) (hun : un = t2.data.length) (huc : un ≤ uc) (hul : t2.data.length ≤ 140737488355328) (hn : n ≤ maxLen) :
    Calls Try.prog 9 #[.slice a0 n c0, .agg (t1.cells (.slice ta tn tc)), .agg (t2.cells (.slice ua un uc))] w fun e w' => e = .returned (.bool true) ∧ Below w.heap.size w w' := by
  obtain ⟨hn1, hat⟩ := ho.at
  have hn2 : n ≤ l.length := by omega
  have hn3 : l.length ≤ n := by omega
  have hn4 : n ≤ 9223372036854775807 := hn
  clear hn1
  have HAT := Lib.hid hat; clear hat ho
  have HTB := Lib.hid htb; clear htb
  have HTN := Lib.hid htn; clear htn
  have HUB := Lib.hid hub; clear hub
  have HUN := Lib.hid hun; clear hun
  obtain ⟨w0, hw0⟩ : ∃ w0, w0 = (w.alloc (.cells (t1.cells (.slice ta tn tc)) 30)).alloc (.cells (t2.cells (.slice ua un uc)) 30) := ⟨_, rfl⟩
  have HB0 := Lib.hid (show Below w.heap.size w w0 by rw [hw0]; exact (allocBelow w _).trans ((allocBelow _ _).mono (by simp)))
  have HP1 := Lib.hid (show CellsAt w0 w.heap.size (t1.cells (.slice ta tn tc)) 30 by rw [hw0]; exact CellsAt.later (CellsAt.new w _ 30) (allocBelow _ _))
  have HP2 := Lib.hid (show CellsAt w0 (w.heap.size + 1) (t2.cells (.slice ua un uc)) 30 by rw [hw0]; exact heap_at (by simp))
  have hz0 : w0.heap.size = w.heap.size + 1 + 1 := by rw [hw0]; simp
  have hz0a : w.heap.size < w0.heap.size := by omega
  clear hz0
  unfold Tk.cells at hw0 ⊢
  go_enter Try.func9, Try.ntmps9
  go_upto_region 1 with fail
  rw [← hw0]
  clear hw0
  go_wp2_with fail
  refine (new_at w0).mono ?_
  rintro e w1 ⟨m, W1, rfl, hm1, hb1, hn1⟩
  have HM1 := Lib.hid hm1; clear hm1
  have HB1 := Lib.hid hb1; clear hb1
  have HN1 := Lib.hid hn1; clear hn1
  go_wp2_with fail
  refine (known_any w1).mono ?_
  rintro e w2 ⟨rfl, hb2⟩
  have HM2 := Lib.hid (HM1.out.below hb2)
  have HB2 := Lib.hid (HB1.out.trans (hb2.mono HB1.out.size)); clear hb2
  clear HM1 HB1
  go_wp2_with fail
  go_loopw [8] (fun i wr => ∃ k : Nat, k ≤ n ∧ i = .int .i64 (k : Int) ∧ ∃ S W, ModelAt wr m S W ∧ Good S ∧ (∀ x, W x → w0.heap.size ≤ x) ∧ Below w0.heap.size w0 wr) (fun i _ => n - (intOf i).toNat)
  case atStart => exact ⟨0, by omega, rfl, _, W1, HM2.out, Good.start, HN1.out, HB2.out⟩
  case round =>
    obtain ⟨k, hk, rfl, S, W, hm, hg, hW, hb⟩ := hrel
    have HM := Lib.hid hm; clear hm
    have HG := Lib.hid hg; clear hg
    have HW := Lib.hid hW; clear hW
    have HB := Lib.hid hb; clear hb
    clear HM2 HB2 HN1
    by_cases hlt : k < n
    · have hkn : (k : Int) < (n : Int) := by omega
      have hk0 : (0 : Int) ≤ (k : Int) := by omega
      obtain ⟨⟨t, dv, st0, dn0⟩, hy⟩ : ∃ y, l[k]? = some y := ⟨l[k]'(by omega), by simp [show k < l.length by omega]⟩
      obtain ⟨⟨b, o, rfl, hbl, hcells⟩, ⟨hbytes, hf⟩, hdl⟩ := HAT.out k _ hy
      dsimp only at hbytes hf hdl
      obtain ⟨da, dc, rfl, hdc⟩ := hf
      obtain ⟨dn, hdn⟩ : ∃ dn, dn = t.data.length := ⟨_, rfl⟩
      rw [← hdn] at hbytes hdc hcells
      clear hy
      have hBw : Below w.heap.size w wr := HB0.out.trans (HB.out.mono (by omega))
      have hAS : AskS b o k t (.slice da dn dc) st0 dn0 wr := (AskS.of (y := ⟨t, .slice da dn dc, st0, dn0⟩) hcells).below hBw hbl
      have hDO := do_at m S W t (.slice da dn dc) st0 dn0 wr.drew (HM.out.kept (Keeps.refl _ wr).drew) HG.out ((hbytes.later hBw).later (Below.refl _ wr).drew) ⟨da, dc, by rw [hdn], by omega⟩ hdl
      unfold Tk.cells at hDO
      have HDO := Lib.hid hDO; clear hDO hbytes hcells hBw
      have HDN := Lib.hid hdn; clear hdn
      have hkz : (((k : Int))).toNat = k := by omega
      go_upto_region 7 with fail
      refine wp_region_held_drew (S := AskS b o k t (.slice da dn dc) st0 dn0) (by kernel_rfl) hAS.drew (fun hHeld => ?_)
      refine wpAnyH_take (i := 0) (v := (.pointer (some ⟨m, 0, none⟩))) ops_at0 (by kernel_rfl) (by kernel_rfl) (by kernel_rfl) (fun _ _ _ h => h) (Or.inl ⟨by rfl, fun V hV => ?_⟩) hHeld ?_
      · go_simp
      simp only [Act.put, List.setIfInBounds_toArray, List.set_cons_zero, List.set_cons_succ]
      refine wpAnyH_take (i := 1) (v := .slice (some ⟨b, o, none⟩) n c0) ops_at1 (by kernel_rfl) (by kernel_rfl) (by kernel_rfl) (fun _ _ _ h => h) (Or.inl ⟨by rfl, fun V hV => ?_⟩) hHeld ?_
      · go_simp
      simp only [Act.put, List.setIfInBounds_toArray, List.set_cons_zero, List.set_cons_succ]
      refine wpAnyH_take (i := 2) (v := .int .i64 (k : Int)) ops_at2 (by kernel_rfl) (by kernel_rfl) (by kernel_rfl) (fun _ _ _ h => h) (Or.inl ⟨by rfl, fun V hV => ?_⟩) hHeld ?_
      · go_simp
      simp only [Act.put, List.setIfInBounds_toArray, List.set_cons_zero, List.set_cons_succ]
      refine wpAnyH_take (i := 3) (v := (.pointer (some ⟨b, o + k * 13, none⟩))) ops_at3 (by kernel_rfl) (by kernel_rfl) (by kernel_rfl) (fun _ _ _ h => h) (Or.inl ⟨by rfl, fun V hV => ?_⟩) hHeld ?_
      · go_simp
      simp only [Act.put, List.setIfInBounds_toArray, List.set_cons_zero, List.set_cons_succ]
      refine wpAnyH_take (i := 4) (v := (.pointer (some ⟨b, o + k * 13, none⟩))) ops_at4 (by kernel_rfl) (by kernel_rfl) (by kernel_rfl) (fun _ _ _ h => h) (Or.inl ⟨by rfl, fun V hV => ?_⟩) hHeld ?_
      · go_simp
      simp only [Act.put, List.setIfInBounds_toArray, List.set_cons_zero, List.set_cons_succ]
      refine wpAnyH_take (i := 5) (v := .agg #[.int .i64 t.cmd, .int .i64 t.tag, .int .i64 t.op, .bool t.ord, .bool t.fua, .int .i64 t.vol, .int .i64 t.lba, .int .i64 t.cnt, .int .i64 t.siz, .int .i64 t.quo, .slice da dn dc]) ops_at5 (by kernel_rfl) (by kernel_rfl) (by kernel_rfl) (fun _ _ _ h => h) (Or.inl ⟨by rfl, fun V hV => ?_⟩) hHeld ?_
      · have hq := hV.cells
        obtain ⟨q0, q1, q2, q3, q4, q5, q6, q7, q8, q9, q10, q11, q12⟩ := hq
        go_simp
      simp only [Act.put, List.setIfInBounds_toArray, List.set_cons_zero, List.set_cons_succ]
      refine wpAnyH_take (i := 6) (v := .slice (some ⟨b, o, none⟩) n c0) ops_at6 (by kernel_rfl) (by kernel_rfl) (by kernel_rfl) (fun _ _ _ h => h) (Or.inl ⟨by rfl, fun V hV => ?_⟩) hHeld ?_
      · go_simp
      simp only [Act.put, List.setIfInBounds_toArray, List.set_cons_zero, List.set_cons_succ]
      refine wpAnyH_take (i := 7) (v := .int .i64 (k : Int)) ops_at7 (by kernel_rfl) (by kernel_rfl) (by kernel_rfl) (fun _ _ _ h => h) (Or.inl ⟨by rfl, fun V hV => ?_⟩) hHeld ?_
      · go_simp
      simp only [Act.put, List.setIfInBounds_toArray, List.set_cons_zero, List.set_cons_succ]
      refine wpAnyH_take (i := 8) (v := (.pointer (some ⟨b, o + k * 13, none⟩))) ops_at8 (by kernel_rfl) (by kernel_rfl) (by kernel_rfl) (fun _ _ _ h => h) (Or.inl ⟨by rfl, fun V hV => ?_⟩) hHeld ?_
      · go_simp
      simp only [Act.put, List.setIfInBounds_toArray, List.set_cons_zero, List.set_cons_succ]
      refine wpAnyH_take (i := 9) (v := (.pointer (some ⟨b, o + k * 13 + 11, none⟩))) ops_at9 (by kernel_rfl) (by kernel_rfl) (by kernel_rfl) (fun _ _ _ h => h) (Or.inl ⟨by rfl, fun V hV => ?_⟩) hHeld ?_
      · go_simp
      simp only [Act.put, List.setIfInBounds_toArray, List.set_cons_zero, List.set_cons_succ]
      refine wpAnyH_take (i := 10) (v := .int .i64 st0) ops_at10 (by kernel_rfl) (by kernel_rfl) (by kernel_rfl) (fun _ _ _ h => h) (Or.inl ⟨by rfl, fun V hV => ?_⟩) hHeld ?_
      · have hq := hV.cells
        obtain ⟨q0, q1, q2, q3, q4, q5, q6, q7, q8, q9, q10, q11, q12⟩ := hq
        go_simp
      simp only [Act.put, List.setIfInBounds_toArray, List.set_cons_zero, List.set_cons_succ]
      refine wpAnyH_take (i := 11) (v := .slice (some ⟨b, o, none⟩) n c0) ops_at11 (by kernel_rfl) (by kernel_rfl) (by kernel_rfl) (fun _ _ _ h => h) (Or.inl ⟨by rfl, fun V hV => ?_⟩) hHeld ?_
      · go_simp
      simp only [Act.put, List.setIfInBounds_toArray, List.set_cons_zero, List.set_cons_succ]
      refine wpAnyH_take (i := 12) (v := .int .i64 (k : Int)) ops_at12 (by kernel_rfl) (by kernel_rfl) (by kernel_rfl) (fun _ _ _ h => h) (Or.inl ⟨by rfl, fun V hV => ?_⟩) hHeld ?_
      · go_simp
      simp only [Act.put, List.setIfInBounds_toArray, List.set_cons_zero, List.set_cons_succ]
      refine wpAnyH_take (i := 13) (v := (.pointer (some ⟨b, o + k * 13, none⟩))) ops_at13 (by kernel_rfl) (by kernel_rfl) (by kernel_rfl) (fun _ _ _ h => h) (Or.inl ⟨by rfl, fun V hV => ?_⟩) hHeld ?_
      · go_simp
      simp only [Act.put, List.setIfInBounds_toArray, List.set_cons_zero, List.set_cons_succ]
      refine wpAnyH_take (i := 14) (v := (.pointer (some ⟨b, o + k * 13 + 12, none⟩))) ops_at14 (by kernel_rfl) (by kernel_rfl) (by kernel_rfl) (fun _ _ _ h => h) (Or.inl ⟨by rfl, fun V hV => ?_⟩) hHeld ?_
      · go_simp
      simp only [Act.put, List.setIfInBounds_toArray, List.set_cons_zero, List.set_cons_succ]
      refine wpAnyH_take (i := 15) (v := .int .i64 dn0) ops_at15 (by kernel_rfl) (by kernel_rfl) (by kernel_rfl) (fun _ _ _ h => h) (Or.inl ⟨by rfl, fun V hV => ?_⟩) hHeld ?_
      · have hq := hV.cells
        obtain ⟨q0, q1, q2, q3, q4, q5, q6, q7, q8, q9, q10, q11, q12⟩ := hq
        go_simp
      simp only [Act.put, List.setIfInBounds_toArray, List.set_cons_zero, List.set_cons_succ]
      refine wpAnyH_ready (rs := [16]) (by kernel_rfl) (by simp) ?_
      refine AllReadyH.cons ops_at16 (fun K hK => ?_) AllReadyH.nil
      rw [if_pos (by rfl)]
      go_simp
      refine HDO.out.mono ?_
      rintro e w5 ⟨r, W', rfl, _, hm5, hk5, hn5⟩
      have hb5 : Below w0.heap.size wr w5 := ((Keeps.refl (fun _ => False) wr).drew.mono (G := W) (fun _ _ h => h.elim) |>.trans hk5 (fun _ _ h => h)).below HB.out.size (fun x hx h => by have := HW.out x h; omega)
      have HM5 := Lib.hid hm5; clear hm5
      have HW5 := Lib.hid (fun x (hx : W' x) => (hn5 x hx).elim (HW.out x) (fun h => Nat.le_trans HB.out.size h)); clear hn5 hk5
      have HB5 := Lib.hid (HB.out.trans hb5)
      have hAS5 := hAS.below hb5 (by omega)
      clear hb5
      go_wp2_with fail
      refine hK.out _ _ hAS5 (fun hHeld2 => ?_)
      clear hK K
      refine wpAnyH_done (by kernel_rfl) ?_ _
      go_wp2
      go_roundw
      case rel => exact ⟨k + 1, by omega, by simp, _, W', HM5.out, HG.out.doS t st0 dn0, HW5.out, HB5.out⟩
      case measure => simp only [intOf]; omega
    · obtain rfl : k = n := by omega
      have hkk : ¬ (k : Int) < (k : Int) := by omega
      have HCP := Lib.hid (copy_at m S W wr HM.out HG.out)
      go_wp2_with fail
      refine HCP.out.mono ?_
      rintro e w3 ⟨c, Wc, rfl, hc3, hk3, hn3c⟩
      have HD := Lib.hid (show Duo w0.heap.size (fun _ => False) w3 m S c S from ⟨W, Wc, HM.out.kept hk3, hc3, fun x hx h => by have := HM.out.lt x h; have := hn3c x hx; omega, fun x hx => ⟨HW.out x hx, id⟩, fun x hx => ⟨Nat.le_trans HB.out.size (hn3c x hx), id⟩, fun x h => h.elim⟩)
      have HB3 := Lib.hid (HB.out.trans (hk3.below HB.out.size (fun _ _ h => h))); clear HB hk3 hn3c hc3 HM HW HCP HAT
      have HB := HB3; clear HB3
      obtain ⟨nb, hnb⟩ : ∃ nb, nb = decide (t1.vol = t2.vol ∨ ¬ ownOp t1.op ∨ ¬ ownOp t2.op) := ⟨_, rfl⟩
      have HNB := Lib.hid hnb; clear hnb
      go_upto_region 11 with fail
      go_cut [66] from 52 to 66 (fun v wx => v = .bool nb ∧ Below w3.heap.size w3 wx)
      case first =>
        have c1 := fun j => (HP1.out.later (HB.out.mono (Nat.le_refl _))).cell j
        have c2 := fun j => (HP2.out.later (HB.out.mono (Nat.le_refl _))).cell j
        unfold Tk.cells at c1 c2
        have x1 := c1 5
        have x2 := c2 5
        simp only [List.getElem?_toArray, List.getElem?_cons_zero, List.getElem?_cons_succ] at x1 x2
        by_cases hv : t1.vol = t2.vol
        · have hl : nb = true := by rw [HNB.out]; simp [hv]
          have bv : (t1.vol == t2.vol) = true := by simp [hv]
          have HL := Lib.hid hl; clear hl hv
          go_wp2_with fail
          go_meet
          exact ⟨by rw [HL.out], Below.refl _ _⟩
        have bv : (t1.vol == t2.vol) = false := by simp [hv]
        have hl : nb = (!(decide (ownOp t1.op)) || !(decide (ownOp t2.op))) := by rw [HNB.out]; simp [hv]
        have HL := Lib.hid hl; clear hl hv
        have HO1 := Lib.hid (own_any t1 (.slice ta tn tc) w3)
        unfold Tk.cells at HO1
        obtain ⟨o1, ho1⟩ : ∃ o1, o1 = decide (ownOp t1.op) := ⟨_, rfl⟩
        obtain ⟨o2, ho2⟩ : ∃ o2, o2 = decide (ownOp t2.op) := ⟨_, rfl⟩
        rw [← ho1] at HO1 HL
        rw [← ho2] at HL
        have HO2 := Lib.hid ho2; clear ho2 ho1
        go_wp2_with fail
        refine HO1.out.mono ?_
        rintro e w4 ⟨rfl, hb4⟩
        cases o1 with
        | false =>
          go_wp2_with fail
          go_meet
          exact ⟨by rw [HL.out]; rfl, hb4⟩
        | true =>
          have c2 := fun j => (HP2.out.later ((HB.out.trans (hb4.mono HB.out.size)).mono (Nat.le_refl _))).cell j
          unfold Tk.cells at c2
          have HO3 := Lib.hid (own_any t2 (.slice ua un uc) w4)
          unfold Tk.cells at HO3
          rw [← HO2.out] at HO3
          have HB4 := Lib.hid hb4; clear hb4
          go_wp2_with fail
          refine HO3.out.mono ?_
          rintro e w5 ⟨rfl, hb5⟩
          go_wp2_with fail
          go_meet
          exact ⟨by rw [HL.out]; rfl, HB4.out.trans (hb5.mono HB4.out.size)⟩
      obtain ⟨rfl, hbc⟩ := hcut
      have HD' := Lib.hid (HD.out.below hbc); clear HD; have HD := HD'; clear HD'
      have HB' := Lib.hid (HB.out.trans (hbc.mono HB.out.size)); clear HB hbc; have HB := HB'; clear HB'
      cases nb with
      | true =>
        go_wp2_with fail
        go_ret
        exact ⟨rfl, HB0.out.trans (HB.out.mono (by omega))⟩
      | false =>
        have hnb := of_decide_eq_false HNB.out.symm
        obtain ⟨⟨qc, qt, sX, kX, dX⟩, ⟨zc, zt, sZ, kZ, dZ⟩, SX, SZ, SF, hqx, hqz, hqy, hqu, hgx, hgz, hgf⟩ := own_pair S HG.out t1 t2 (Classical.byContradiction fun h => hnb (.inr (.inl h))) (Classical.byContradiction fun h => hnb (.inr (.inr h))) (fun h => hnb (.inl h))
        clear hnb HNB
        have HQx := Lib.hid hqx; clear hqx
        have HQz := Lib.hid hqz; clear hqz
        have HQy := Lib.hid hqy; clear hqy
        have HQu := Lib.hid hqu; clear hqu
        have HGX := Lib.hid hgx; clear hgx
        have HGZ := Lib.hid hgz; clear hgz
        have HGF := Lib.hid hgf; clear hgf
        obtain ⟨nX, hnX⟩ : ∃ nX, nX = dX.length := ⟨_, rfl⟩
        obtain ⟨nZ, hnZ⟩ : ∃ nZ, nZ = dZ.length := ⟨_, rfl⟩
        have hnX1 : nX ≤ dX.length := by omega
        have hnX2 : dX.length ≤ nX := by omega
        have hnZ1 : nZ ≤ dZ.length := by omega
        have hnZ2 : dZ.length ≤ nZ := by omega
        have HNx := Lib.hid hnX
        have HNu := Lib.hid hnX; clear hnX
        have HNy := Lib.hid hnZ
        have HNz := Lib.hid hnZ; clear hnZ
        have cT := fun j => (HP1.out.later (HB.out.mono (Nat.le_refl _))).cell j
        unfold Tk.cells at cT
        have hBz : w0.heap.size ≤ wc.heap.size := HB.out.size
        have hDX := duo_do t1 (.slice ta tn tc) 0 0 HD.out hBz HG.out (HTB.out.later (HB0.out.trans (HB.out.mono (by omega)))) ⟨_, _, by rw [← HTN.out], by rw [← HTN.out]; exact htc⟩ htl
        rw [HQx.out] at hDX
        dsimp only [replyCells] at hDX
        unfold Tk.cells at hDX
        have HDX := Lib.hid hDX; clear hDX
        go_wp2_with fail
        refine HDX.out.mono ?_
        rintro e w4x ⟨rx, rfl, ho, hdu, hkp⟩
        clear HDX cT
        obtain ⟨ax, cx, rfl, _⟩ := ho.bytes.form
        rw [← HNx.out] at ho ⊢
        obtain ⟨Vx, hw5⟩ : ∃ w5, w5 = w4x.alloc (.cells #[.int .i64 t1.cmd, .int .i64 t1.tag, .int .i64 sX, .int .i64 kX, .slice ax nX cx] 35) := ⟨_, rfl⟩
        obtain ⟨Gx, hgm, hgx, hd5, hk5, hc5, hkb⟩ := duo_box hw5 hdu hkp
        have HOx := Lib.hid (hkb.owns ho (fun _ _ h => h))
        have HCx := Lib.hid hc5; clear hc5 hkb ho hdu hkp
        have HB' := Lib.hid (HB.out.trans (hk5.below hBz)); clear HB; have HB := HB'; clear HB'
        clear HD; have HD := Lib.hid hd5; clear hd5 hk5 hgm hBz
        go_upto_region 14 with fail
        rw [← hw5]
        clear hw5
        have cT := fun j => (HP2.out.later (HB.out.mono (Nat.le_refl _))).cell j
        unfold Tk.cells at cT
        have hBz : w0.heap.size ≤ Vx.heap.size := HB.out.size
        have hDX := duo_do t2 (.slice ua un uc) 0 0 HD.out hBz HGX.out (HUB.out.later (HB0.out.trans (HB.out.mono (by omega)))) ⟨_, _, by rw [← HUN.out], by rw [← HUN.out]; exact huc⟩ hul
        rw [HQy.out] at hDX
        dsimp only [replyCells] at hDX
        unfold Tk.cells at hDX
        have HDX := Lib.hid hDX; clear hDX
        go_wp2_with fail
        refine HDX.out.mono ?_
        rintro e w4y ⟨ry, rfl, ho, hdu, hkp⟩
        clear HDX cT
        obtain ⟨ay, cy, rfl, _⟩ := ho.bytes.form
        rw [← HNy.out] at ho ⊢
        obtain ⟨Vy, hw5⟩ : ∃ w5, w5 = w4y.alloc (.cells #[.int .i64 t2.cmd, .int .i64 t2.tag, .int .i64 sZ, .int .i64 kZ, .slice ay nZ cy] 35) := ⟨_, rfl⟩
        obtain ⟨Gy, hgm, hgy, hd5, hk5, hc5, hkb⟩ := duo_box hw5 hdu hkp
        have HOy := Lib.hid (hkb.owns ho (fun _ _ h => h))
        have HCy := Lib.hid hc5; clear hc5 hkb ho hdu hkp
        have HOx' := Lib.hid (hk5.owns HOx.out); clear HOx; have HOx := HOx'; clear HOx'
        have HCx' := Lib.hid (hk5.cells HCx.out (.inr hgx)); clear HCx; have HCx := HCx'; clear HCx'
        have hgx := hgm _ hgx
        have HB' := Lib.hid (HB.out.trans (hk5.below hBz)); clear HB; have HB := HB'; clear HB'
        clear HD; have HD := Lib.hid hd5; clear hd5 hk5 hgm hBz
        go_upto_region 15 with fail
        rw [← hw5]
        clear hw5
        have cT := fun j => (HP2.out.later (HB.out.mono (Nat.le_refl _))).cell j
        unfold Tk.cells at cT
        have hBz : w0.heap.size ≤ Vy.heap.size := HB.out.size
        have hDX := duo_do t2 (.slice ua un uc) 0 0 HD.out.swap hBz HG.out (HUB.out.later (HB0.out.trans (HB.out.mono (by omega)))) ⟨_, _, by rw [← HUN.out], by rw [← HUN.out]; exact huc⟩ hul
        rw [HQz.out] at hDX
        dsimp only [replyCells] at hDX
        unfold Tk.cells at hDX
        have HDX := Lib.hid hDX; clear hDX
        go_wp2_with fail
        refine HDX.out.mono ?_
        rintro e w4z ⟨rz, rfl, ho, hdu, hkp⟩
        clear HDX cT
        obtain ⟨az, cz, rfl, _⟩ := ho.bytes.form
        rw [← HNz.out] at ho ⊢
        obtain ⟨Vz, hw5⟩ : ∃ w5, w5 = w4z.alloc (.cells #[.int .i64 t2.cmd, .int .i64 t2.tag, .int .i64 sZ, .int .i64 kZ, .slice az nZ cz] 35) := ⟨_, rfl⟩
        obtain ⟨Gz, hgm, hgz, hd5, hk5, hc5, hkb⟩ := duo_box hw5 hdu hkp
        have HOz := Lib.hid (hkb.owns ho (fun _ _ h => h))
        have HCz := Lib.hid hc5; clear hc5 hkb ho hdu hkp
        have HOx' := Lib.hid (hk5.owns HOx.out); clear HOx; have HOx := HOx'; clear HOx'
        have HCx' := Lib.hid (hk5.cells HCx.out (.inr hgx)); clear HCx; have HCx := HCx'; clear HCx'
        have hgx := hgm _ hgx
        have HOy' := Lib.hid (hk5.owns HOy.out); clear HOy; have HOy := HOy'; clear HOy'
        have HCy' := Lib.hid (hk5.cells HCy.out (.inr hgy)); clear HCy; have HCy := HCy'; clear HCy'
        have hgy := hgm _ hgy
        have HB' := Lib.hid (HB.out.trans (hk5.below hBz)); clear HB; have HB := HB'; clear HB'
        clear HD; have HD := Lib.hid hd5.swap; clear hd5 hk5 hgm hBz
        go_upto_region 16 with fail
        rw [← hw5]
        clear hw5
        have cT := fun j => (HP1.out.later (HB.out.mono (Nat.le_refl _))).cell j
        unfold Tk.cells at cT
        have hBz : w0.heap.size ≤ Vz.heap.size := HB.out.size
        have hDX := duo_do t1 (.slice ta tn tc) 0 0 HD.out.swap hBz HGZ.out (HTB.out.later (HB0.out.trans (HB.out.mono (by omega)))) ⟨_, _, by rw [← HTN.out], by rw [← HTN.out]; exact htc⟩ htl
        rw [HQu.out] at hDX
        dsimp only [replyCells] at hDX
        unfold Tk.cells at hDX
        have HDX := Lib.hid hDX; clear hDX
        go_wp2_with fail
        refine HDX.out.mono ?_
        rintro e w4u ⟨ru, rfl, ho, hdu, hkp⟩
        clear HDX cT
        obtain ⟨au, cu, rfl, _⟩ := ho.bytes.form
        rw [← HNu.out] at ho ⊢
        obtain ⟨Vu, hw5⟩ : ∃ w5, w5 = w4u.alloc (.cells #[.int .i64 t1.cmd, .int .i64 t1.tag, .int .i64 sX, .int .i64 kX, .slice au nX cu] 35) := ⟨_, rfl⟩
        obtain ⟨Gu, hgm, hgu, hd5, hk5, hc5, hkb⟩ := duo_box hw5 hdu hkp
        have HOu := Lib.hid (hkb.owns ho (fun _ _ h => h))
        have HCu := Lib.hid hc5; clear hc5 hkb ho hdu hkp
        have HOx' := Lib.hid (hk5.owns HOx.out); clear HOx; have HOx := HOx'; clear HOx'
        have HCx' := Lib.hid (hk5.cells HCx.out (.inr hgx)); clear HCx; have HCx := HCx'; clear HCx'
        have hgx := hgm _ hgx
        have HOy' := Lib.hid (hk5.owns HOy.out); clear HOy; have HOy := HOy'; clear HOy'
        have HCy' := Lib.hid (hk5.cells HCy.out (.inr hgy)); clear HCy; have HCy := HCy'; clear HCy'
        have hgy := hgm _ hgy
        have HOz' := Lib.hid (hk5.owns HOz.out); clear HOz; have HOz := HOz'; clear HOz'
        have HCz' := Lib.hid (hk5.cells HCz.out (.inr hgz)); clear HCz; have HCz := HCz'; clear HCz'
        have hgz := hgm _ hgz
        have HB' := Lib.hid (HB.out.trans (hk5.below hBz)); clear HB; have HB := HB'; clear HB'
        clear HD; have HD := Lib.hid hd5.swap; clear hd5 hk5 hgm hBz
        go_upto_region 17 with fail
        rw [← hw5]
        clear hw5
        go_cut [96] from 79 to 96 (fun v wx => v = .bool false ∧ Duo w0.heap.size (fun _ => False) wx m SF c SF ∧ Below w0.heap.size w0 wx)
        case first =>
          have x1 := fun j => HCx.out.cell j
          have x2 := fun j => HCu.out.cell j
          have HS1 := Lib.hid (same_any _ _ t1 sX kX _ _ nX _ _ dX Vu HOx.out HOu.out hnX1 hnX2)
          unfold replyCells at HS1
          go_wp2_with fail
          refine HS1.out.mono ?_
          rintro e V1 ⟨rfl, hb1⟩
          clear x1 x2 HS1
          have x1 := fun j => (HCy.out.later hb1).cell j
          have x2 := fun j => (HCz.out.later hb1).cell j
          have HS2 := Lib.hid (same_any _ _ t2 sZ kZ _ _ nZ _ _ dZ V1 ((Keeps.of_below (F := fun _ => False) hb1).owns HOy.out (fun _ _ h => h)) ((Keeps.of_below (F := fun _ => False) hb1).owns HOz.out (fun _ _ h => h)) hnZ1 hnZ2)
          unfold replyCells at HS2
          have HD1 := Lib.hid (HD.out.below hb1)
          have HB1 := Lib.hid (HB.out.trans (hb1.mono HB.out.size)); clear hb1
          go_wp2_with fail
          refine HS2.out.mono ?_
          rintro e V2 ⟨rfl, hb2⟩
          clear x1 x2 HS2
          have HD2 := Lib.hid (HD1.out.below hb2)
          have HB2 := Lib.hid (HB1.out.trans (hb2.mono HB1.out.size)); clear hb2
          have HV1 := Lib.hid (duo_vols HD2.out HGF.out)
          go_wp2_with fail
          refine HV1.out.mono ?_
          rintro e V3 ⟨a3, n3, c3, rfl, hr3, hk3⟩
          have HD3 := Lib.hid (HD2.out.kept hk3)
          have HB3 := Lib.hid (HB2.out.trans (hk3.below HB2.out.size (fun _ _ h => h))); clear hk3
          have HR3 := Lib.hid hr3; clear hr3
          have HV2 := Lib.hid (duo_vols HD3.out.swap HGF.out)
          go_wp2_with fail
          refine HV2.out.mono ?_
          rintro e V4 ⟨a4, n4, c4, rfl, hr4, hk4⟩
          have HEQ := Lib.hid (eqvols_any _ _ _ _ SF.vols SF.vols.length V4 (hk4.owns HR3.out (fun _ _ h => h)) hr4 (Nat.le_refl _) (Nat.le_refl _) HGF.out.len)
          have HD4 := Lib.hid (HD3.out.kept hk4)
          have HB4 := Lib.hid (HB3.out.trans (hk4.below HB3.out.size (fun _ _ h => h))); clear hk4 hr4
          go_wp2_with fail
          refine HEQ.out.mono ?_
          rintro e V5 ⟨rfl, hb5⟩
          have HD5 := Lib.hid ((HD4.out.below hb5).less (G := fun _ => False) (fun z h => h.elim))
          have HB5 := Lib.hid (HB4.out.trans (hb5.mono HB4.out.size)); clear hb5
          go_wp2_with fail
          go_meet
          exact ⟨rfl, HD5.out, HB5.out⟩
        obtain ⟨rfl, hdc, hbc⟩ := hcut
        clear HD HB HOx HOy HOz HOu HCx HCy HCz HCu hgx hgy hgz hgu
        have HD := Lib.hid hdc; clear hdc
        have HB := Lib.hid hbc; clear hbc
        have HG' := HGF; clear HG HGF; have HG := HG'; clear HG'
        have HVM := Lib.hid (duo_list HD.out HG.out)
        go_wp2_with fail
        refine HVM.out.mono ?_
        rintro e wl ⟨al, nv, cl, G, rfl, hrl, hkl, hdl, _, hGr, hnv1, hnv2⟩
        have HDU := Lib.hid hdl; clear hdl HD
        have HROW := Lib.hid hrl; clear hrl
        have HBL := Lib.hid (HB.out.trans (hkl.below HB.out.size (fun _ _ h => h))); clear hkl HB HVM
        obtain ⟨S, hS0⟩ : ∃ S, S = SF := ⟨_, rfl⟩
        rw [← hS0] at HDU HG HROW hnv1 hnv2
        have hnv8 : nv ≤ 8 := Nat.le_trans hnv1 HG.out.len
        clear hS0 HQx HQy HQz HQu HNx HNy HNz HNu HGX HGZ hnX1 hnX2 hnZ1 hnZ2
        obtain ⟨B, hB1⟩ : ∃ B, B = w0.heap.size := ⟨_, rfl⟩
        have hBw0 : B ≤ w0.heap.size := by omega
        have hBw1 : w0.heap.size ≤ B := by omega
        rw [← hB1] at HDU HBL
        clear hB1
        obtain ⟨base, hbase⟩ : ∃ base, base = wc.heap.size := ⟨_, rfl⟩
        rw [← hbase] at HROW
        clear hbase
        go_wp2_with fail
        go_loopw [15] (fun i wv => ∃ x : Nat, x ≤ nv ∧ i = .int .i64 (x : Int) ∧ Duo B G wv m S c S ∧ wv.ownsRow base 45 6 (.slice al nv cl) nv (volsV S.vols) ∧ Below B w0 wv) (fun i _ => nv - (intOf i).toNat)
        case atStart => exact ⟨0, by omega, rfl, HDU.out, HROW.out, HBL.out⟩
        case round =>
          obtain ⟨x, hx, rfl, hdu, hrow, hbl⟩ := hrel
          clear HDU HROW HBL
          have HDU := Lib.hid hdu; clear hdu
          have HROW := Lib.hid hrow; clear hrow
          have HBL := Lib.hid hbl; clear hbl
          by_cases hlt : x < nv
          rotate_left
          · obtain rfl : x = nv := by omega
            have hkk : ¬ (x : Int) < (x : Int) := by omega
            go_wp2
            go_ret
            exact ⟨rfl, HB0.out.trans (HBL.out.mono (by omega))⟩
          have hxn : (x : Int) < (nv : Int) := by omega
          have hx0 : (0 : Int) ≤ (x : Int) := by omega
          obtain ⟨gl, rfl⟩ : ∃ gl, al = some ⟨gl, 0, none⟩ := by
            rcases HROW.out.2 with ⟨e, h0⟩ | ⟨g, cap, cur, e, _⟩
            · omega
            · injection e with e1; exact ⟨g, e1⟩
          obtain ⟨v, hv⟩ : ∃ v, S.vols[x]? = some v := ⟨S.vols[x]'(by omega), by simp [show x < S.vols.length by omega]⟩
          have HV := Lib.hid hv; clear hv
          go_wp2_with fail
          go_loopw [16] (fun i wr => ∃ y : Nat, y ≤ 24 ∧ i = .int .i64 (y : Int) ∧ Duo B G wr m S c S ∧ wr.ownsRow base 45 6 (.slice (some ⟨gl, 0, none⟩) nv cl) nv (volsV S.vols) ∧ Below B w0 wr) (fun i _ => 24 - (intOf i).toNat)
          case atStart => exact ⟨0, by omega, rfl, HDU.out, HROW.out, HBL.out⟩
          case round =>
            obtain ⟨y, hy, rfl, hdu, hrow, hbl⟩ := hrel
            clear HDU HROW HBL
            have HDU := Lib.hid hdu; clear hdu
            have HROW := Lib.hid hrow; clear hrow
            have HBL := Lib.hid hbl; clear hbl
            have q0 := (World.ownsRow.cellAt HROW.out (x * 6 + 0) (by omega)).trans (volsV_get S.vols x 0 v HV.out (by omega))
            have q2 := (World.ownsRow.cellAt HROW.out (x * 6 + 2) (by omega)).trans (volsV_get S.vols x 2 v HV.out (by omega))
            simp only [vcell, List.getElem?_cons_zero, List.getElem?_cons_succ, Nat.add_zero] at q0 q2
            by_cases hin : y < 24 ∧ (y : Int) < v.size
            rotate_left
            · have hcase : ((y : Int) < 24 ∧ ¬ (y : Int) < v.size) ∨ ¬ (y : Int) < 24 := by omega
              clear hin
              rcases hcase with ⟨k1, k2⟩ | k1
              all_goals
                go_wp2
                go_roundw
                case rel => exact ⟨x + 1, by omega, by simp, HDU.out, HROW.out, HBL.out⟩
                case measure => simp only [intOf]; omega
            obtain ⟨hy1, hy2⟩ := hin
            have hy3 : (y : Int) < 24 := by omega
            obtain ⟨wt, hwt⟩ : ∃ wt, wt = wr.alloc (.cells #[.int .i64 0, .int .i64 0, .int .i64 2, .bool false, .bool false, .int .i64 v.id, .int .i64 (y : Int), .int .i64 1, .int .i64 0, .int .i64 0, .slice none 0 0] 30) := ⟨_, rfl⟩
            have hkt : Keeps (fun _ => False) wr wt := by rw [hwt]; exact (Keeps.refl _ wr).alloc _
            have hct : CellsAt wt wr.heap.size #[.int .i64 0, .int .i64 0, .int .i64 2, .bool false, .bool false, .int .i64 v.id, .int .i64 (y : Int), .int .i64 1, .int .i64 0, .int .i64 0, .slice none 0 0] 30 := by rw [hwt]; exact heap_at rfl
            have hzt : wr.heap.size < wt.heap.size := hct.lt
            have hBq : B ≤ wr.heap.size := Nat.le_trans hBw0 HBL.out.size
            have HDT := Lib.hid (HDU.out.also hkt (fun z => z = wr.heap.size) (fun z h => by omega) (fun z h => by omega))
            have HROT := Lib.hid (hkt.owns HROW.out (fun _ _ h => h))
            have HBT := Lib.hid (HBL.out.trans (hkt.below (B := B) hBq (fun _ _ h => h)))
            clear hkt HDU HROW HBL
            obtain ⟨⟨⟨qc, qt, sq, kq, dq⟩, Sq⟩, hq⟩ : ∃ q, q = doS S (rdTk v.id y) 0 0 := ⟨_, rfl⟩
            have hSq : S = Sq := by have := read_still S (rdTk v.id y) rfl; rw [← hq] at this; exact this.symm
            subst hSq
            obtain ⟨nq, hnq⟩ : ∃ nq, nq = dq.length := ⟨_, rfl⟩
            have hnq1 : nq ≤ dq.length := by omega
            have hnq2 : dq.length ≤ nq := by omega
            have HNQ := Lib.hid hnq; clear hnq
            have HQ := Lib.hid hq; clear hq
            go_upto_region 27 with fail
            rw [← hwt]
            clear hwt q0 q2
            refine wp_region_held_drew (S := fun V => CellsAt V wr.heap.size #[.int .i64 0, .int .i64 0, .int .i64 2, .bool false, .bool false, .int .i64 v.id, .int .i64 (y : Int), .int .i64 1, .int .i64 0, .int .i64 0, .slice none 0 0] 30) (by kernel_rfl) hct.drew (fun hHeld => ?_)
            have hct := hct.drew
            have HDT := Lib.hid (HDT.out.kept (Keeps.refl _ wt).drew)
            have HROT := Lib.hid (World.ownsRow.drew HROT.out)
            have HBT := Lib.hid (HBT.out.drew)
            have hBT : B ≤ wt.drew.heap.size := Nat.le_trans hBw0 HBT.out.size
            refine wpAnyH_take (i := 0) (v := .pointer (some ⟨m, 0, none⟩)) ops_at0 (by kernel_rfl) (by kernel_rfl) (by kernel_rfl) (fun _ _ _ h => h) (Or.inl ⟨by rfl, fun V hV => ?_⟩) hHeld ?_
            · go_simp
            simp only [Act.put, List.setIfInBounds_toArray, List.set_cons_zero, List.set_cons_succ]
            refine wpAnyH_take (i := 1) (v := .agg #[.int .i64 0, .int .i64 0, .int .i64 2, .bool false, .bool false, .int .i64 v.id, .int .i64 (y : Int), .int .i64 1, .int .i64 0, .int .i64 0, .slice none 0 0]) ops_at1 (by kernel_rfl) (by kernel_rfl) (by kernel_rfl) (fun _ _ _ h => h) (Or.inl ⟨by rfl, fun V hV => ?_⟩) hHeld ?_
            · have hcv := fun j => CellsAt.cell hV j
              go_simp
            simp only [Act.put, List.setIfInBounds_toArray, List.set_cons_zero, List.set_cons_succ]
            refine wpAnyH_take (i := 3) (v := .pointer (some ⟨c, 0, none⟩)) ops_at3 (by kernel_rfl) (by kernel_rfl) (by kernel_rfl) (fun _ _ _ h => h) (Or.inl ⟨by rfl, fun V hV => ?_⟩) hHeld ?_
            · go_simp
            simp only [Act.put, List.setIfInBounds_toArray, List.set_cons_zero, List.set_cons_succ]
            refine wpAnyH_take (i := 4) (v := .agg #[.int .i64 0, .int .i64 0, .int .i64 2, .bool false, .bool false, .int .i64 v.id, .int .i64 (y : Int), .int .i64 1, .int .i64 0, .int .i64 0, .slice none 0 0]) ops_at4 (by kernel_rfl) (by kernel_rfl) (by kernel_rfl) (fun _ _ _ h => h) (Or.inl ⟨by rfl, fun V hV => ?_⟩) hHeld ?_
            · have hcv := fun j => CellsAt.cell hV j
              go_simp
            simp only [Act.put, List.setIfInBounds_toArray, List.set_cons_zero, List.set_cons_succ]
            refine wpAnyH_ready (rs := [2]) (by kernel_rfl) (by simp) ?_
            refine AllReadyH.cons ops_at2 (fun K hK => ?_) AllReadyH.nil
            have hDO := duo_do (rdTk v.id y) (.slice none 0 0) 0 0 HDT.out (by exact hBT) HG.out (.inl ⟨rfl, none, 0, rfl, fun _ => rfl⟩) ⟨none, 0, rfl, Nat.le_refl _⟩ (by simp [rdTk])
            rw [← HQ.out] at hDO
            dsimp only [replyCells, Tk.cells, rdTk] at hDO
            have HDO := Lib.hid hDO; clear hDO
            rw [if_pos (by rfl)]
            go_simp
            refine HDO.out.mono ?_
            rintro e V1 ⟨ra, rfl, hoa, hdua, hkpa⟩
            clear HDO
            obtain ⟨aa, ca, rfl, _⟩ := hoa.bytes.form
            rw [← HNQ.out] at hoa ⊢
            have hcta := hkpa.cells hct (.inr (.inr rfl))
            have HOa := Lib.hid hoa; clear hoa
            have HDa := Lib.hid (hdua); clear hdua
            have hBV1 : B ≤ V1.heap.size := Nat.le_trans hBT hkpa.size
            have HROa := Lib.hid (hkpa.row HROT.out (fun k hk => .inl (hGr k hk)))
            have HBEa := Lib.hid (HBT.out.trans (hkpa.below hBT)); clear hkpa
            go_wp2_with fail
            refine hK.out _ _ hcta (fun hHeld => ?_)
            clear hK K
            refine wpAnyH_ready (rs := [5]) (by kernel_rfl) (by simp) ?_
            refine AllReadyH.cons ops_at5 (fun K hK => ?_) AllReadyH.nil
            have hDO := duo_do (rdTk v.id y) (.slice none 0 0) 0 0 HDa.out.swap (by exact hBV1) HG.out (.inl ⟨rfl, none, 0, rfl, fun _ => rfl⟩) ⟨none, 0, rfl, Nat.le_refl _⟩ (by simp [rdTk])
            rw [← HQ.out] at hDO
            dsimp only [replyCells, Tk.cells, rdTk] at hDO
            have HDO := Lib.hid hDO; clear hDO
            rw [if_pos (by rfl)]
            go_simp
            refine HDO.out.mono ?_
            rintro e V2 ⟨rb, rfl, hob, hdub, hkpb⟩
            clear HDO
            obtain ⟨ab, cb, rfl, _⟩ := hob.bytes.form
            rw [← HNQ.out] at hob ⊢
            have hctb := hkpb.cells hcta (.inr (.inr rfl))
            have HOab := Lib.hid (hkpb.owns HOa.out)
            have HOb := Lib.hid hob; clear hob
            have HDb := Lib.hid (hdub.swap); clear hdub
            have HROb := Lib.hid (hkpb.row HROa.out (fun k hk => .inl (hGr k hk)))
            have HBEb := Lib.hid (HBEa.out.trans (hkpb.below hBV1)); clear hkpb
            go_wp2_with fail
            refine hK.out _ _ hctb (fun hHeld => ?_)
            clear hK K
            refine wpAnyH_ready (rs := [6]) (by kernel_rfl) (by simp) ?_
            refine AllReadyH.cons ops_at6 (fun K hK => ?_) AllReadyH.nil
            have hSM := same_any _ _ (rdTk v.id y) sq kq aa ab nq ca cb dq V2 HOab.out HOb.out hnq1 hnq2
            dsimp only [replyCells, rdTk] at hSM
            have HSM := Lib.hid hSM; clear hSM
            rw [if_pos (by rfl)]
            go_simp
            refine HSM.out.mono ?_
            rintro e V3 ⟨rfl, hb3⟩
            have hct3 := hctb.later hb3
            have HDZ := Lib.hid ((HDb.out.below hb3).less (G := G) (fun z h => .inl h))
            have HRZ := Lib.hid ((Keeps.of_below (F := fun _ => False) hb3).owns HROb.out (fun _ _ h => h))
            have HBZ := Lib.hid (HBEb.out.trans (hb3.mono (Nat.le_trans hBw0 HBEb.out.size))); clear hb3
            go_wp2_with fail
            refine hK.out _ _ hct3 (fun hHeld => ?_)
            clear hK K
            refine wpAnyH_take (i := 7) (v := .bool false) ops_at7 (by kernel_rfl) (by kernel_rfl) (by kernel_rfl) (fun _ _ _ h => h) (Or.inl ⟨by rfl, fun V hV => ?_⟩) hHeld ?_
            · go_simp
            simp only [Act.put, List.setIfInBounds_toArray, List.set_cons_zero, List.set_cons_succ]
            refine wpAnyH_done (by kernel_rfl) ?_ _
            go_wp2
            go_roundw
            case rel => exact ⟨y + 1, by omega, by simp, HDZ.out, HRZ.out, HBZ.out⟩
            case measure => simp only [intOf]; omega
end Go.Proofs.Ytmanldcohbegkaa
