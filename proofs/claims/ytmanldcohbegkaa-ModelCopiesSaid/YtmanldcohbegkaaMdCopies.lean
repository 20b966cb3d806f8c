/-
  ModelCopies: the walk. (Written by gen_mdcopies.py.)
-/
import Derived.Test.YtmanldcohbegkaaMdRun
namespace Go.Proofs.Ytmanldcohbegkaa
open Go.RowKit

set_option maxRecDepth 100000 in
set_option maxHeartbeats 12800000 in
theorem copies_law (a0 : Option Addr) (n c0 : Nat) (l : List AskV) (a1 : Option Addr) (n1 c1 : Nat) (l1 : List AskV) (w0 : World) (ho : AsksAt w0 (.slice a0 n c0) l) (hn : n ≤ maxLen) (ho1 : AsksAt w0 (.slice a1 n1 c1) l1) (hn1 : n1 ≤ maxLen) :
    Calls Try.prog 8 #[.slice a0 n c0, .slice a1 n1 c1] w0 fun e w' => e = .returned (.bool true) ∧ Below w0.heap.size w0 w' := by
  obtain ⟨w, hw⟩ : ∃ w, w = w0 := ⟨_, rfl⟩
  have HB0 := Lib.hid (show Below w.heap.size w w0 by rw [hw]; exact Below.refl _ _)
  have hz0a : w.heap.size ≤ w0.heap.size := HB0.out.size
  rw [← hw] at ho ho1
  clear hw
  obtain ⟨q1, hat⟩ := ho.at
  have hn2 : n ≤ l.length := by omega
  have hn3 : l.length ≤ n := by omega
  have hn4 : n ≤ 9223372036854775807 := hn
  obtain ⟨q2, hat1⟩ := ho1.at
  have hm2 : n1 ≤ l1.length := by omega
  have hm3 : l1.length ≤ n1 := by omega
  have hm4 : n1 ≤ 9223372036854775807 := hn1
  clear q1 q2
  have HAT := Lib.hid hat; clear hat ho
  have HAT1 := Lib.hid hat1; clear hat1 ho1
  go_enter Try.func8, Try.ntmps8
  go_wp2_with fail
  refine (new_at w0).mono ?_
  rintro e w1 ⟨m, W1, rfl, hm1, hb1, hn1⟩
  have HM1 := Lib.hid hm1; clear hm1
  have HB1 := Lib.hid hb1; clear hb1
  have HN1 := Lib.hid hn1; clear hn1
  go_wp2_with fail
  refine (known_any w1).mono ?_
  rintro e w2 ⟨rfl, hb2⟩
  have HM2 := Lib.hid (HM1.out.below hb2)
  have HB2 := Lib.hid (HB1.out.trans (hb2.mono HB1.out.size)); clear hb2
  clear HM1 HB1
  go_wp2_with fail
  go_loopw [6] (fun i wr => ∃ k : Nat, k ≤ n ∧ i = .int .i64 (k : Int) ∧ ∃ S W, ModelAt wr m S W ∧ Good S ∧ (∀ x, W x → w0.heap.size ≤ x) ∧ Below w0.heap.size w0 wr) (fun i _ => n - (intOf i).toNat)
  case atStart => exact ⟨0, by omega, rfl, _, W1, HM2.out, Good.start, HN1.out, HB2.out⟩
  case round =>
    obtain ⟨k, hk, rfl, S, W, hm, hg, hW, hb⟩ := hrel
    have HM := Lib.hid hm; clear hm
    have HG := Lib.hid hg; clear hg
    have HW := Lib.hid hW; clear hW
    have HB := Lib.hid hb; clear hb
    clear HM2 HB2 HN1
    by_cases hlt : k < n
    · have hkn : (k : Int) < (n : Int) := by omega
      have hk0 : (0 : Int) ≤ (k : Int) := by omega
      obtain ⟨⟨t, dv, st0, dn0⟩, hy⟩ : ∃ y, l[k]? = some y := ⟨l[k]'(by omega), by simp [show k < l.length by omega]⟩
      obtain ⟨⟨b, o, rfl, hbl, hcells⟩, ⟨hbytes, hf⟩, hdl⟩ := HAT.out k _ hy
      dsimp only at hbytes hf hdl
      obtain ⟨da, dc, rfl, hdc⟩ := hf
      obtain ⟨dn, hdn⟩ : ∃ dn, dn = t.data.length := ⟨_, rfl⟩
      rw [← hdn] at hbytes hdc hcells
      clear hy
      have hBw : Below w.heap.size w wr := HB0.out.trans (HB.out.mono (by omega))
      have hAS : AskS b o k t (.slice da dn dc) st0 dn0 wr := (AskS.of (y := ⟨t, .slice da dn dc, st0, dn0⟩) hcells).below hBw hbl
      have hDO := do_at m S W t (.slice da dn dc) st0 dn0 wr.drew (HM.out.kept (Keeps.refl _ wr).drew) HG.out ((hbytes.later hBw).later (Below.refl _ wr).drew) ⟨da, dc, by rw [hdn], by omega⟩ hdl
      unfold Tk.cells at hDO
      have HDO := Lib.hid hDO; clear hDO hbytes hcells hBw
      have HDN := Lib.hid hdn; clear hdn
      have hkz : (((k : Int))).toNat = k := by omega
      go_upto_region 7 with fail
      refine wp_region_held_drew (S := AskS b o k t (.slice da dn dc) st0 dn0) (by kernel_rfl) hAS.drew (fun hHeld => ?_)
      refine wpAnyH_take (i := 0) (v := (.pointer (some ⟨m, 0, none⟩))) ops_at0 (by kernel_rfl) (by kernel_rfl) (by kernel_rfl) (fun _ _ _ h => h) (Or.inl ⟨by rfl, fun V hV => ?_⟩) hHeld ?_
      · go_simp
      simp only [Act.put, List.setIfInBounds_toArray, List.set_cons_zero, List.set_cons_succ]
      refine wpAnyH_take (i := 1) (v := .slice (some ⟨b, o, none⟩) n c0) ops_at1 (by kernel_rfl) (by kernel_rfl) (by kernel_rfl) (fun _ _ _ h => h) (Or.inl ⟨by rfl, fun V hV => ?_⟩) hHeld ?_
      · go_simp
      simp only [Act.put, List.setIfInBounds_toArray, List.set_cons_zero, List.set_cons_succ]
      refine wpAnyH_take (i := 2) (v := .int .i64 (k : Int)) ops_at2 (by kernel_rfl) (by kernel_rfl) (by kernel_rfl) (fun _ _ _ h => h) (Or.inl ⟨by rfl, fun V hV => ?_⟩) hHeld ?_
      · go_simp
      simp only [Act.put, List.setIfInBounds_toArray, List.set_cons_zero, List.set_cons_succ]
      refine wpAnyH_take (i := 3) (v := (.pointer (some ⟨b, o + k * 13, none⟩))) ops_at3 (by kernel_rfl) (by kernel_rfl) (by kernel_rfl) (fun _ _ _ h => h) (Or.inl ⟨by rfl, fun V hV => ?_⟩) hHeld ?_
      · go_simp
      simp only [Act.put, List.setIfInBounds_toArray, List.set_cons_zero, List.set_cons_succ]
      refine wpAnyH_take (i := 4) (v := (.pointer (some ⟨b, o + k * 13, none⟩))) ops_at4 (by kernel_rfl) (by kernel_rfl) (by kernel_rfl) (fun _ _ _ h => h) (Or.inl ⟨by rfl, fun V hV => ?_⟩) hHeld ?_
      · go_simp
      simp only [Act.put, List.setIfInBounds_toArray, List.set_cons_zero, List.set_cons_succ]
      refine wpAnyH_take (i := 5) (v := .agg #[.int .i64 t.cmd, .int .i64 t.tag, .int .i64 t.op, .bool t.ord, .bool t.fua, .int .i64 t.vol, .int .i64 t.lba, .int .i64 t.cnt, .int .i64 t.siz, .int .i64 t.quo, .slice da dn dc]) ops_at5 (by kernel_rfl) (by kernel_rfl) (by kernel_rfl) (fun _ _ _ h => h) (Or.inl ⟨by rfl, fun V hV => ?_⟩) hHeld ?_
      · have hq := hV.cells
        obtain ⟨q0, q1, q2, q3, q4, q5, q6, q7, q8, q9, q10, q11, q12⟩ := hq
        go_simp
      simp only [Act.put, List.setIfInBounds_toArray, List.set_cons_zero, List.set_cons_succ]
      refine wpAnyH_take (i := 6) (v := .slice (some ⟨b, o, none⟩) n c0) ops_at6 (by kernel_rfl) (by kernel_rfl) (by kernel_rfl) (fun _ _ _ h => h) (Or.inl ⟨by rfl, fun V hV => ?_⟩) hHeld ?_
      · go_simp
      simp only [Act.put, List.setIfInBounds_toArray, List.set_cons_zero, List.set_cons_succ]
      refine wpAnyH_take (i := 7) (v := .int .i64 (k : Int)) ops_at7 (by kernel_rfl) (by kernel_rfl) (by kernel_rfl) (fun _ _ _ h => h) (Or.inl ⟨by rfl, fun V hV => ?_⟩) hHeld ?_
      · go_simp
      simp only [Act.put, List.setIfInBounds_toArray, List.set_cons_zero, List.set_cons_succ]
      refine wpAnyH_take (i := 8) (v := (.pointer (some ⟨b, o + k * 13, none⟩))) ops_at8 (by kernel_rfl) (by kernel_rfl) (by kernel_rfl) (fun _ _ _ h => h) (Or.inl ⟨by rfl, fun V hV => ?_⟩) hHeld ?_
      · go_simp
      simp only [Act.put, List.setIfInBounds_toArray, List.set_cons_zero, List.set_cons_succ]
      refine wpAnyH_take (i := 9) (v := (.pointer (some ⟨b, o + k * 13 + 11, none⟩))) ops_at9 (by kernel_rfl) (by kernel_rfl) (by kernel_rfl) (fun _ _ _ h => h) (Or.inl ⟨by rfl, fun V hV => ?_⟩) hHeld ?_
      · go_simp
      simp only [Act.put, List.setIfInBounds_toArray, List.set_cons_zero, List.set_cons_succ]
      refine wpAnyH_take (i := 10) (v := .int .i64 st0) ops_at10 (by kernel_rfl) (by kernel_rfl) (by kernel_rfl) (fun _ _ _ h => h) (Or.inl ⟨by rfl, fun V hV => ?_⟩) hHeld ?_
      · have hq := hV.cells
        obtain ⟨q0, q1, q2, q3, q4, q5, q6, q7, q8, q9, q10, q11, q12⟩ := hq
        go_simp
      simp only [Act.put, List.setIfInBounds_toArray, List.set_cons_zero, List.set_cons_succ]
      refine wpAnyH_take (i := 11) (v := .slice (some ⟨b, o, none⟩) n c0) ops_at11 (by kernel_rfl) (by kernel_rfl) (by kernel_rfl) (fun _ _ _ h => h) (Or.inl ⟨by rfl, fun V hV => ?_⟩) hHeld ?_
      · go_simp
      simp only [Act.put, List.setIfInBounds_toArray, List.set_cons_zero, List.set_cons_succ]
      refine wpAnyH_take (i := 12) (v := .int .i64 (k : Int)) ops_at12 (by kernel_rfl) (by kernel_rfl) (by kernel_rfl) (fun _ _ _ h => h) (Or.inl ⟨by rfl, fun V hV => ?_⟩) hHeld ?_
      · go_simp
      simp only [Act.put, List.setIfInBounds_toArray, List.set_cons_zero, List.set_cons_succ]
      refine wpAnyH_take (i := 13) (v := (.pointer (some ⟨b, o + k * 13, none⟩))) ops_at13 (by kernel_rfl) (by kernel_rfl) (by kernel_rfl) (fun _ _ _ h => h) (Or.inl ⟨by rfl, fun V hV => ?_⟩) hHeld ?_
      · go_simp
      simp only [Act.put, List.setIfInBounds_toArray, List.set_cons_zero, List.set_cons_succ]
      refine wpAnyH_take (i := 14) (v := (.pointer (some ⟨b, o + k * 13 + 12, none⟩))) ops_at14 (by kernel_rfl) (by kernel_rfl) (by kernel_rfl) (fun _ _ _ h => h) (Or.inl ⟨by rfl, fun V hV => ?_⟩) hHeld ?_
      · go_simp
      simp only [Act.put, List.setIfInBounds_toArray, List.set_cons_zero, List.set_cons_succ]
      refine wpAnyH_take (i := 15) (v := .int .i64 dn0) ops_at15 (by kernel_rfl) (by kernel_rfl) (by kernel_rfl) (fun _ _ _ h => h) (Or.inl ⟨by rfl, fun V hV => ?_⟩) hHeld ?_
      · have hq := hV.cells
        obtain ⟨q0, q1, q2, q3, q4, q5, q6, q7, q8, q9, q10, q11, q12⟩ := hq
        go_simp
      simp only [Act.put, List.setIfInBounds_toArray, List.set_cons_zero, List.set_cons_succ]
      refine wpAnyH_ready (rs := [16]) (by kernel_rfl) (by simp) ?_
      refine AllReadyH.cons ops_at16 (fun K hK => ?_) AllReadyH.nil
      rw [if_pos (by rfl)]
      go_simp
      refine HDO.out.mono ?_
      rintro e w5 ⟨r, W', rfl, _, hm5, hk5, hn5⟩
      have hb5 : Below w0.heap.size wr w5 := ((Keeps.refl (fun _ => False) wr).drew.mono (G := W) (fun _ _ h => h.elim) |>.trans hk5 (fun _ _ h => h)).below HB.out.size (fun x hx h => by have := HW.out x h; omega)
      have HM5 := Lib.hid hm5; clear hm5
      have HW5 := Lib.hid (fun x (hx : W' x) => (hn5 x hx).elim (HW.out x) (fun h => Nat.le_trans HB.out.size h)); clear hn5 hk5
      have HB5 := Lib.hid (HB.out.trans hb5)
      have hAS5 := hAS.below hb5 (by omega)
      clear hb5
      go_wp2_with fail
      refine hK.out _ _ hAS5 (fun hHeld2 => ?_)
      clear hK K
      refine wpAnyH_done (by kernel_rfl) ?_ _
      go_wp2
      go_roundw
      case rel => exact ⟨k + 1, by omega, by simp, _, W', HM5.out, HG.out.doS t st0 dn0, HW5.out, HB5.out⟩
      case measure => simp only [intOf]; omega
    · obtain rfl : n = k := by omega
      have hkk : ¬ (n : Int) < (n : Int) := by omega
      have HCP := Lib.hid (copy_at m S W wr HM.out HG.out)
      go_wp2_with fail
      refine HCP.out.mono ?_
      rintro e w3 ⟨c, Wc, rfl, hc3, hk3, hn3c⟩
      have HM3 := Lib.hid (HM.out.kept hk3)
      have HWc := Lib.hid (fun x (hx : Wc x) => (⟨Nat.le_trans HB.out.size (hn3c x hx), fun h => by have := HM.out.lt x h; have := hn3c x hx; omega⟩ : w0.heap.size ≤ x ∧ ¬ W x))
      have HB3 := Lib.hid (HB.out.trans (hk3.below HB.out.size (fun _ _ h => h)))
      have HC3 := Lib.hid hc3
      clear HCP HM HB hk3 hc3 hn3c HAT
      have HCP := Lib.hid (copy_at m S W w3 HM3.out HG.out)
      go_wp2_with fail
      refine HCP.out.mono ?_
      rintro e w4 ⟨d, Wd, rfl, hd4, hk4, hn4d⟩
      have HM4 := Lib.hid (HM3.out.kept hk4)
      have HC4 := Lib.hid (HC3.out.kept hk4)
      have HWd := Lib.hid (fun x (hx : Wd x) => (⟨Nat.le_trans HB3.out.size (hn4d x hx), fun h => by have := HM3.out.lt x h; have := hn4d x hx; omega, fun h => by have := HC3.out.lt x h; have := hn4d x hx; omega⟩ : w0.heap.size ≤ x ∧ ¬ W x ∧ ¬ Wc x))
      have HB4 := Lib.hid (HB3.out.trans (hk4.below HB3.out.size (fun _ _ h => h)))
      have HD4 := Lib.hid hd4
      clear HCP HM3 HC3 HB3 hk4 hd4 hn4d
      obtain ⟨B, hB1⟩ : ∃ B, B = w0.heap.size := ⟨_, rfl⟩
      have hBw0 : B ≤ w0.heap.size := by omega
      have hBw1 : w0.heap.size ≤ B := by omega
      go_upto_region 10 with fail
      go_cut [62] from 49 to 62 (fun v wx => v = .bool false ∧ Duo B W wx c S d S ∧ ModelAt wx m S W ∧ Below B w0 wx)
      case first =>
        have HV1 := Lib.hid (volumes_at c S Wc w4 HC4.out HG.out)
        go_wp2_with fail
        refine HV1.out.mono ?_
        rintro e V3 ⟨r3, rfl, hr3, hk3⟩
        obtain ⟨a3, n3, c3, rfl⟩ : ∃ a n c, r3 = .slice a n c := by
          rcases hr3.2 with ⟨e, _⟩ | ⟨g, cap, cur, e, _⟩ <;> exact ⟨_, _, _, e⟩
        have HK3 := Lib.hid hk3; clear hk3
        have HR3 := Lib.hid hr3; clear hr3
        have HV2 := Lib.hid (volumes_at m S W V3 (HM4.out.kept HK3.out) HG.out)
        go_wp2_with fail
        refine HV2.out.mono ?_
        rintro e V4 ⟨r4, rfl, hr4, hk4⟩
        obtain ⟨a4, n4, c4, rfl⟩ : ∃ a n c, r4 = .slice a n c := by
          rcases hr4.2 with ⟨e, _⟩ | ⟨g, cap, cur, e, _⟩ <;> exact ⟨_, _, _, e⟩
        have HEQ := Lib.hid (eqvols_any _ _ _ _ S.vols S.vols.length V4 (hk4.owns HR3.out (fun _ _ h => h)) hr4 (Nat.le_refl _) (Nat.le_refl _) HG.out.len)
        have HK4 := Lib.hid (HK3.out.trans hk4 (fun _ _ h => h)); clear hk4 hr4
        go_wp2_with fail
        refine HEQ.out.mono ?_
        rintro e V5 ⟨rfl, hb5⟩
        have HK5 := Lib.hid (HK4.out.trans (Keeps.of_below (F := fun _ => False) hb5) (fun _ _ h => h)); clear hb5
        have HZ := Lib.hid (show Duo B W V5 c S d S from ⟨Wc, Wd, HC4.out.kept HK5.out, HD4.out.kept HK5.out, fun x hx => (HWd.out x hx).2.2, fun x hx => ⟨by have := (HWc.out x hx).1; omega, (HWc.out x hx).2⟩, fun x hx => ⟨by have := (HWd.out x hx).1; omega, (HWd.out x hx).2.1⟩, fun x hx => (HM4.out.kept HK5.out).lt x hx⟩)
        go_wp2_with fail
        go_meet
        exact ⟨rfl, HZ.out, HM4.out.kept HK5.out, by rw [hB1]; exact HB4.out.trans (HK5.out.below HB4.out.size (fun _ _ h => h))⟩
      obtain ⟨rfl, hdc, hmc, hbc⟩ := hcut
      clear HC4 HD4 HM4 HB4 HWc HWd
      have HDU := Lib.hid hdc; clear hdc
      have HBL := Lib.hid hbc; clear hbc
      obtain ⟨E, hE⟩ : ∃ E : World → Prop, E = fun v => ModelAt v m S W := ⟨_, rfl⟩
      have HEE := Lib.hid hE; clear hE
      have HEX := Lib.hid (show E wc by rw [HEE.out]; exact hmc); clear hmc
      obtain ⟨G, hG1⟩ : ∃ G, G = W := ⟨_, rfl⟩
      have HGW := Lib.hid hG1
      rw [← hG1] at HDU
      clear hG1 hB1
      have hKE : ∀ v v', E v → Kp B G v v' → E v' := by rw [HEE.out, HGW.out]; exact fun _ _ h k => k.model h (fun _ h => h)
      go_wp2_with fail
      go_loopw [9] (fun i wr => ∃ k : Nat, k ≤ n1 ∧ i = .int .i64 (k : Int) ∧ Duo B G wr c (runS S (l1.take k)) d S ∧ Below B w0 wr ∧ E wr) (fun i _ => n1 - (intOf i).toNat)
      case atStart => exact ⟨0, by omega, rfl, by rw [runS_zero]; exact HDU.out, HBL.out, HEX.out⟩
      case round =>
        obtain ⟨k, hk, rfl, hdu, hbl, hex⟩ := hrel
        clear HDU HBL
        have HDU := Lib.hid hdu; clear hdu
        have HBL := Lib.hid hbl; clear hbl
        clear HEX
        have HEX := Lib.hid hex; clear hex
        by_cases hlt : k < n1
        · have hkn : (k : Int) < (n1 : Int) := by omega
          have hk0 : (0 : Int) ≤ (k : Int) := by omega
          obtain ⟨⟨t, dv, st0, dn0⟩, hy⟩ : ∃ y, l1[k]? = some y := ⟨l1[k]'(by omega), by simp [show k < l1.length by omega]⟩
          have hnx := runS_next S l1 k _ hy
          obtain ⟨Sk, hSk⟩ : ∃ Sk, Sk = runS S (l1.take k) := ⟨_, rfl⟩
          have HGk := Lib.hid (show Good Sk by rw [hSk]; exact HG.out.runS _)
          rw [← hSk] at hnx HDU
          have HNX := Lib.hid hnx; clear hnx hSk
          obtain ⟨⟨b, o, rfl, hbl, hcells⟩, ⟨hbytes, hf⟩, hdl⟩ := HAT1.out k _ hy
          dsimp only at hbytes hf hdl HNX
          obtain ⟨da, dc, rfl, hdc⟩ := hf
          obtain ⟨dn, hdn⟩ : ∃ dn, dn = t.data.length := ⟨_, rfl⟩
          rw [← hdn] at hbytes hdc hcells
          clear hy
          have hBw : Below w.heap.size w wr := HB0.out.trans (HBL.out.mono (by omega))
          have hBr : B ≤ wr.heap.size := Nat.le_trans hBw0 HBL.out.size
          have hAS : AskS b o k t (.slice da dn dc) st0 dn0 wr := (AskS.of (y := ⟨t, .slice da dn dc, st0, dn0⟩) hcells).below hBw hbl
          have hDO := duo_do t (.slice da dn dc) st0 dn0 (HDU.out.kept (Keeps.refl _ wr).drew) hBr HGk.out ((hbytes.later hBw).later (Below.refl _ wr).drew) ⟨da, dc, by rw [hdn], by omega⟩ hdl
          unfold Tk.cells at hDO
          have HDO := Lib.hid hDO; clear hDO hbytes hcells hBw
          have HDN := Lib.hid hdn; clear hdn
          have hkz : (((k : Int))).toNat = k := by omega
          go_upto_region 15 with fail
          refine wp_region_held_drew (S := AskS b o k t (.slice da dn dc) st0 dn0) (by kernel_rfl) hAS.drew (fun hHeld => ?_)
          refine wpAnyH_take (i := 0) (v := (.pointer (some ⟨c, 0, none⟩))) ops_at0 (by kernel_rfl) (by kernel_rfl) (by kernel_rfl) (fun _ _ _ h => h) (Or.inl ⟨by rfl, fun V hV => ?_⟩) hHeld ?_
          · go_simp
          simp only [Act.put, List.setIfInBounds_toArray, List.set_cons_zero, List.set_cons_succ]
          refine wpAnyH_take (i := 1) (v := .slice (some ⟨b, o, none⟩) n1 c1) ops_at1 (by kernel_rfl) (by kernel_rfl) (by kernel_rfl) (fun _ _ _ h => h) (Or.inl ⟨by rfl, fun V hV => ?_⟩) hHeld ?_
          · go_simp
          simp only [Act.put, List.setIfInBounds_toArray, List.set_cons_zero, List.set_cons_succ]
          refine wpAnyH_take (i := 2) (v := .int .i64 (k : Int)) ops_at2 (by kernel_rfl) (by kernel_rfl) (by kernel_rfl) (fun _ _ _ h => h) (Or.inl ⟨by rfl, fun V hV => ?_⟩) hHeld ?_
          · go_simp
          simp only [Act.put, List.setIfInBounds_toArray, List.set_cons_zero, List.set_cons_succ]
          refine wpAnyH_take (i := 3) (v := (.pointer (some ⟨b, o + k * 13, none⟩))) ops_at3 (by kernel_rfl) (by kernel_rfl) (by kernel_rfl) (fun _ _ _ h => h) (Or.inl ⟨by rfl, fun V hV => ?_⟩) hHeld ?_
          · go_simp
          simp only [Act.put, List.setIfInBounds_toArray, List.set_cons_zero, List.set_cons_succ]
          refine wpAnyH_take (i := 4) (v := (.pointer (some ⟨b, o + k * 13, none⟩))) ops_at4 (by kernel_rfl) (by kernel_rfl) (by kernel_rfl) (fun _ _ _ h => h) (Or.inl ⟨by rfl, fun V hV => ?_⟩) hHeld ?_
          · go_simp
          simp only [Act.put, List.setIfInBounds_toArray, List.set_cons_zero, List.set_cons_succ]
          refine wpAnyH_take (i := 5) (v := .agg #[.int .i64 t.cmd, .int .i64 t.tag, .int .i64 t.op, .bool t.ord, .bool t.fua, .int .i64 t.vol, .int .i64 t.lba, .int .i64 t.cnt, .int .i64 t.siz, .int .i64 t.quo, .slice da dn dc]) ops_at5 (by kernel_rfl) (by kernel_rfl) (by kernel_rfl) (fun _ _ _ h => h) (Or.inl ⟨by rfl, fun V hV => ?_⟩) hHeld ?_
          · have hq := hV.cells
            obtain ⟨q0, q1, q2, q3, q4, q5, q6, q7, q8, q9, q10, q11, q12⟩ := hq
            go_simp
          simp only [Act.put, List.setIfInBounds_toArray, List.set_cons_zero, List.set_cons_succ]
          refine wpAnyH_take (i := 6) (v := .slice (some ⟨b, o, none⟩) n1 c1) ops_at6 (by kernel_rfl) (by kernel_rfl) (by kernel_rfl) (fun _ _ _ h => h) (Or.inl ⟨by rfl, fun V hV => ?_⟩) hHeld ?_
          · go_simp
          simp only [Act.put, List.setIfInBounds_toArray, List.set_cons_zero, List.set_cons_succ]
          refine wpAnyH_take (i := 7) (v := .int .i64 (k : Int)) ops_at7 (by kernel_rfl) (by kernel_rfl) (by kernel_rfl) (fun _ _ _ h => h) (Or.inl ⟨by rfl, fun V hV => ?_⟩) hHeld ?_
          · go_simp
          simp only [Act.put, List.setIfInBounds_toArray, List.set_cons_zero, List.set_cons_succ]
          refine wpAnyH_take (i := 8) (v := (.pointer (some ⟨b, o + k * 13, none⟩))) ops_at8 (by kernel_rfl) (by kernel_rfl) (by kernel_rfl) (fun _ _ _ h => h) (Or.inl ⟨by rfl, fun V hV => ?_⟩) hHeld ?_
          · go_simp
          simp only [Act.put, List.setIfInBounds_toArray, List.set_cons_zero, List.set_cons_succ]
          refine wpAnyH_take (i := 9) (v := (.pointer (some ⟨b, o + k * 13 + 11, none⟩))) ops_at9 (by kernel_rfl) (by kernel_rfl) (by kernel_rfl) (fun _ _ _ h => h) (Or.inl ⟨by rfl, fun V hV => ?_⟩) hHeld ?_
          · go_simp
          simp only [Act.put, List.setIfInBounds_toArray, List.set_cons_zero, List.set_cons_succ]
          refine wpAnyH_take (i := 10) (v := .int .i64 st0) ops_at10 (by kernel_rfl) (by kernel_rfl) (by kernel_rfl) (fun _ _ _ h => h) (Or.inl ⟨by rfl, fun V hV => ?_⟩) hHeld ?_
          · have hq := hV.cells
            obtain ⟨q0, q1, q2, q3, q4, q5, q6, q7, q8, q9, q10, q11, q12⟩ := hq
            go_simp
          simp only [Act.put, List.setIfInBounds_toArray, List.set_cons_zero, List.set_cons_succ]
          refine wpAnyH_take (i := 11) (v := .slice (some ⟨b, o, none⟩) n1 c1) ops_at11 (by kernel_rfl) (by kernel_rfl) (by kernel_rfl) (fun _ _ _ h => h) (Or.inl ⟨by rfl, fun V hV => ?_⟩) hHeld ?_
          · go_simp
          simp only [Act.put, List.setIfInBounds_toArray, List.set_cons_zero, List.set_cons_succ]
          refine wpAnyH_take (i := 12) (v := .int .i64 (k : Int)) ops_at12 (by kernel_rfl) (by kernel_rfl) (by kernel_rfl) (fun _ _ _ h => h) (Or.inl ⟨by rfl, fun V hV => ?_⟩) hHeld ?_
          · go_simp
          simp only [Act.put, List.setIfInBounds_toArray, List.set_cons_zero, List.set_cons_succ]
          refine wpAnyH_take (i := 13) (v := (.pointer (some ⟨b, o + k * 13, none⟩))) ops_at13 (by kernel_rfl) (by kernel_rfl) (by kernel_rfl) (fun _ _ _ h => h) (Or.inl ⟨by rfl, fun V hV => ?_⟩) hHeld ?_
          · go_simp
          simp only [Act.put, List.setIfInBounds_toArray, List.set_cons_zero, List.set_cons_succ]
          refine wpAnyH_take (i := 14) (v := (.pointer (some ⟨b, o + k * 13 + 12, none⟩))) ops_at14 (by kernel_rfl) (by kernel_rfl) (by kernel_rfl) (fun _ _ _ h => h) (Or.inl ⟨by rfl, fun V hV => ?_⟩) hHeld ?_
          · go_simp
          simp only [Act.put, List.setIfInBounds_toArray, List.set_cons_zero, List.set_cons_succ]
          refine wpAnyH_take (i := 15) (v := .int .i64 dn0) ops_at15 (by kernel_rfl) (by kernel_rfl) (by kernel_rfl) (fun _ _ _ h => h) (Or.inl ⟨by rfl, fun V hV => ?_⟩) hHeld ?_
          · have hq := hV.cells
            obtain ⟨q0, q1, q2, q3, q4, q5, q6, q7, q8, q9, q10, q11, q12⟩ := hq
            go_simp
          simp only [Act.put, List.setIfInBounds_toArray, List.set_cons_zero, List.set_cons_succ]
          refine wpAnyH_ready (rs := [16]) (by kernel_rfl) (by simp) ?_
          refine AllReadyH.cons ops_at16 (fun K hK => ?_) AllReadyH.nil
          rw [if_pos (by rfl)]
          go_simp
          refine HDO.out.mono ?_
          rintro e w5 ⟨r, rfl, _, hdu5, hkp5⟩
          have hb5 : Below B wr w5 := (Below.refl _ wr).drew.trans (hkp5.below hBr)
          rw [HNX.out] at hdu5
          have HDU5 := Lib.hid hdu5; clear hdu5
          have HBL5 := Lib.hid (HBL.out.trans hb5)
          have HEX5 := Lib.hid (hKE _ _ (hKE _ _ HEX.out (Kp.of_keeps (Keeps.refl _ wr).drew)) hkp5)
          clear hkp5
          have hAS5 := hAS.below hb5 (by omega)
          clear hb5
          go_wp2_with fail
          refine hK.out _ _ hAS5 (fun hHeld2 => ?_)
          clear hK K
          refine wpAnyH_done (by kernel_rfl) ?_ _
          go_wp2
          go_roundw
          case rel => exact ⟨k + 1, by omega, by simp, HDU5.out, HBL5.out, HEX5.out⟩
          case measure => simp only [intOf]; omega
        · obtain rfl : n1 = k := by omega
          have hkk : ¬ (n1 : Int) < (n1 : Int) := by omega
          obtain ⟨SC, hSC⟩ : ∃ SC, SC = runS S (l1.take n1) := ⟨_, rfl⟩
          have HGC := Lib.hid (show Good SC by rw [hSC]; exact HG.out.runS _)
          rw [← hSC] at HDU
          have HSC := Lib.hid hSC; clear hSC
          obtain ⟨Wk, Wd', hcw, hdw, u1, u2, u3, u4⟩ := HDU.out
          have hmw : ModelAt wr m S W := by have := HEX.out; rw [HEE.out] at this; exact this
          have HD2 := Lib.hid (show Duo B Wk wr m S d S from ⟨W, Wd', hmw, hdw, fun x hx => by have := (u3 x hx).2; rw [HGW.out] at this; exact this, fun x hx => ⟨by have := HW.out x hx; omega, fun h => (u2 x h).2 (by rw [HGW.out]; exact hx)⟩, fun x hx => ⟨(u3 x hx).1, u1 x hx⟩, fun x hx => hcw.lt x hx⟩)
          have HWk := Lib.hid (fun x (hx : Wk x) => (u2 x hx).1)
          clear u1 u2 u3 u4 hdw hmw HEX HEE hKE HGW HDU
          obtain ⟨E, hE⟩ : ∃ E : World → Prop, E = fun v => ModelAt v c SC Wk := ⟨_, rfl⟩
          have HEE := Lib.hid hE; clear hE
          have HEX := Lib.hid (show E wr by rw [HEE.out]; exact hcw); clear hcw
          have hKE0 : ∀ (G' : Nat → Prop) v v', (∀ x, Wk x → G' x) → E v → Kp B G' v v' → E v' := by rw [HEE.out]; exact fun _ _ _ hG h k => k.model h hG
          have HVM := Lib.hid (duo_list HD2.out.swap HG.out)
          go_wp2_with fail
          refine HVM.out.mono ?_
          rintro e wl ⟨al, nv, cl, G', rfl, hrl, hkl, hdl, hGG, hGr, hnv1, hnv2⟩
          have HD3 := Lib.hid hdl.swap; clear hdl HD2
          have HR3 := Lib.hid hrl; clear hrl
          have HB3 := Lib.hid (HBL.out.trans (hkl.below (Nat.le_trans hBw0 HBL.out.size) (fun _ _ h => h)))
          have HE3 := Lib.hid (hKE0 Wk _ _ (fun _ h => h) HEX.out (Kp.of_keeps hkl)); clear hkl HBL HEX HVM
          have hKE : ∀ v v', E v → Kp B G' v v' → E v' := fun v v' h k => hKE0 G' v v' (fun x hx => hGG x hx) h k
          have HWG := Lib.hid hGG; clear hGG hKE0
          have hnv8 : nv ≤ 8 := Nat.le_trans hnv1 HG.out.len
          obtain ⟨base, hbase⟩ : ∃ base, base = wr.heap.size := ⟨_, rfl⟩
          rw [← hbase] at HR3
          clear hbase
          go_upto_region 17 with fail
          go_cut [92] from 88 to 92 (fun v wx => v = .bool false ∧ Duo B G' wx m S d S ∧ wx.ownsRow base 45 6 (.slice al nv cl) nv (volsV S.vols) ∧ Below B w0 wx ∧ E wx)
          case first =>
            have HV2 := Lib.hid (duo_vols HD3.out HG.out)
            go_wp2_with fail
            refine HV2.out.mono ?_
            rintro e V4 ⟨a4, n4, c4, rfl, hr4, hk4⟩
            have hnve : nv = S.vols.length := by omega
            have HEQ := Lib.hid (eqvols_any _ _ _ _ S.vols S.vols.length V4 (by rw [← hnve]; exact hk4.owns HR3.out (fun _ _ h => h)) hr4 (Nat.le_refl _) (Nat.le_refl _) HG.out.len)
            clear hnve
            have HK4 := Lib.hid hk4; clear hk4 hr4
            go_wp2_with fail
            refine HEQ.out.mono ?_
            rintro e V5 ⟨rfl, hb5⟩
            have HK5 := Lib.hid (HK4.out.trans (Keeps.of_below (F := fun _ => False) hb5) (fun _ _ h => h)); clear hb5
            go_wp2_with fail
            go_meet
            exact ⟨rfl, HD3.out.kept HK5.out, HK5.out.owns HR3.out (fun _ _ h => h), HB3.out.trans (HK5.out.below (Nat.le_trans hBw0 HB3.out.size) (fun _ _ h => h)), hKE _ _ HE3.out (Kp.of_keeps HK5.out)⟩
          obtain ⟨rfl, hdc, hrc, hbc, hec⟩ := hcut
          clear HD3 HR3 HB3 HE3
          have HDU := Lib.hid hdc; clear hdc
          have HROW := Lib.hid hrc; clear hrc
          have HBL := Lib.hid hbc; clear hbc
          have HEX := Lib.hid hec; clear hec
          obtain ⟨G, hGe⟩ : ∃ G, G = G' := ⟨_, rfl⟩
          rw [← hGe] at HDU hKE hGr HWG
          clear hGe
          go_wp2_with fail
          go_loopw [11] (fun i wv => ∃ x : Nat, x ≤ nv ∧ i = .int .i64 (x : Int) ∧ Duo B G wv m S d S ∧ wv.ownsRow base 45 6 (.slice al nv cl) nv (volsV S.vols) ∧ Below B w0 wv ∧ E wv) (fun i _ => nv - (intOf i).toNat)
          case atStart => exact ⟨0, by omega, rfl, HDU.out, HROW.out, HBL.out, HEX.out⟩
          case round =>
            obtain ⟨x, hx, rfl, hdu, hrow, hbl, hex⟩ := hrel
            clear HDU HROW HBL
            clear HEX
            have HEX := Lib.hid hex; clear hex
            have HDU := Lib.hid hdu; clear hdu
            have HROW := Lib.hid hrow; clear hrow
            have HBL := Lib.hid hbl; clear hbl
            by_cases hlt : x < nv
            rotate_left
            · obtain rfl : x = nv := by omega
              have hkk : ¬ (x : Int) < (x : Int) := by omega
              obtain ⟨Wm3, Wd3, _, hd3, u1, u2, u3, u4⟩ := HDU.out
              have hc3 : ModelAt wr c SC Wk := by have := HEX.out; rw [HEE.out] at this; exact this
              have HD2 := Lib.hid (show Duo B (fun _ => False) wr d S c SC from ⟨Wd3, Wk, hd3, hc3, fun x hx hd => (u3 x hd).2 (HWG.out x hx), fun x hx => ⟨(u3 x hx).1, id⟩, fun x hx => ⟨HWk.out x hx, id⟩, fun x h => h.elim⟩)
              clear u1 u2 u3 u4 hd3 hc3 HEX HEE hKE HDU HROW hGr HWG
              obtain ⟨G, hGe⟩ : ∃ G : Nat → Prop, G = fun _ => False := ⟨_, rfl⟩
              rw [← hGe] at HD2
              have HDU := HD2; clear HD2 hGe
              go_wp2_with fail
              go_loopw [14] (fun i wr => ∃ k : Nat, k ≤ n1 ∧ i = .int .i64 (k : Int) ∧ Duo B G wr d (runS S (l1.take k)) c SC ∧ Below B w0 wr) (fun i _ => n1 - (intOf i).toNat)
              case atStart => exact ⟨0, by omega, rfl, by rw [runS_zero]; exact HDU.out, HBL.out⟩
              case round =>
                obtain ⟨k, hk, rfl, hdu, hbl⟩ := hrel
                clear HDU HBL
                have HDU := Lib.hid hdu; clear hdu
                have HBL := Lib.hid hbl; clear hbl
                by_cases hlt : k < n1
                · have hkn : (k : Int) < (n1 : Int) := by omega
                  have hk0 : (0 : Int) ≤ (k : Int) := by omega
                  obtain ⟨⟨t, dv, st0, dn0⟩, hy⟩ : ∃ y, l1[k]? = some y := ⟨l1[k]'(by omega), by simp [show k < l1.length by omega]⟩
                  have hnx := runS_next S l1 k _ hy
                  obtain ⟨Sk, hSk⟩ : ∃ Sk, Sk = runS S (l1.take k) := ⟨_, rfl⟩
                  have HGk := Lib.hid (show Good Sk by rw [hSk]; exact HG.out.runS _)
                  rw [← hSk] at hnx HDU
                  have HNX := Lib.hid hnx; clear hnx hSk
                  obtain ⟨⟨b, o, rfl, hbl, hcells⟩, ⟨hbytes, hf⟩, hdl⟩ := HAT1.out k _ hy
                  dsimp only at hbytes hf hdl HNX
                  obtain ⟨da, dc, rfl, hdc⟩ := hf
                  obtain ⟨dn, hdn⟩ : ∃ dn, dn = t.data.length := ⟨_, rfl⟩
                  rw [← hdn] at hbytes hdc hcells
                  clear hy
                  have hBw : Below w.heap.size w wr := HB0.out.trans (HBL.out.mono (by omega))
                  have hBr : B ≤ wr.heap.size := Nat.le_trans hBw0 HBL.out.size
                  have hAS : AskS b o k t (.slice da dn dc) st0 dn0 wr := (AskS.of (y := ⟨t, .slice da dn dc, st0, dn0⟩) hcells).below hBw hbl
                  have hDO := duo_do t (.slice da dn dc) st0 dn0 (HDU.out.kept (Keeps.refl _ wr).drew) hBr HGk.out ((hbytes.later hBw).later (Below.refl _ wr).drew) ⟨da, dc, by rw [hdn], by omega⟩ hdl
                  unfold Tk.cells at hDO
                  have HDO := Lib.hid hDO; clear hDO hbytes hcells hBw
                  have HDN := Lib.hid hdn; clear hdn
                  have hkz : (((k : Int))).toNat = k := by omega
                  go_upto_region 31 with fail
                  refine wp_region_held_drew (S := AskS b o k t (.slice da dn dc) st0 dn0) (by kernel_rfl) hAS.drew (fun hHeld => ?_)
                  refine wpAnyH_take (i := 0) (v := (.pointer (some ⟨d, 0, none⟩))) ops_at0 (by kernel_rfl) (by kernel_rfl) (by kernel_rfl) (fun _ _ _ h => h) (Or.inl ⟨by rfl, fun V hV => ?_⟩) hHeld ?_
                  · go_simp
                  simp only [Act.put, List.setIfInBounds_toArray, List.set_cons_zero, List.set_cons_succ]
                  refine wpAnyH_take (i := 1) (v := .slice (some ⟨b, o, none⟩) n1 c1) ops_at1 (by kernel_rfl) (by kernel_rfl) (by kernel_rfl) (fun _ _ _ h => h) (Or.inl ⟨by rfl, fun V hV => ?_⟩) hHeld ?_
                  · go_simp
                  simp only [Act.put, List.setIfInBounds_toArray, List.set_cons_zero, List.set_cons_succ]
                  refine wpAnyH_take (i := 2) (v := .int .i64 (k : Int)) ops_at2 (by kernel_rfl) (by kernel_rfl) (by kernel_rfl) (fun _ _ _ h => h) (Or.inl ⟨by rfl, fun V hV => ?_⟩) hHeld ?_
                  · go_simp
                  simp only [Act.put, List.setIfInBounds_toArray, List.set_cons_zero, List.set_cons_succ]
                  refine wpAnyH_take (i := 3) (v := (.pointer (some ⟨b, o + k * 13, none⟩))) ops_at3 (by kernel_rfl) (by kernel_rfl) (by kernel_rfl) (fun _ _ _ h => h) (Or.inl ⟨by rfl, fun V hV => ?_⟩) hHeld ?_
                  · go_simp
                  simp only [Act.put, List.setIfInBounds_toArray, List.set_cons_zero, List.set_cons_succ]
                  refine wpAnyH_take (i := 4) (v := (.pointer (some ⟨b, o + k * 13, none⟩))) ops_at4 (by kernel_rfl) (by kernel_rfl) (by kernel_rfl) (fun _ _ _ h => h) (Or.inl ⟨by rfl, fun V hV => ?_⟩) hHeld ?_
                  · go_simp
                  simp only [Act.put, List.setIfInBounds_toArray, List.set_cons_zero, List.set_cons_succ]
                  refine wpAnyH_take (i := 5) (v := .agg #[.int .i64 t.cmd, .int .i64 t.tag, .int .i64 t.op, .bool t.ord, .bool t.fua, .int .i64 t.vol, .int .i64 t.lba, .int .i64 t.cnt, .int .i64 t.siz, .int .i64 t.quo, .slice da dn dc]) ops_at5 (by kernel_rfl) (by kernel_rfl) (by kernel_rfl) (fun _ _ _ h => h) (Or.inl ⟨by rfl, fun V hV => ?_⟩) hHeld ?_
                  · have hq := hV.cells
                    obtain ⟨q0, q1, q2, q3, q4, q5, q6, q7, q8, q9, q10, q11, q12⟩ := hq
                    go_simp
                  simp only [Act.put, List.setIfInBounds_toArray, List.set_cons_zero, List.set_cons_succ]
                  refine wpAnyH_take (i := 6) (v := .slice (some ⟨b, o, none⟩) n1 c1) ops_at6 (by kernel_rfl) (by kernel_rfl) (by kernel_rfl) (fun _ _ _ h => h) (Or.inl ⟨by rfl, fun V hV => ?_⟩) hHeld ?_
                  · go_simp
                  simp only [Act.put, List.setIfInBounds_toArray, List.set_cons_zero, List.set_cons_succ]
                  refine wpAnyH_take (i := 7) (v := .int .i64 (k : Int)) ops_at7 (by kernel_rfl) (by kernel_rfl) (by kernel_rfl) (fun _ _ _ h => h) (Or.inl ⟨by rfl, fun V hV => ?_⟩) hHeld ?_
                  · go_simp
                  simp only [Act.put, List.setIfInBounds_toArray, List.set_cons_zero, List.set_cons_succ]
                  refine wpAnyH_take (i := 8) (v := (.pointer (some ⟨b, o + k * 13, none⟩))) ops_at8 (by kernel_rfl) (by kernel_rfl) (by kernel_rfl) (fun _ _ _ h => h) (Or.inl ⟨by rfl, fun V hV => ?_⟩) hHeld ?_
                  · go_simp
                  simp only [Act.put, List.setIfInBounds_toArray, List.set_cons_zero, List.set_cons_succ]
                  refine wpAnyH_take (i := 9) (v := (.pointer (some ⟨b, o + k * 13 + 11, none⟩))) ops_at9 (by kernel_rfl) (by kernel_rfl) (by kernel_rfl) (fun _ _ _ h => h) (Or.inl ⟨by rfl, fun V hV => ?_⟩) hHeld ?_
                  · go_simp
                  simp only [Act.put, List.setIfInBounds_toArray, List.set_cons_zero, List.set_cons_succ]
                  refine wpAnyH_take (i := 10) (v := .int .i64 st0) ops_at10 (by kernel_rfl) (by kernel_rfl) (by kernel_rfl) (fun _ _ _ h => h) (Or.inl ⟨by rfl, fun V hV => ?_⟩) hHeld ?_
                  · have hq := hV.cells
                    obtain ⟨q0, q1, q2, q3, q4, q5, q6, q7, q8, q9, q10, q11, q12⟩ := hq
                    go_simp
                  simp only [Act.put, List.setIfInBounds_toArray, List.set_cons_zero, List.set_cons_succ]
                  refine wpAnyH_take (i := 11) (v := .slice (some ⟨b, o, none⟩) n1 c1) ops_at11 (by kernel_rfl) (by kernel_rfl) (by kernel_rfl) (fun _ _ _ h => h) (Or.inl ⟨by rfl, fun V hV => ?_⟩) hHeld ?_
                  · go_simp
                  simp only [Act.put, List.setIfInBounds_toArray, List.set_cons_zero, List.set_cons_succ]
                  refine wpAnyH_take (i := 12) (v := .int .i64 (k : Int)) ops_at12 (by kernel_rfl) (by kernel_rfl) (by kernel_rfl) (fun _ _ _ h => h) (Or.inl ⟨by rfl, fun V hV => ?_⟩) hHeld ?_
                  · go_simp
                  simp only [Act.put, List.setIfInBounds_toArray, List.set_cons_zero, List.set_cons_succ]
                  refine wpAnyH_take (i := 13) (v := (.pointer (some ⟨b, o + k * 13, none⟩))) ops_at13 (by kernel_rfl) (by kernel_rfl) (by kernel_rfl) (fun _ _ _ h => h) (Or.inl ⟨by rfl, fun V hV => ?_⟩) hHeld ?_
                  · go_simp
                  simp only [Act.put, List.setIfInBounds_toArray, List.set_cons_zero, List.set_cons_succ]
                  refine wpAnyH_take (i := 14) (v := (.pointer (some ⟨b, o + k * 13 + 12, none⟩))) ops_at14 (by kernel_rfl) (by kernel_rfl) (by kernel_rfl) (fun _ _ _ h => h) (Or.inl ⟨by rfl, fun V hV => ?_⟩) hHeld ?_
                  · go_simp
                  simp only [Act.put, List.setIfInBounds_toArray, List.set_cons_zero, List.set_cons_succ]
                  refine wpAnyH_take (i := 15) (v := .int .i64 dn0) ops_at15 (by kernel_rfl) (by kernel_rfl) (by kernel_rfl) (fun _ _ _ h => h) (Or.inl ⟨by rfl, fun V hV => ?_⟩) hHeld ?_
                  · have hq := hV.cells
                    obtain ⟨q0, q1, q2, q3, q4, q5, q6, q7, q8, q9, q10, q11, q12⟩ := hq
                    go_simp
                  simp only [Act.put, List.setIfInBounds_toArray, List.set_cons_zero, List.set_cons_succ]
                  refine wpAnyH_ready (rs := [16]) (by kernel_rfl) (by simp) ?_
                  refine AllReadyH.cons ops_at16 (fun K hK => ?_) AllReadyH.nil
                  rw [if_pos (by rfl)]
                  go_simp
                  refine HDO.out.mono ?_
                  rintro e w5 ⟨r, rfl, _, hdu5, hkp5⟩
                  have hb5 : Below B wr w5 := (Below.refl _ wr).drew.trans (hkp5.below hBr)
                  rw [HNX.out] at hdu5
                  have HDU5 := Lib.hid hdu5; clear hdu5
                  have HBL5 := Lib.hid (HBL.out.trans hb5)
                  clear hkp5
                  have hAS5 := hAS.below hb5 (by omega)
                  clear hb5
                  go_wp2_with fail
                  refine hK.out _ _ hAS5 (fun hHeld2 => ?_)
                  clear hK K
                  refine wpAnyH_done (by kernel_rfl) ?_ _
                  go_wp2
                  go_roundw
                  case rel => exact ⟨k + 1, by omega, by simp, HDU5.out, HBL5.out⟩
                  case measure => simp only [intOf]; omega
                · obtain rfl : n1 = k := by omega
                  have hkk : ¬ (n1 : Int) < (n1 : Int) := by omega
                  rw [← HSC.out] at HDU
                  have HV1 := Lib.hid (duo_vols HDU.out.swap HGC.out)
                  go_wp2_with fail
                  refine HV1.out.mono ?_
                  rintro e V3 ⟨a3, n3, c3, rfl, hr3, hk3⟩
                  have HR3 := Lib.hid hr3; clear hr3
                  have HK3 := Lib.hid hk3; clear hk3
                  have HV2 := Lib.hid (duo_vols (HDU.out.kept HK3.out) HGC.out)
                  go_wp2_with fail
                  refine HV2.out.mono ?_
                  rintro e V4 ⟨a4, n4, c4, rfl, hr4, hk4⟩
                  have HEQ := Lib.hid (eqvols_any _ _ _ _ SC.vols SC.vols.length V4 (hk4.owns HR3.out (fun _ _ h => h)) hr4 (Nat.le_refl _) (Nat.le_refl _) HGC.out.len)
                  have HK4 := Lib.hid (HK3.out.trans hk4 (fun _ _ h => h)); clear hk4 hr4
                  go_wp2_with fail
                  refine HEQ.out.mono ?_
                  rintro e V5 ⟨rfl, hb5⟩
                  have HK5 := Lib.hid (HK4.out.trans (Keeps.of_below (F := fun _ => False) hb5) (fun _ _ h => h)); clear hb5
                  have HBE := Lib.hid ((HBL.out.trans (HK5.out.below (Nat.le_trans hBw0 HBL.out.size) (fun _ _ h => h))).mono hBw1)
                  go_wp2_with fail
                  go_ret
                  exact ⟨rfl, HBE.out⟩
            have hxn : (x : Int) < (nv : Int) := by omega
            have hx0 : (0 : Int) ≤ (x : Int) := by omega
            obtain ⟨gl, rfl⟩ : ∃ gl, al = some ⟨gl, 0, none⟩ := by
              rcases HROW.out.2 with ⟨e, h0⟩ | ⟨g, cap, cur, e, _⟩
              · omega
              · injection e with e1; exact ⟨g, e1⟩
            obtain ⟨v, hv⟩ : ∃ v, S.vols[x]? = some v := ⟨S.vols[x]'(by omega), by simp [show x < S.vols.length by omega]⟩
            have HV := Lib.hid hv; clear hv
            go_wp2_with fail
            go_loopw [12] (fun i wr => ∃ y : Nat, y ≤ 24 ∧ i = .int .i64 (y : Int) ∧ Duo B G wr m S d S ∧ wr.ownsRow base 45 6 (.slice (some ⟨gl, 0, none⟩) nv cl) nv (volsV S.vols) ∧ Below B w0 wr ∧ E wr) (fun i _ => 24 - (intOf i).toNat)
            case atStart => exact ⟨0, by omega, rfl, HDU.out, HROW.out, HBL.out, HEX.out⟩
            case round =>
              obtain ⟨y, hy, rfl, hdu, hrow, hbl, hex⟩ := hrel
              clear HDU HROW HBL
              clear HEX
              have HEX := Lib.hid hex; clear hex
              have HDU := Lib.hid hdu; clear hdu
              have HROW := Lib.hid hrow; clear hrow
              have HBL := Lib.hid hbl; clear hbl
              have q0 := (World.ownsRow.cellAt HROW.out (x * 6 + 0) (by omega)).trans (volsV_get S.vols x 0 v HV.out (by omega))
              have q2 := (World.ownsRow.cellAt HROW.out (x * 6 + 2) (by omega)).trans (volsV_get S.vols x 2 v HV.out (by omega))
              simp only [vcell, List.getElem?_cons_zero, List.getElem?_cons_succ, Nat.add_zero] at q0 q2
              by_cases hin : y < 24 ∧ (y : Int) < v.size
              rotate_left
              · have hcase : ((y : Int) < 24 ∧ ¬ (y : Int) < v.size) ∨ ¬ (y : Int) < 24 := by omega
                clear hin
                rcases hcase with ⟨k1, k2⟩ | k1
                all_goals
                  go_wp2
                  go_roundw
                  case rel => exact ⟨x + 1, by omega, by simp, HDU.out, HROW.out, HBL.out, HEX.out⟩
                  case measure => simp only [intOf]; omega
              obtain ⟨hy1, hy2⟩ := hin
              have hy3 : (y : Int) < 24 := by omega
              obtain ⟨wt, hwt⟩ : ∃ wt, wt = wr.alloc (.cells #[.int .i64 0, .int .i64 0, .int .i64 2, .bool false, .bool false, .int .i64 v.id, .int .i64 (y : Int), .int .i64 1, .int .i64 0, .int .i64 0, .slice none 0 0] 30) := ⟨_, rfl⟩
              have hkt : Keeps (fun _ => False) wr wt := by rw [hwt]; exact (Keeps.refl _ wr).alloc _
              have hct : CellsAt wt wr.heap.size #[.int .i64 0, .int .i64 0, .int .i64 2, .bool false, .bool false, .int .i64 v.id, .int .i64 (y : Int), .int .i64 1, .int .i64 0, .int .i64 0, .slice none 0 0] 30 := by rw [hwt]; exact heap_at rfl
              have hzt : wr.heap.size < wt.heap.size := hct.lt
              have hBq : B ≤ wr.heap.size := Nat.le_trans hBw0 HBL.out.size
              have HDT := Lib.hid (HDU.out.also hkt (fun z => z = wr.heap.size) (fun z h => by omega) (fun z h => by omega))
              have HROT := Lib.hid (hkt.owns HROW.out (fun _ _ h => h))
              have HBT := Lib.hid (HBL.out.trans (hkt.below (B := B) hBq (fun _ _ h => h)))
              have HET := Lib.hid (hKE _ _ HEX.out (Kp.of_keeps hkt))
              clear HEX
              clear hkt HDU HROW HBL
              obtain ⟨⟨⟨qc, qt, sq, kq, dq⟩, Sq⟩, hq⟩ : ∃ q, q = doS S (rdTk v.id y) 0 0 := ⟨_, rfl⟩
              have hSq : S = Sq := by have := read_still S (rdTk v.id y) rfl; rw [← hq] at this; exact this.symm
              subst hSq
              obtain ⟨nq, hnq⟩ : ∃ nq, nq = dq.length := ⟨_, rfl⟩
              have hnq1 : nq ≤ dq.length := by omega
              have hnq2 : dq.length ≤ nq := by omega
              have HNQ := Lib.hid hnq; clear hnq
              have HQ := Lib.hid hq; clear hq
              go_upto_region 26 with fail
              rw [← hwt]
              clear hwt q0 q2
              refine wp_region_held_drew (S := fun V => CellsAt V wr.heap.size #[.int .i64 0, .int .i64 0, .int .i64 2, .bool false, .bool false, .int .i64 v.id, .int .i64 (y : Int), .int .i64 1, .int .i64 0, .int .i64 0, .slice none 0 0] 30) (by kernel_rfl) hct.drew (fun hHeld => ?_)
              have hct := hct.drew
              have HDT := Lib.hid (HDT.out.kept (Keeps.refl _ wt).drew)
              have HROT := Lib.hid (World.ownsRow.drew HROT.out)
              have HBT := Lib.hid (HBT.out.drew)
              have HET := Lib.hid (hKE _ _ HET.out (Kp.of_keeps (Keeps.refl _ wt).drew))
              have hBT : B ≤ wt.drew.heap.size := Nat.le_trans hBw0 HBT.out.size
              refine wpAnyH_take (i := 0) (v := .pointer (some ⟨m, 0, none⟩)) ops_at0 (by kernel_rfl) (by kernel_rfl) (by kernel_rfl) (fun _ _ _ h => h) (Or.inl ⟨by rfl, fun V hV => ?_⟩) hHeld ?_
              · go_simp
              simp only [Act.put, List.setIfInBounds_toArray, List.set_cons_zero, List.set_cons_succ]
              refine wpAnyH_take (i := 1) (v := .agg #[.int .i64 0, .int .i64 0, .int .i64 2, .bool false, .bool false, .int .i64 v.id, .int .i64 (y : Int), .int .i64 1, .int .i64 0, .int .i64 0, .slice none 0 0]) ops_at1 (by kernel_rfl) (by kernel_rfl) (by kernel_rfl) (fun _ _ _ h => h) (Or.inl ⟨by rfl, fun V hV => ?_⟩) hHeld ?_
              · have hcv := fun j => CellsAt.cell hV j
                go_simp
              simp only [Act.put, List.setIfInBounds_toArray, List.set_cons_zero, List.set_cons_succ]
              refine wpAnyH_take (i := 3) (v := .pointer (some ⟨d, 0, none⟩)) ops_at3 (by kernel_rfl) (by kernel_rfl) (by kernel_rfl) (fun _ _ _ h => h) (Or.inl ⟨by rfl, fun V hV => ?_⟩) hHeld ?_
              · go_simp
              simp only [Act.put, List.setIfInBounds_toArray, List.set_cons_zero, List.set_cons_succ]
              refine wpAnyH_take (i := 4) (v := .agg #[.int .i64 0, .int .i64 0, .int .i64 2, .bool false, .bool false, .int .i64 v.id, .int .i64 (y : Int), .int .i64 1, .int .i64 0, .int .i64 0, .slice none 0 0]) ops_at4 (by kernel_rfl) (by kernel_rfl) (by kernel_rfl) (fun _ _ _ h => h) (Or.inl ⟨by rfl, fun V hV => ?_⟩) hHeld ?_
              · have hcv := fun j => CellsAt.cell hV j
                go_simp
              simp only [Act.put, List.setIfInBounds_toArray, List.set_cons_zero, List.set_cons_succ]
              refine wpAnyH_ready (rs := [2]) (by kernel_rfl) (by simp) ?_
              refine AllReadyH.cons ops_at2 (fun K hK => ?_) AllReadyH.nil
              have hDO := duo_do (rdTk v.id y) (.slice none 0 0) 0 0 HDT.out (by exact hBT) HG.out (.inl ⟨rfl, none, 0, rfl, fun _ => rfl⟩) ⟨none, 0, rfl, Nat.le_refl _⟩ (by simp [rdTk])
              rw [← HQ.out] at hDO
              dsimp only [replyCells, Tk.cells, rdTk] at hDO
              have HDO := Lib.hid hDO; clear hDO
              rw [if_pos (by rfl)]
              go_simp
              refine HDO.out.mono ?_
              rintro e V1 ⟨ra, rfl, hoa, hdua, hkpa⟩
              clear HDO
              obtain ⟨aa, ca, rfl, _⟩ := hoa.bytes.form
              rw [← HNQ.out] at hoa ⊢
              have hcta := hkpa.cells hct (.inr (.inr rfl))
              have HOa := Lib.hid hoa; clear hoa
              have HDa := Lib.hid (hdua); clear hdua
              have hBV1 : B ≤ V1.heap.size := Nat.le_trans hBT hkpa.size
              have HROa := Lib.hid (hkpa.row HROT.out (fun k hk => .inl (hGr k hk)))
              have HEa := Lib.hid (hKE _ _ HET.out (hkpa.more (fun z h => .inl h)))
              have HBEa := Lib.hid (HBT.out.trans (hkpa.below hBT)); clear hkpa
              go_wp2_with fail
              refine hK.out _ _ hcta (fun hHeld => ?_)
              clear hK K
              refine wpAnyH_ready (rs := [5]) (by kernel_rfl) (by simp) ?_
              refine AllReadyH.cons ops_at5 (fun K hK => ?_) AllReadyH.nil
              have hDO := duo_do (rdTk v.id y) (.slice none 0 0) 0 0 HDa.out.swap (by exact hBV1) HG.out (.inl ⟨rfl, none, 0, rfl, fun _ => rfl⟩) ⟨none, 0, rfl, Nat.le_refl _⟩ (by simp [rdTk])
              rw [← HQ.out] at hDO
              dsimp only [replyCells, Tk.cells, rdTk] at hDO
              have HDO := Lib.hid hDO; clear hDO
              rw [if_pos (by rfl)]
              go_simp
              refine HDO.out.mono ?_
              rintro e V2 ⟨rb, rfl, hob, hdub, hkpb⟩
              clear HDO
              obtain ⟨ab, cb, rfl, _⟩ := hob.bytes.form
              rw [← HNQ.out] at hob ⊢
              have hctb := hkpb.cells hcta (.inr (.inr rfl))
              have HOab := Lib.hid (hkpb.owns HOa.out)
              have HOb := Lib.hid hob; clear hob
              have HDb := Lib.hid (hdub.swap); clear hdub
              have HROb := Lib.hid (hkpb.row HROa.out (fun k hk => .inl (hGr k hk)))
              have HEb := Lib.hid (hKE _ _ HEa.out (hkpb.more (fun z h => .inl h)))
              have HBEb := Lib.hid (HBEa.out.trans (hkpb.below hBV1)); clear hkpb
              go_wp2_with fail
              refine hK.out _ _ hctb (fun hHeld => ?_)
              clear hK K
              refine wpAnyH_ready (rs := [6]) (by kernel_rfl) (by simp) ?_
              refine AllReadyH.cons ops_at6 (fun K hK => ?_) AllReadyH.nil
              have hSM := same_any _ _ (rdTk v.id y) sq kq aa ab nq ca cb dq V2 HOab.out HOb.out hnq1 hnq2
              dsimp only [replyCells, rdTk] at hSM
              have HSM := Lib.hid hSM; clear hSM
              rw [if_pos (by rfl)]
              go_simp
              refine HSM.out.mono ?_
              rintro e V3 ⟨rfl, hb3⟩
              have hct3 := hctb.later hb3
              have HDZ := Lib.hid ((HDb.out.below hb3).less (G := G) (fun z h => .inl h))
              have HRZ := Lib.hid ((Keeps.of_below (F := fun _ => False) hb3).owns HROb.out (fun _ _ h => h))
              have HEZ := Lib.hid (hKE _ _ HEb.out (Kp.of_keeps (Keeps.of_below hb3)))
              have HBZ := Lib.hid (HBEb.out.trans (hb3.mono (Nat.le_trans hBw0 HBEb.out.size))); clear hb3
              go_wp2_with fail
              refine hK.out _ _ hct3 (fun hHeld => ?_)
              clear hK K
              refine wpAnyH_take (i := 7) (v := .bool false) ops_at7 (by kernel_rfl) (by kernel_rfl) (by kernel_rfl) (fun _ _ _ h => h) (Or.inl ⟨by rfl, fun V hV => ?_⟩) hHeld ?_
              · go_simp
              simp only [Act.put, List.setIfInBounds_toArray, List.set_cons_zero, List.set_cons_succ]
              refine wpAnyH_done (by kernel_rfl) ?_ _
              go_wp2
              go_roundw
              case rel => exact ⟨y + 1, by omega, by simp, HDZ.out, HRZ.out, HBZ.out, HEZ.out⟩
              case measure => simp only [intOf]; omega
end Go.Proofs.Ytmanldcohbegkaa
