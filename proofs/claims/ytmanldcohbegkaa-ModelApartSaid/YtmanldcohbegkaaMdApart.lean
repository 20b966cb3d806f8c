/-
  ModelApart: the walk. (Written by gen_mdapart.py.)
-/
import Derived.Test.YtmanldcohbegkaaMdApMath
import Derived.Test.YtmanldcohbegkaaMdBox
import Derived.RegionTactic
import Derived.ChangeAlike
import Derived.BigQuiet
namespace Go.Proofs.Ytmanldcohbegkaa
open Go.RowKit

set_option maxRecDepth 100000 in
set_option maxHeartbeats 12800000 in
theorem apart_law (a0 : Option Addr) (n c0 : Nat) (l : List AskV) (a1 : Option Addr) (n1 c1 : Nat) (l1 : List AskV) (idof : Int) (w0 : World) (ho : AsksAt w0 (.slice a0 n c0) l) (hn : n ≤ maxLen) (ho1 : AsksAt w0 (.slice a1 n1 c1) l1) (hn1 : n1 ≤ maxLen) :
    Calls Try.prog 5 #[.slice a0 n c0, .slice a1 n1 c1, .int .i64 idof] w0 fun e w' => e = .returned (.bool true) ∧ Below w0.heap.size w0 w' := by
  obtain ⟨w, hw⟩ : ∃ w, w = w0 := ⟨_, rfl⟩
  have HB0 := Lib.hid (show Below w.heap.size w w0 by rw [hw]; exact Below.refl _ _)
  have hz0a : w.heap.size ≤ w0.heap.size := HB0.out.size
  rw [← hw] at ho ho1
  clear hw
  obtain ⟨q1, hat⟩ := ho.at
  have hn2 : n ≤ l.length := by omega
  have hn3 : l.length ≤ n := by omega
  have hn4 : n ≤ 9223372036854775807 := hn
  obtain ⟨q2, hat1⟩ := ho1.at
  have hm2 : n1 ≤ l1.length := by omega
  have hm3 : l1.length ≤ n1 := by omega
  have hm4 : n1 ≤ 9223372036854775807 := hn1
  clear q1 q2
  have HAT := Lib.hid hat; clear hat ho
  have HAT1 := Lib.hid hat1; clear hat1 ho1
  go_enter Try.func5, Try.ntmps5
  go_wp2_with fail
  refine (new_at w0).mono ?_
  rintro e w1 ⟨m, W1, rfl, hm1, hb1, hn1⟩
  have HM1 := Lib.hid hm1; clear hm1
  have HB1 := Lib.hid hb1; clear hb1
  have HN1 := Lib.hid hn1; clear hn1
  go_wp2_with fail
  refine (known_any w1).mono ?_
  rintro e w2 ⟨rfl, hb2⟩
  have HM2 := Lib.hid (HM1.out.below hb2)
  have HB2 := Lib.hid (HB1.out.trans (hb2.mono HB1.out.size)); clear hb2
  clear HM1 HB1
  go_wp2_with fail
  go_loopw [8] (fun i wr => ∃ k : Nat, k ≤ n ∧ i = .int .i64 (k : Int) ∧ ∃ S W, ModelAt wr m S W ∧ Good S ∧ (∀ x, W x → w0.heap.size ≤ x) ∧ Below w0.heap.size w0 wr) (fun i _ => n - (intOf i).toNat)
  case atStart => exact ⟨0, by omega, rfl, _, W1, HM2.out, Good.start, HN1.out, HB2.out⟩
  case round =>
    obtain ⟨k, hk, rfl, S, W, hm, hg, hW, hb⟩ := hrel
    have HM := Lib.hid hm; clear hm
    have HG := Lib.hid hg; clear hg
    have HW := Lib.hid hW; clear hW
    have HB := Lib.hid hb; clear hb
    clear HM2 HB2 HN1
    by_cases hlt : k < n
    · have hkn : (k : Int) < (n : Int) := by omega
      have hk0 : (0 : Int) ≤ (k : Int) := by omega
      obtain ⟨⟨t, dv, st0, dn0⟩, hy⟩ : ∃ y, l[k]? = some y := ⟨l[k]'(by omega), by simp [show k < l.length by omega]⟩
      obtain ⟨⟨b, o, rfl, hbl, hcells⟩, ⟨hbytes, hf⟩, hdl⟩ := HAT.out k _ hy
      dsimp only at hbytes hf hdl
      obtain ⟨da, dc, rfl, hdc⟩ := hf
      obtain ⟨dn, hdn⟩ : ∃ dn, dn = t.data.length := ⟨_, rfl⟩
      rw [← hdn] at hbytes hdc hcells
      clear hy
      have hBw : Below w.heap.size w wr := HB0.out.trans (HB.out.mono (by omega))
      have hAS : AskS b o k t (.slice da dn dc) st0 dn0 wr := (AskS.of (y := ⟨t, .slice da dn dc, st0, dn0⟩) hcells).below hBw hbl
      have hDO := do_at m S W t (.slice da dn dc) st0 dn0 wr.drew (HM.out.kept (Keeps.refl _ wr).drew) HG.out ((hbytes.later hBw).later (Below.refl _ wr).drew) ⟨da, dc, by rw [hdn], by omega⟩ hdl
      unfold Tk.cells at hDO
      have HDO := Lib.hid hDO; clear hDO hbytes hcells hBw
      have HDN := Lib.hid hdn; clear hdn
      have hkz : (((k : Int))).toNat = k := by omega
      go_upto_region 7 with fail
      refine wp_region_held_drew (S := AskS b o k t (.slice da dn dc) st0 dn0) (by kernel_rfl) hAS.drew (fun hHeld => ?_)
      refine wpAnyH_take (i := 0) (v := (.pointer (some ⟨m, 0, none⟩))) ops_at0 (by kernel_rfl) (by kernel_rfl) (by kernel_rfl) (fun _ _ _ h => h) (Or.inl ⟨by rfl, fun V hV => ?_⟩) hHeld ?_
      · go_simp
      simp only [Act.put, List.setIfInBounds_toArray, List.set_cons_zero, List.set_cons_succ]
      refine wpAnyH_take (i := 1) (v := .slice (some ⟨b, o, none⟩) n c0) ops_at1 (by kernel_rfl) (by kernel_rfl) (by kernel_rfl) (fun _ _ _ h => h) (Or.inl ⟨by rfl, fun V hV => ?_⟩) hHeld ?_
      · go_simp
      simp only [Act.put, List.setIfInBounds_toArray, List.set_cons_zero, List.set_cons_succ]
      refine wpAnyH_take (i := 2) (v := .int .i64 (k : Int)) ops_at2 (by kernel_rfl) (by kernel_rfl) (by kernel_rfl) (fun _ _ _ h => h) (Or.inl ⟨by rfl, fun V hV => ?_⟩) hHeld ?_
      · go_simp
      simp only [Act.put, List.setIfInBounds_toArray, List.set_cons_zero, List.set_cons_succ]
      refine wpAnyH_take (i := 3) (v := (.pointer (some ⟨b, o + k * 13, none⟩))) ops_at3 (by kernel_rfl) (by kernel_rfl) (by kernel_rfl) (fun _ _ _ h => h) (Or.inl ⟨by rfl, fun V hV => ?_⟩) hHeld ?_
      · go_simp
      simp only [Act.put, List.setIfInBounds_toArray, List.set_cons_zero, List.set_cons_succ]
      refine wpAnyH_take (i := 4) (v := (.pointer (some ⟨b, o + k * 13, none⟩))) ops_at4 (by kernel_rfl) (by kernel_rfl) (by kernel_rfl) (fun _ _ _ h => h) (Or.inl ⟨by rfl, fun V hV => ?_⟩) hHeld ?_
      · go_simp
      simp only [Act.put, List.setIfInBounds_toArray, List.set_cons_zero, List.set_cons_succ]
      refine wpAnyH_take (i := 5) (v := .agg #[.int .i64 t.cmd, .int .i64 t.tag, .int .i64 t.op, .bool t.ord, .bool t.fua, .int .i64 t.vol, .int .i64 t.lba, .int .i64 t.cnt, .int .i64 t.siz, .int .i64 t.quo, .slice da dn dc]) ops_at5 (by kernel_rfl) (by kernel_rfl) (by kernel_rfl) (fun _ _ _ h => h) (Or.inl ⟨by rfl, fun V hV => ?_⟩) hHeld ?_
      · have hq := hV.cells
        obtain ⟨q0, q1, q2, q3, q4, q5, q6, q7, q8, q9, q10, q11, q12⟩ := hq
        go_simp
      simp only [Act.put, List.setIfInBounds_toArray, List.set_cons_zero, List.set_cons_succ]
      refine wpAnyH_take (i := 6) (v := .slice (some ⟨b, o, none⟩) n c0) ops_at6 (by kernel_rfl) (by kernel_rfl) (by kernel_rfl) (fun _ _ _ h => h) (Or.inl ⟨by rfl, fun V hV => ?_⟩) hHeld ?_
      · go_simp
      simp only [Act.put, List.setIfInBounds_toArray, List.set_cons_zero, List.set_cons_succ]
      refine wpAnyH_take (i := 7) (v := .int .i64 (k : Int)) ops_at7 (by kernel_rfl) (by kernel_rfl) (by kernel_rfl) (fun _ _ _ h => h) (Or.inl ⟨by rfl, fun V hV => ?_⟩) hHeld ?_
      · go_simp
      simp only [Act.put, List.setIfInBounds_toArray, List.set_cons_zero, List.set_cons_succ]
      refine wpAnyH_take (i := 8) (v := (.pointer (some ⟨b, o + k * 13, none⟩))) ops_at8 (by kernel_rfl) (by kernel_rfl) (by kernel_rfl) (fun _ _ _ h => h) (Or.inl ⟨by rfl, fun V hV => ?_⟩) hHeld ?_
      · go_simp
      simp only [Act.put, List.setIfInBounds_toArray, List.set_cons_zero, List.set_cons_succ]
      refine wpAnyH_take (i := 9) (v := (.pointer (some ⟨b, o + k * 13 + 11, none⟩))) ops_at9 (by kernel_rfl) (by kernel_rfl) (by kernel_rfl) (fun _ _ _ h => h) (Or.inl ⟨by rfl, fun V hV => ?_⟩) hHeld ?_
      · go_simp
      simp only [Act.put, List.setIfInBounds_toArray, List.set_cons_zero, List.set_cons_succ]
      refine wpAnyH_take (i := 10) (v := .int .i64 st0) ops_at10 (by kernel_rfl) (by kernel_rfl) (by kernel_rfl) (fun _ _ _ h => h) (Or.inl ⟨by rfl, fun V hV => ?_⟩) hHeld ?_
      · have hq := hV.cells
        obtain ⟨q0, q1, q2, q3, q4, q5, q6, q7, q8, q9, q10, q11, q12⟩ := hq
        go_simp
      simp only [Act.put, List.setIfInBounds_toArray, List.set_cons_zero, List.set_cons_succ]
      refine wpAnyH_take (i := 11) (v := .slice (some ⟨b, o, none⟩) n c0) ops_at11 (by kernel_rfl) (by kernel_rfl) (by kernel_rfl) (fun _ _ _ h => h) (Or.inl ⟨by rfl, fun V hV => ?_⟩) hHeld ?_
      · go_simp
      simp only [Act.put, List.setIfInBounds_toArray, List.set_cons_zero, List.set_cons_succ]
      refine wpAnyH_take (i := 12) (v := .int .i64 (k : Int)) ops_at12 (by kernel_rfl) (by kernel_rfl) (by kernel_rfl) (fun _ _ _ h => h) (Or.inl ⟨by rfl, fun V hV => ?_⟩) hHeld ?_
      · go_simp
      simp only [Act.put, List.setIfInBounds_toArray, List.set_cons_zero, List.set_cons_succ]
      refine wpAnyH_take (i := 13) (v := (.pointer (some ⟨b, o + k * 13, none⟩))) ops_at13 (by kernel_rfl) (by kernel_rfl) (by kernel_rfl) (fun _ _ _ h => h) (Or.inl ⟨by rfl, fun V hV => ?_⟩) hHeld ?_
      · go_simp
      simp only [Act.put, List.setIfInBounds_toArray, List.set_cons_zero, List.set_cons_succ]
      refine wpAnyH_take (i := 14) (v := (.pointer (some ⟨b, o + k * 13 + 12, none⟩))) ops_at14 (by kernel_rfl) (by kernel_rfl) (by kernel_rfl) (fun _ _ _ h => h) (Or.inl ⟨by rfl, fun V hV => ?_⟩) hHeld ?_
      · go_simp
      simp only [Act.put, List.setIfInBounds_toArray, List.set_cons_zero, List.set_cons_succ]
      refine wpAnyH_take (i := 15) (v := .int .i64 dn0) ops_at15 (by kernel_rfl) (by kernel_rfl) (by kernel_rfl) (fun _ _ _ h => h) (Or.inl ⟨by rfl, fun V hV => ?_⟩) hHeld ?_
      · have hq := hV.cells
        obtain ⟨q0, q1, q2, q3, q4, q5, q6, q7, q8, q9, q10, q11, q12⟩ := hq
        go_simp
      simp only [Act.put, List.setIfInBounds_toArray, List.set_cons_zero, List.set_cons_succ]
      refine wpAnyH_ready (rs := [16]) (by kernel_rfl) (by simp) ?_
      refine AllReadyH.cons ops_at16 (fun K hK => ?_) AllReadyH.nil
      rw [if_pos (by rfl)]
      go_simp
      refine HDO.out.mono ?_
      rintro e w5 ⟨r, W', rfl, _, hm5, hk5, hn5⟩
      have hb5 : Below w0.heap.size wr w5 := ((Keeps.refl (fun _ => False) wr).drew.mono (G := W) (fun _ _ h => h.elim) |>.trans hk5 (fun _ _ h => h)).below HB.out.size (fun x hx h => by have := HW.out x h; omega)
      have HM5 := Lib.hid hm5; clear hm5
      have HW5 := Lib.hid (fun x (hx : W' x) => (hn5 x hx).elim (HW.out x) (fun h => Nat.le_trans HB.out.size h)); clear hn5 hk5
      have HB5 := Lib.hid (HB.out.trans hb5)
      have hAS5 := hAS.below hb5 (by omega)
      clear hb5
      go_wp2_with fail
      refine hK.out _ _ hAS5 (fun hHeld2 => ?_)
      clear hK K
      refine wpAnyH_done (by kernel_rfl) ?_ _
      go_wp2
      go_roundw
      case rel => exact ⟨k + 1, by omega, by simp, _, W', HM5.out, HG.out.doS t st0 dn0, HW5.out, HB5.out⟩
      case measure => simp only [intOf]; omega
    · obtain rfl : n = k := by omega
      have hkk : ¬ (n : Int) < (n : Int) := by omega
      clear HAT
      obtain ⟨wb, hwb⟩ : ∃ wb, wb = wr.heap.size := ⟨_, rfl⟩
      obtain ⟨w3, hw3⟩ : ∃ w3, w3 = wr.alloc (.cells #[.slice none 0 0, .slice none 0 0, .slice none 0 0, .slice none 0 0, .slice none 0 0, .slice none 0 0, .slice none 0 0, .slice none 0 0, .slice none 0 0, .slice none 0 0, .slice none 0 0, .slice none 0 0, .slice none 0 0, .slice none 0 0, .slice none 0 0, .slice none 0 0, .slice none 0 0, .slice none 0 0, .slice none 0 0, .slice none 0 0, .slice none 0 0, .slice none 0 0, .slice none 0 0, .slice none 0 0] 43) := ⟨_, rfl⟩
      have hk3 : Keeps (fun _ => False) wr w3 := by rw [hw3]; exact (Keeps.refl _ wr).alloc _
      have hc3 : CellsAt w3 wb #[.slice none 0 0, .slice none 0 0, .slice none 0 0, .slice none 0 0, .slice none 0 0, .slice none 0 0, .slice none 0 0, .slice none 0 0, .slice none 0 0, .slice none 0 0, .slice none 0 0, .slice none 0 0, .slice none 0 0, .slice none 0 0, .slice none 0 0, .slice none 0 0, .slice none 0 0, .slice none 0 0, .slice none 0 0, .slice none 0 0, .slice none 0 0, .slice none 0 0, .slice none 0 0, .slice none 0 0] 43 := by rw [hw3, hwb]; exact heap_at rfl
      have HWA3 := Lib.hid (fun f => WasAt.start (f := f) hc3 rfl)
      have HM3 := Lib.hid (HM.out.kept hk3)
      have HW3 := Lib.hid (show ∀ x, W x → w0.heap.size ≤ x ∧ x ≠ wb from fun x hx => ⟨HW.out x hx, by have := HM.out.lt x hx; omega⟩)
      have HB3 := Lib.hid (HB.out.trans (hk3.below HB.out.size (fun _ _ h => h)))
      have hwb0 : w0.heap.size ≤ wb := by rw [hwb]; exact HB.out.size
      clear hc3 hk3 HM HW HB
      obtain ⟨bl, hap⟩ := ap_at HG.out idof
      have HSN := Lib.hid hap.sn
      have HRD := Lib.hid hap.rd
      clear hap
      go_upto_region 9 with fail
      rw [← hw3, ← hwb]
      clear hw3 hwb
      go_wp2_with fail
      refine (volumes_at m S W w3 HM3.out HG.out).mono ?_
      rintro e w4 ⟨rv, rfl, hrow, hk4⟩
      obtain ⟨al, nv, cl, rfl, hnv⟩ : ∃ a n c, rv = .slice a n c ∧ n = S.vols.length := by
        rcases hrow.2 with ⟨e, h0⟩ | ⟨g, cap, cur, e, _⟩
        · exact ⟨_, _, _, e, h0.symm⟩
        · exact ⟨_, _, _, e, rfl⟩
      rw [← hnv] at hrow
      obtain ⟨rb, hrb⟩ : ∃ rb, rb = w3.heap.size := ⟨_, rfl⟩
      rw [← hrb] at hrow
      clear hrb
      have hnv1 : nv ≤ S.vols.length := by omega
      have hnv2 : S.vols.length ≤ nv := by omega
      clear hnv
      have hnv8 : nv ≤ 8 := Nat.le_trans hnv1 HG.out.len
      have HROW := Lib.hid hrow; clear hrow
      have HM4 := Lib.hid (HM3.out.kept hk4)
      have HWA4 := Lib.hid (fun f => (HWA3.out f).kept hk4)
      have HB4 := Lib.hid (HB3.out.trans (hk4.below HB3.out.size (fun _ _ h => h)))
      clear HM3 HB3 HWA3 hk4
      obtain ⟨sz, hsz⟩ : ∃ sz, sz = szL S.vols idof := ⟨_, rfl⟩
      rw [← hsz] at HSN HRD
      have HSZ := Lib.hid hsz; clear hsz
      go_wp2_with fail
      skip
      go_loopw [10, 12] (fun s i wv => ∃ x : Nat, x ≤ nv ∧ i = .int .i64 (x : Int) ∧ s = .int .i64 (szL (S.vols.take x) idof) ∧ w4 = wv) (fun _ i _ => nv - (intOf i).toNat)
      case atStart => exact ⟨0, by omega, rfl, by simp [szL], rfl⟩
      case round =>
        obtain ⟨x, hx, rfl, rfl, rfl⟩ := hrel
        by_cases hxn : x < nv
        · have hxn' : (x : Int) < (nv : Int) := by omega
          have hx0 : (0 : Int) ≤ (x : Int) := by omega
          obtain ⟨gl, rfl⟩ : ∃ gl, al = some ⟨gl, 0, none⟩ := by
            rcases HROW.out.2 with ⟨e, h0⟩ | ⟨g, cap, cur, e, _⟩
            · omega
            · injection e with e1; exact ⟨g, e1⟩
          obtain ⟨v, hv⟩ : ∃ v, S.vols[x]? = some v := ⟨S.vols[x]'(by omega), by simp [show x < S.vols.length by omega]⟩
          have q0 := (World.ownsRow.cellAt HROW.out (x * 6 + 0) (by omega)).trans (volsV_get S.vols x 0 v hv (by omega))
          have q2 := (World.ownsRow.cellAt HROW.out (x * 6 + 2) (by omega)).trans (volsV_get S.vols x 2 v hv (by omega))
          simp only [vcell, List.getElem?_cons_zero, List.getElem?_cons_succ, Nat.add_zero] at q0 q2
          obtain ⟨s1, hs1⟩ : ∃ s1, s1 = szL (S.vols.take (x + 1)) idof := ⟨_, rfl⟩
          have hnx := szL_next idof hv
          rw [← hs1] at hnx
          have HS1 := Lib.hid hs1; clear hs1 hv
          obtain ⟨s0, hs0⟩ : ∃ s0, s0 = szL (S.vols.take x) idof := ⟨_, rfl⟩
          rw [← hs0] at hnx ⊢
          clear hs0
          have HNX := Lib.hid hnx; clear hnx
          by_cases hid : v.id = idof
          · have hb : (v.id == idof) = true := by simp [hid]
            have hs : v.size = s1 := by rw [HNX.out, if_pos hid]
            have HS := Lib.hid hs; clear hs hid
            go_wp2
            go_roundw
            case rel => exact ⟨x + 1, by omega, by simp, by rw [HS.out, HS1.out], by first | rfl | trivial⟩
            case measure => simp only [intOf]; omega
          · have hb : (v.id == idof) = false := by simp [hid]
            have hs : s0 = s1 := by rw [HNX.out, if_neg hid]
            have HS := Lib.hid hs; clear hs hid
            go_wp2
            go_roundw
            case rel => exact ⟨x + 1, by omega, by simp, by rw [HS.out, HS1.out], by first | rfl | trivial⟩
            case measure => simp only [intOf]; omega
        obtain rfl : nv = x := by omega
        have hkk : ¬ (nv : Int) < (nv : Int) := by omega
        have e : szL (S.vols.take nv) idof = sz := by rw [List.take_of_length_le hnv2, HSZ.out]
        rw [e]
        clear e HSZ HROW hnv1 hnv2 hnv8
        obtain ⟨f, hf⟩ : ∃ f : Nat → List Nat, f = fun (y : Nat) => rdB bl (y : Int) := ⟨_, rfl⟩
        have HF := Lib.hid hf; clear hf
        have HWA5 := Lib.hid (HWA4.out f); clear HWA4
        go_wp2_with fail
        go_loopw [13] (fun i wv => ∃ y : Nat, y ≤ 24 ∧ i = .int .i64 (y : Int) ∧ ∃ W, ModelAt wv m S W ∧ WasAt wv wb f y ∧ (∀ x, W x → w0.heap.size ≤ x ∧ x ≠ wb) ∧ Below w0.heap.size w0 wv) (fun i _ => 24 - (intOf i).toNat)
        case atStart => exact ⟨0, by omega, rfl, W, HM4.out, HWA5.out, HW3.out, HB4.out⟩
        case round =>
          obtain ⟨y, hy, rfl, W5, hm, hwa, hW, hb⟩ := hrel
          clear HM4 HWA5 HW3 HB4
          have HM := Lib.hid hm; clear hm
          have HWA := Lib.hid hwa; clear hwa
          have HW := Lib.hid hW; clear hW
          have HB := Lib.hid hb; clear hb
          by_cases hin : y < 24 ∧ (y : Int) < sz
          · skip
            obtain ⟨hrd, hrl⟩ := HRD.out y hin.2
            have hDO := do_at m S W5 (rdTk idof y) (.slice none 0 0) 0 0 wr HM.out HG.out (.inl ⟨rfl, none, 0, rfl, fun _ => rfl⟩) ⟨none, 0, rfl, Nat.le_refl _⟩ (by simp [rdTk])
            rw [hrd] at hDO
            dsimp only [replyCells, Tk.cells, rdTk] at hDO
            clear hrd
            have HDO := Lib.hid hDO; clear hDO
            obtain ⟨dq, hdq⟩ : ∃ dq, dq = rdB bl (y : Int) := ⟨_, rfl⟩
            rw [← hdq] at HDO hrl
            have hfy : f y = dq := by rw [HF.out, hdq]
            clear hdq
            have HFY := Lib.hid hfy; clear hfy
            have hl1 : dq.length ≤ 64 := by omega
            have hl2 : 64 ≤ dq.length := by omega
            have HRL := Lib.hid hrl; clear hrl
            obtain ⟨hy1, hy2⟩ := hin
            have hy3 : (y : Int) < 24 := by omega
            have hy4 : (0 : Int) ≤ (y : Int) := by omega
            have hyz : ((y : Int)).toNat = y := by omega
            go_wp2_with fail
            refine HDO.out.mono ?_
            rintro e V1 ⟨r, W6, rfl, hown, hm1, hk1, hn1'⟩
            clear HDO
            obtain ⟨ra, rc, rfl, _⟩ := hown.bytes.form
            have hw1 : WasAt V1 wb f y := HWA.out.beside HM.out hk1 (fun h => (HW.out _ h).2 rfl)
            obtain ⟨ov, hov⟩ := hw1.has y hy1
            have hfr := hw1.free y
            have hfd : ∀ w : World, (Instr.field 35 (.agg #[.int .i64 0, .int .i64 0, .int .i64 0, .int .i64 0, .slice ra dq.length rc]) 4).run Try.prog w = .ok (.slice ra dq.length rc) w := fun _ => by kernel_rfl
            obtain ⟨V2, hV2⟩ : ∃ V2, V2 = V1.setCell ⟨wb, y, none⟩ (.slice ra dq.length rc) := ⟨_, rfl⟩
            have HWA2 := Lib.hid (show WasAt V2 wb f (y + 1) by rw [hV2]; rw [← HFY.out] at hown ⊢; exact hw1.put hy1 hown)
            have hk2 : Keeps (fun x => x = wb) V1 V2 := by rw [hV2]; exact (Keeps.refl (fun x => x = wb) V1).setCell (p := ⟨wb, y, none⟩) (fun _ => rfl) _
            have hz0 : w0.heap.size ≤ wr.heap.size := HB.out.size
            have HW2 := Lib.hid (show ∀ x, W6 x → w0.heap.size ≤ x ∧ x ≠ wb from fun x hx => (hn1' x hx).elim (HW.out x) (fun h => ⟨by omega, by have := HWA.out.lt; omega⟩))
            have HM2 := Lib.hid (hm1.keeps hk2 (fun x hx => (HW2.out x hx).2) (fun x cur hx => hw1.notBytes x cur hx))
            have HB2 := Lib.hid ((HB.out.trans (hk1.below hz0 (fun x hx h => by have := (HW.out x h).1; omega))).trans (hk2.below (Nat.le_trans hz0 hk1.size) (fun x hx h => by omega)))
            clear hw1 hown hm1 hk1 hn1' hk2 hz0 HM HW HB HWA
            go_upto_region 18 with fail
            rw [← hV2]
            clear hV2 hov hfr hfd
            go_wp2
            go_roundw
            case rel => exact ⟨y + 1, by omega, by simp, W6, HM2.out, HWA2.out, HW2.out, HB2.out⟩
            case measure => simp only [intOf]; omega
          have hcase : ((y : Int) < 24 ∧ ¬ (y : Int) < sz) ∨ ¬ (y : Int) < 24 := by omega
          have hyE : 24 ≤ y ∨ sz ≤ (y : Int) := by omega
          have HYE := Lib.hid hyE; clear hyE hin
          have HCS := Lib.hid hcase; clear hcase
          obtain ⟨bg, hbg⟩ : ∃ bg : Bool, bg = false := ⟨_, rfl⟩
          have HBG := Lib.hid hbg; clear hbg
          go_upto_region 17 with fail
          go_cut [76] from 70 to 86 (fun v wx => v = .bool false ∧ wr = wx)
          case first =>
            as_aux_lemma =>
              rcases HCS.out with ⟨k1, k2⟩ | k1
              all_goals
                go_wp2_with fail
                go_meet
                exact ⟨rfl, rfl⟩
          obtain ⟨rfl, rfl⟩ := hcut
          clear HCS HBG HRD
          have hDO := do_at m S W5 (snTk idof) (.slice none 0 0) 0 0 wr HM.out HG.out (.inl ⟨rfl, none, 0, rfl, fun _ => rfl⟩) ⟨none, 0, rfl, Nat.le_refl _⟩ (by simp [snTk])
          have hGD := HG.out.doS (snTk idof) 0 0
          have hz0 : w0.heap.size ≤ wr.heap.size := HB.out.size
          have hwbl : wb < wr.heap.size := HWA.out.lt
          obtain ⟨yE, hyE⟩ : ∃ yE, yE = y := ⟨_, rfl⟩
          rw [← hyE] at HWA HYE
          clear hyE
          rcases HSN.out with ⟨st, hst, hsn⟩ | ⟨u, hu1, hu2, hu3, hsn⟩
          · skip
            rw [hsn] at hDO hGD
            clear hsn HSN
            dsimp only [replyCells, Tk.cells, snTk] at hDO hGD
            have HDO := Lib.hid hDO; clear hDO
            have hb : (st != 0) = true := by simp [hst]
            clear hst
            go_wp2_with fail
            refine HDO.out.mono ?_
            rintro e V1 ⟨r, W6, rfl, hown, hm1, hk1, hn1'⟩
            clear HDO
            obtain ⟨ra, rc, rfl, _⟩ := hown.bytes.form
            obtain ⟨ab, hab⟩ : ∃ ab, ab = V1.heap.size := ⟨_, rfl⟩
            obtain ⟨V2, hV2⟩ : ∃ V2, V2 = V1.alloc (.cells #[.int .i64 0, .int .i64 0, .int .i64 st, .int .i64 0, .slice ra 0 rc] 35) := ⟨_, rfl⟩
            have hk2 : Keeps (fun _ => False) V1 V2 := by rw [hV2]; exact (Keeps.refl _ V1).alloc _
            have HA2 := Lib.hid (show CellsAt V2 ab #[.int .i64 0, .int .i64 0, .int .i64 st, .int .i64 0, .slice ra 0 rc] 35 by rw [hV2, hab]; exact heap_at rfl)
            have HB2 := Lib.hid ((HB.out.trans (hk1.below hz0 (fun x hx h => by have := (HW.out x h).1; omega))).trans (hk2.below (Nat.le_trans hz0 hk1.size) (fun _ _ h => h)))
            go_upto_region 21 with fail
            rw [← hV2, ← hab]
            clear hV2 hab hk2 hk1 hm1 hn1' hown
            have a2 := HA2.out.cell 2
            have a4 := HA2.out.cell 4
            simp only [List.getElem?_toArray, List.getElem?_cons_zero, List.getElem?_cons_succ] at a2 a4
            go_wp2
            go_ret
            exact ⟨rfl, HB2.out⟩
          · skip
            rw [hsn] at hDO hGD
            clear hsn HSN
            dsimp only [replyCells, Tk.cells, snTk] at hDO hGD
            have HDO := Lib.hid hDO; clear hDO
            have hl4 : (fourB S.next.toNat).length = 4 := rfl
            obtain ⟨dq, hdq⟩ : ∃ dq, dq = fourB S.next.toNat := ⟨_, rfl⟩
            rw [← hdq] at HDO hl4
            have HDQ := Lib.hid hdq; clear hdq
            have HL4 := Lib.hid hl4; clear hl4
            have hn0 := HG.out.next0
            have hn1z := HG.out.next1
            go_wp2_with fail
            refine HDO.out.mono ?_
            rintro e V1 ⟨r, W6, rfl, hown, hm1, hk1, hn1'⟩
            clear HDO
            obtain ⟨ra, rc, rfl, _⟩ := hown.bytes.form
            rw [HL4.out]
            obtain ⟨ab, hab⟩ : ∃ ab, ab = V1.heap.size := ⟨_, rfl⟩
            obtain ⟨V2, hV2⟩ : ∃ V2, V2 = V1.alloc (.cells #[.int .i64 0, .int .i64 0, .int .i64 0, .int .i64 0, .slice ra 4 rc] 35) := ⟨_, rfl⟩
            have hk2 : Keeps (fun _ => False) V1 V2 := by rw [hV2]; exact (Keeps.refl _ V1).alloc _
            have HA2 := Lib.hid (show CellsAt V2 ab #[.int .i64 0, .int .i64 0, .int .i64 0, .int .i64 0, .slice ra 4 rc] 35 by rw [hV2, hab]; exact heap_at rfl)
            have HB2 := Lib.hid ((HB.out.trans (hk1.below hz0 (fun x hx h => by have := (HW.out x h).1; omega))).trans (hk2.below (Nat.le_trans hz0 hk1.size) (fun _ _ h => h)))
            have HM2 := Lib.hid (hm1.kept hk2)
            have HWA2 := Lib.hid ((HWA.out.beside HM.out hk1 (fun h => (HW.out _ h).2 rfl)).kept hk2)
            have HW2 := Lib.hid (show ∀ x, W6 x → w0.heap.size ≤ x ∧ x ≠ wb from fun x hx => (hn1' x hx).elim (HW.out x) (fun h => ⟨by omega, by omega⟩))
            have hmem : u ∈ (S.add u).vols := Mo.mem_add S u
            obtain ⟨Su, hSu⟩ : ∃ Su, Su = S.add u := ⟨_, rfl⟩
            rw [← hSu] at hmem hGD HM2
            clear hSu
            have HMEM := Lib.hid hmem; clear hmem
            have HGU := Lib.hid hGD; clear hGD
            rcases hown.bytes with ⟨e0, _⟩ | ⟨gq, off, cp, e1, hcl⟩
            · have := HL4.out; rw [e0] at this; simp at this
            injection e1 with e1 e2 e3
            subst e1
            clear e2 e3
            have hcl2 : ∀ i, i < 4 → V2.cell? ⟨gq, off + i, none⟩ = some (.int .u8 (dq.getD i 0 : Nat)) := fun i hi => (hk2.cell (p := ⟨gq, off + i, none⟩) (block_lt (hcl i (by rw [HL4.out]; exact hi))) id).trans (hcl i (by rw [HL4.out]; exact hi))
            have HCL := Lib.hid hcl2; clear hcl hcl2
            have HSM := Lib.hid (show ∀ j, dq.getD j 0 < 256 from fun j => by rw [HDQ.out]; exact fourB_small (by omega) j)
            have HFIN := Lib.hid (show ((decB dq 0 4 : Nat) : Int) = u.id by rw [decB_four dq 0 S.next.toNat (by omega) (fun j _ => by rw [HDQ.out, Nat.zero_add])]; omega)
            clear HM HW HB HWA hk1 hm1 hn1' hown HG HDQ hn0 hn1z hu1
            go_upto_region 21 with fail
            rw [← hV2, ← hab]
            clear hV2 hab hk2
            have a2 := HA2.out.cell 2
            have a4 := HA2.out.cell 4
            simp only [List.getElem?_toArray, List.getElem?_cons_zero, List.getElem?_cons_succ] at a2 a4
            have HU2 := Lib.hid hu2; clear hu2
            have HU3 := Lib.hid hu3; clear hu3
            go_wp2_with fail
            go_loopw [15, 16] (fun d i wy => ∃ j : Nat, j ≤ 4 ∧ i = .int .i64 (j : Int) ∧ d = .int .i64 ((decB dq 0 j : Nat) : Int) ∧ V2 = wy) (fun _ i _ => 4 - (intOf i).toNat)
            case atStart => exact ⟨0, by omega, rfl, rfl, rfl⟩
            case round =>
              obtain ⟨j, hj, rfl, rfl, rfl⟩ := hrel
              obtain ⟨D, hD⟩ : ∃ D, D = decB dq 0 j := ⟨_, rfl⟩
              rw [← hD]
              have hDl : D < 4294967296 := by rw [hD]; exact decB_small HSM.out 0 j hj
              have HD := Lib.hid hD; clear hD
              by_cases hj4 : j < 4
              · have hj4' : (j : Int) < 4 := by omega
                have hj0 : (0 : Int) ≤ (j : Int) := by omega
                obtain ⟨X, hX⟩ : ∃ X, X = dq.getD j 0 := ⟨_, rfl⟩
                have hXl : X < 256 := by rw [hX]; exact HSM.out j
                have x1 : V2.cell? ⟨gq, off + j, none⟩ = some (.int .u8 (X : Nat)) := by rw [hX]; exact HCL.out j hj4
                have HX := Lib.hid hX; clear hX
                have hw1 : IntKind.i64.wrap (256 * (D : Int)) = 256 * (D : Int) := IntWalk.i64_in _ (by omega)
                have hw2 : IntKind.i64.wrap (256 * (D : Int) + (X : Int)) = 256 * (D : Int) + (X : Int) := IntWalk.i64_in _ (by omega)
                have hw3 : IntKind.i64.wrap (X : Int) = (X : Int) := IntWalk.i64_in _ (by omega)
                go_wp2
                go_roundw
                case rel => refine ⟨j + 1, by omega, by simp, by rw [HD.out, HX.out]; simp [decB], ?_⟩; first | rfl | trivial
                case measure => simp only [intOf]; omega
              obtain rfl : j = 4 := by omega
              have hDf : (D : Int) = u.id := by rw [HD.out]; exact HFIN.out
              rw [hDf, show ((4 : Nat) : Int) = 4 from rfl]
              clear hDf HD hDl HFIN HSM HCL a2 HA2 HL4
              go_wp2_with fail
              clear a4
              go_loopw [17] (fun i wr => ∃ k : Nat, k ≤ n1 ∧ i = .int .i64 (k : Int) ∧ ∃ S W, ModelAt wr m S W ∧ Good S ∧ u ∈ S.vols ∧ WasAt wr wb f yE ∧ (∀ x, W x → w0.heap.size ≤ x ∧ x ≠ wb) ∧ Below w0.heap.size w0 wr) (fun i _ => n1 - (intOf i).toNat)
              case atStart => exact ⟨0, by omega, rfl, Su, W6, HM2.out, HGU.out, HMEM.out, HWA2.out, HW2.out, HB2.out⟩
              case round =>
                obtain ⟨k, hk, rfl, S5, W7, hm, hg, hmem, hwa, hW, hb⟩ := hrel
                clear HM2 HGU HMEM HWA2 HW2 HB2
                have HG := Lib.hid hg; clear hg
                have HMEM := Lib.hid hmem; clear hmem
                have HM := Lib.hid hm; clear hm
                have HWA := Lib.hid hwa; clear hwa
                have HW := Lib.hid hW; clear hW
                have HB := Lib.hid hb; clear hb
                by_cases hlt : k < n1
                · have hkn : (k : Int) < (n1 : Int) := by omega
                  have hk0 : (0 : Int) ≤ (k : Int) := by omega
                  obtain ⟨⟨t, dv, st0, dn0⟩, hy⟩ : ∃ y, l1[k]? = some y := ⟨l1[k]'(by omega), by simp [show k < l1.length by omega]⟩
                  obtain ⟨⟨b, o, rfl, hbl, hcells⟩, ⟨hbytes, hf⟩, hdl⟩ := HAT1.out k _ hy
                  dsimp only at hbytes hf hdl
                  obtain ⟨da, dc, rfl, hdc⟩ := hf
                  obtain ⟨dn, hdn⟩ : ∃ dn, dn = t.data.length := ⟨_, rfl⟩
                  rw [← hdn] at hbytes hdc hcells
                  clear hy
                  have hBw : Below w.heap.size w wr := HB0.out.trans (HB.out.mono (by omega))
                  have hAS : AskS b o k t (.slice da dn dc) st0 dn0 wr := (AskS.of (y := ⟨t, .slice da dn dc, st0, dn0⟩) hcells).below hBw hbl
                  have q5 : wr.cell? ⟨b, o + k * 13 + 5, none⟩ = some (.int .i64 t.vol) := by
                    obtain ⟨_, _, _, _, _, q5, _⟩ := hAS.cells
                    exact q5
                  have hkz : (((k : Int))).toNat = k := by omega
                  by_cases hvu : t.vol = u.id
                  · have hvb : (t.vol != u.id) = false := by simp [hvu]
                    clear hvu hAS hbytes hcells hBw
                    go_wp2
                    go_roundw
                    case rel => exact ⟨k + 1, by omega, by simp, S5, W7, HM.out, HG.out, HMEM.out, HWA.out, HW.out, HB.out⟩
                    case measure => simp only [intOf]; omega
                  have hvb : (t.vol != u.id) = true := by simp [hvu]
                  have HMM := Lib.hid (do_keeps t st0 dn0 HMEM.out hvu); clear hvu
                  have hDO := do_at m S5 W7 t (.slice da dn dc) st0 dn0 wr.drew (HM.out.kept (Keeps.refl _ wr).drew) HG.out ((hbytes.later hBw).later (Below.refl _ wr).drew) ⟨da, dc, by rw [hdn], by omega⟩ hdl
                  unfold Tk.cells at hDO
                  have HDO := Lib.hid hDO; clear hDO hbytes hcells hBw
                  have HDN := Lib.hid hdn; clear hdn
                  go_upto_region 32 with fail
                  clear q5 hvb
                  refine wp_region_held_drew (S := AskS b o k t (.slice da dn dc) st0 dn0) (by kernel_rfl) hAS.drew (fun hHeld => ?_)
                  refine wpAnyH_take (i := 0) (v := (.pointer (some ⟨m, 0, none⟩))) ops_at0 (by kernel_rfl) (by kernel_rfl) (by kernel_rfl) (fun _ _ _ h => h) (Or.inl ⟨by rfl, fun V hV => ?_⟩) hHeld ?_
                  · go_simp
                  simp only [Act.put, List.setIfInBounds_toArray, List.set_cons_zero, List.set_cons_succ]
                  refine wpAnyH_take (i := 1) (v := .slice (some ⟨b, o, none⟩) n1 c1) ops_at1 (by kernel_rfl) (by kernel_rfl) (by kernel_rfl) (fun _ _ _ h => h) (Or.inl ⟨by rfl, fun V hV => ?_⟩) hHeld ?_
                  · go_simp
                  simp only [Act.put, List.setIfInBounds_toArray, List.set_cons_zero, List.set_cons_succ]
                  refine wpAnyH_take (i := 2) (v := .int .i64 (k : Int)) ops_at2 (by kernel_rfl) (by kernel_rfl) (by kernel_rfl) (fun _ _ _ h => h) (Or.inl ⟨by rfl, fun V hV => ?_⟩) hHeld ?_
                  · go_simp
                  simp only [Act.put, List.setIfInBounds_toArray, List.set_cons_zero, List.set_cons_succ]
                  refine wpAnyH_take (i := 3) (v := (.pointer (some ⟨b, o + k * 13, none⟩))) ops_at3 (by kernel_rfl) (by kernel_rfl) (by kernel_rfl) (fun _ _ _ h => h) (Or.inl ⟨by rfl, fun V hV => ?_⟩) hHeld ?_
                  · go_simp
                  simp only [Act.put, List.setIfInBounds_toArray, List.set_cons_zero, List.set_cons_succ]
                  refine wpAnyH_take (i := 4) (v := (.pointer (some ⟨b, o + k * 13, none⟩))) ops_at4 (by kernel_rfl) (by kernel_rfl) (by kernel_rfl) (fun _ _ _ h => h) (Or.inl ⟨by rfl, fun V hV => ?_⟩) hHeld ?_
                  · go_simp
                  simp only [Act.put, List.setIfInBounds_toArray, List.set_cons_zero, List.set_cons_succ]
                  refine wpAnyH_take (i := 5) (v := .agg #[.int .i64 t.cmd, .int .i64 t.tag, .int .i64 t.op, .bool t.ord, .bool t.fua, .int .i64 t.vol, .int .i64 t.lba, .int .i64 t.cnt, .int .i64 t.siz, .int .i64 t.quo, .slice da dn dc]) ops_at5 (by kernel_rfl) (by kernel_rfl) (by kernel_rfl) (fun _ _ _ h => h) (Or.inl ⟨by rfl, fun V hV => ?_⟩) hHeld ?_
                  · have hq := hV.cells
                    obtain ⟨q0, q1, q2, q3, q4, q5, q6, q7, q8, q9, q10, q11, q12⟩ := hq
                    go_simp
                  simp only [Act.put, List.setIfInBounds_toArray, List.set_cons_zero, List.set_cons_succ]
                  refine wpAnyH_take (i := 6) (v := .slice (some ⟨b, o, none⟩) n1 c1) ops_at6 (by kernel_rfl) (by kernel_rfl) (by kernel_rfl) (fun _ _ _ h => h) (Or.inl ⟨by rfl, fun V hV => ?_⟩) hHeld ?_
                  · go_simp
                  simp only [Act.put, List.setIfInBounds_toArray, List.set_cons_zero, List.set_cons_succ]
                  refine wpAnyH_take (i := 7) (v := .int .i64 (k : Int)) ops_at7 (by kernel_rfl) (by kernel_rfl) (by kernel_rfl) (fun _ _ _ h => h) (Or.inl ⟨by rfl, fun V hV => ?_⟩) hHeld ?_
                  · go_simp
                  simp only [Act.put, List.setIfInBounds_toArray, List.set_cons_zero, List.set_cons_succ]
                  refine wpAnyH_take (i := 8) (v := (.pointer (some ⟨b, o + k * 13, none⟩))) ops_at8 (by kernel_rfl) (by kernel_rfl) (by kernel_rfl) (fun _ _ _ h => h) (Or.inl ⟨by rfl, fun V hV => ?_⟩) hHeld ?_
                  · go_simp
                  simp only [Act.put, List.setIfInBounds_toArray, List.set_cons_zero, List.set_cons_succ]
                  refine wpAnyH_take (i := 9) (v := (.pointer (some ⟨b, o + k * 13 + 11, none⟩))) ops_at9 (by kernel_rfl) (by kernel_rfl) (by kernel_rfl) (fun _ _ _ h => h) (Or.inl ⟨by rfl, fun V hV => ?_⟩) hHeld ?_
                  · go_simp
                  simp only [Act.put, List.setIfInBounds_toArray, List.set_cons_zero, List.set_cons_succ]
                  refine wpAnyH_take (i := 10) (v := .int .i64 st0) ops_at10 (by kernel_rfl) (by kernel_rfl) (by kernel_rfl) (fun _ _ _ h => h) (Or.inl ⟨by rfl, fun V hV => ?_⟩) hHeld ?_
                  · have hq := hV.cells
                    obtain ⟨q0, q1, q2, q3, q4, q5, q6, q7, q8, q9, q10, q11, q12⟩ := hq
                    go_simp
                  simp only [Act.put, List.setIfInBounds_toArray, List.set_cons_zero, List.set_cons_succ]
                  refine wpAnyH_take (i := 11) (v := .slice (some ⟨b, o, none⟩) n1 c1) ops_at11 (by kernel_rfl) (by kernel_rfl) (by kernel_rfl) (fun _ _ _ h => h) (Or.inl ⟨by rfl, fun V hV => ?_⟩) hHeld ?_
                  · go_simp
                  simp only [Act.put, List.setIfInBounds_toArray, List.set_cons_zero, List.set_cons_succ]
                  refine wpAnyH_take (i := 12) (v := .int .i64 (k : Int)) ops_at12 (by kernel_rfl) (by kernel_rfl) (by kernel_rfl) (fun _ _ _ h => h) (Or.inl ⟨by rfl, fun V hV => ?_⟩) hHeld ?_
                  · go_simp
                  simp only [Act.put, List.setIfInBounds_toArray, List.set_cons_zero, List.set_cons_succ]
                  refine wpAnyH_take (i := 13) (v := (.pointer (some ⟨b, o + k * 13, none⟩))) ops_at13 (by kernel_rfl) (by kernel_rfl) (by kernel_rfl) (fun _ _ _ h => h) (Or.inl ⟨by rfl, fun V hV => ?_⟩) hHeld ?_
                  · go_simp
                  simp only [Act.put, List.setIfInBounds_toArray, List.set_cons_zero, List.set_cons_succ]
                  refine wpAnyH_take (i := 14) (v := (.pointer (some ⟨b, o + k * 13 + 12, none⟩))) ops_at14 (by kernel_rfl) (by kernel_rfl) (by kernel_rfl) (fun _ _ _ h => h) (Or.inl ⟨by rfl, fun V hV => ?_⟩) hHeld ?_
                  · go_simp
                  simp only [Act.put, List.setIfInBounds_toArray, List.set_cons_zero, List.set_cons_succ]
                  refine wpAnyH_take (i := 15) (v := .int .i64 dn0) ops_at15 (by kernel_rfl) (by kernel_rfl) (by kernel_rfl) (fun _ _ _ h => h) (Or.inl ⟨by rfl, fun V hV => ?_⟩) hHeld ?_
                  · have hq := hV.cells
                    obtain ⟨q0, q1, q2, q3, q4, q5, q6, q7, q8, q9, q10, q11, q12⟩ := hq
                    go_simp
                  simp only [Act.put, List.setIfInBounds_toArray, List.set_cons_zero, List.set_cons_succ]
                  refine wpAnyH_ready (rs := [16]) (by kernel_rfl) (by simp) ?_
                  refine AllReadyH.cons ops_at16 (fun K hK => ?_) AllReadyH.nil
                  rw [if_pos (by rfl)]
                  go_simp
                  refine HDO.out.mono ?_
                  rintro e w5 ⟨r, W8, rfl, _, hm5, hk5, hn5⟩
                  have hkk5 : Keeps W7 wr w5 := ((Keeps.refl (fun _ => False) wr).drew.mono (G := W7) (fun _ _ h => h.elim) |>.trans hk5 (fun _ _ h => h))
                  have hb5 : Below w0.heap.size wr w5 := hkk5.below HB.out.size (fun x hx h => by have := (HW.out x h).1; omega)
                  have HM5 := Lib.hid hm5; clear hm5
                  have HWA6 := Lib.hid (HWA.out.beside HM.out hkk5 (fun h => (HW.out _ h).2 rfl))
                  have hz5 : wr.drew.heap.size = wr.heap.size := rfl
                  have HW5 := Lib.hid (show ∀ x, W8 x → w0.heap.size ≤ x ∧ x ≠ wb from fun x hx => (hn5 x hx).elim (HW.out x) (fun h => ⟨by have := HB.out.size; omega, by have := HWA.out.lt; omega⟩)); clear hn5 hk5 hkk5 hz5
                  have HB5 := Lib.hid (HB.out.trans hb5)
                  have hAS5 := hAS.below hb5 (by omega)
                  clear hb5
                  go_wp2_with fail
                  refine hK.out _ _ hAS5 (fun hHeld2 => ?_)
                  clear hK K
                  refine wpAnyH_done (by kernel_rfl) ?_ _
                  go_wp2
                  go_roundw
                  case rel => exact ⟨k + 1, by omega, by simp, _, W8, HM5.out, HG.out.doS t st0 dn0, HMM.out, HWA6.out, HW5.out, HB5.out⟩
                  case measure => simp only [intOf]; omega
                obtain rfl : n1 = k := by omega
                have hkk : ¬ (n1 : Int) < (n1 : Int) := by omega
                have HRD2 := Lib.hid (fun (y : Nat) (hy : (y : Int) < sz) => (show doS S5 (rdTk u.id y) 0 0 = (⟨0, 0, 0, 0, rdB bl y⟩, S5) ∧ (rdB bl y).length = 64 by have := read_step HG.out HMEM.out y (by rw [HU2.out]; exact hy); rw [HU3.out] at this; exact this))
                clear HMEM HAT1
                go_wp2_with fail
                go_loopw [18] (fun i wv => ∃ y : Nat, y ≤ 24 ∧ i = .int .i64 (y : Int) ∧ ∃ W, ModelAt wv m S5 W ∧ WasAt wv wb f yE ∧ (∀ x, W x → w0.heap.size ≤ x ∧ x ≠ wb) ∧ Below w0.heap.size w0 wv) (fun i _ => 24 - (intOf i).toNat)
                case atStart => exact ⟨0, by omega, rfl, W7, HM.out, HWA.out, HW.out, HB.out⟩
                case round =>
                  obtain ⟨y, hy, rfl, W9, hm, hwa, hW, hb⟩ := hrel
                  clear HM HWA HW HB
                  have HM := Lib.hid hm; clear hm
                  have HWA := Lib.hid hwa; clear hwa
                  have HW := Lib.hid hW; clear hW
                  have HB := Lib.hid hb; clear hb
                  by_cases hin : y < 24 ∧ (y : Int) < sz
                  rotate_left
                  · have hcase : ((y : Int) < 24 ∧ ¬ (y : Int) < sz) ∨ ¬ (y : Int) < 24 := by omega
                    clear hin
                    rcases hcase with ⟨k1, k2⟩ | k1
                    all_goals
                      go_wp2
                      go_ret
                      exact ⟨rfl, HB.out⟩
                  have hyE : y < yE := by have := HYE.out; omega
                  obtain ⟨hrd, hrl⟩ := HRD2.out y hin.2
                  have hDO := do_at m S5 W9 (rdTk u.id y) (.slice none 0 0) 0 0 wr HM.out HG.out (.inl ⟨rfl, none, 0, rfl, fun _ => rfl⟩) ⟨none, 0, rfl, Nat.le_refl _⟩ (by simp [rdTk])
                  rw [hrd] at hDO
                  dsimp only [replyCells, Tk.cells, rdTk] at hDO
                  clear hrd
                  have HDO := Lib.hid hDO; clear hDO
                  obtain ⟨dq, hdq⟩ : ∃ dq, dq = rdB bl (y : Int) := ⟨_, rfl⟩
                  rw [← hdq] at HDO hrl
                  have hfy : f y = dq := by rw [HF.out, hdq]
                  clear hdq
                  have HFY := Lib.hid hfy; clear hfy
                  have hl1 : dq.length ≤ 64 := by omega
                  have hl2 : 64 ≤ dq.length := by omega
                  have HRL := Lib.hid hrl; clear hrl
                  obtain ⟨hy1, hy2⟩ := hin
                  have hy3 : (y : Int) < 24 := by omega
                  have hy4 : (0 : Int) ≤ (y : Int) := by omega
                  have hyz : ((y : Int)).toNat = y := by omega
                  go_wp2_with fail
                  refine HDO.out.mono ?_
                  rintro e V1 ⟨r, W10, rfl, hown, hm1, hk1, hn1'⟩
                  clear HDO
                  obtain ⟨ra, rc, rfl, _⟩ := hown.bytes.form
                  obtain ⟨wa, wc', hwc, hwo⟩ := (HWA.out.beside HM.out hk1 (fun h => (HW.out _ h).2 rfl)).row y hyE
                  rw [HFY.out] at hwc hwo
                  have hx1 := hown.bytes
                  have hx2 := hwo.bytes
                  rw [HRL.out] at hx1 hx2 hwc ⊢
                  obtain ⟨ab, hab⟩ : ∃ ab, ab = V1.heap.size := ⟨_, rfl⟩
                  obtain ⟨V2, hV2⟩ : ∃ V2, V2 = V1.alloc (.cells #[.int .i64 0, .int .i64 0, .int .i64 0, .int .i64 0, .slice ra 64 rc] 35) := ⟨_, rfl⟩
                  have hk2 : Keeps (fun _ => False) V1 V2 := by rw [hV2]; exact (Keeps.refl _ V1).alloc _
                  have HA2 := Lib.hid (show CellsAt V2 ab #[.int .i64 0, .int .i64 0, .int .i64 0, .int .i64 0, .slice ra 64 rc] 35 by rw [hV2, hab]; exact heap_at rfl)
                  have hz0 : w0.heap.size ≤ wr.heap.size := HB.out.size
                  have hwbl : wb < wr.heap.size := HWA.out.lt
                  have hwc2 := (hk2.cell (p := ⟨wb, y, none⟩) (block_lt hwc) id).trans hwc
                  have HB2 := Lib.hid ((HB.out.trans (hk1.below hz0 (fun x hx h => by have := (HW.out x h).1; omega))).trans (hk2.below (Nat.le_trans hz0 hk1.size) (fun _ _ h => h)))
                  have HM2 := Lib.hid (hm1.kept hk2)
                  have HWA2 := Lib.hid ((HWA.out.beside HM.out hk1 (fun h => (HW.out _ h).2 rfl)).kept hk2)
                  have HW2 := Lib.hid (show ∀ x, W10 x → w0.heap.size ≤ x ∧ x ≠ wb from fun x hx => (hn1' x hx).elim (HW.out x) (fun h => ⟨by omega, by omega⟩))
                  have HX1 := Lib.hid (hx1.keeps hk2 (fun _ _ _ _ _ => id))
                  have HX2 := Lib.hid (hx2.keeps hk2 (fun _ _ _ _ _ => id))
                  clear hk1 hm1 hn1' hown hwo hx1 hx2 hwc HM HW HB HWA
                  go_upto_region 37 with fail
                  rw [← hV2, ← hab]
                  clear hV2 hab hk2 hz0 hwbl
                  have a2 := HA2.out.cell 2
                  have a4 := HA2.out.cell 4
                  simp only [List.getElem?_toArray, List.getElem?_cons_zero, List.getElem?_cons_succ] at a2 a4
                  have s1 := fun n => convert_bytes (HX1.out.keeps ((Keeps.refl (fun _ => False) V2).drewN n) (fun _ _ _ _ _ => id)) (by omega)
                  have s2 := fun n => convert_bytes (HX2.out.keeps ((Keeps.refl (fun _ => False) V2).drewN n) (fun _ _ _ _ _ => id)) (by omega)
                  obtain ⟨ss, hss⟩ : ∃ ss, ss = strOf dq := ⟨_, rfl⟩
                  rw [← hss] at s1 s2
                  clear hss
                  go_quiet (fail)
                  go_wp2
                  go_roundw
                  case rel => exact ⟨y + 1, by omega, by simp, W10, HM2.out.kept ((Keeps.refl _ V2).drewN _), HWA2.out.kept ((Keeps.refl _ V2).drewN _), HW2.out, below_drewN HB2.out _⟩
                  case measure => simp only [intOf]; omega
end Go.Proofs.Ytmanldcohbegkaa
