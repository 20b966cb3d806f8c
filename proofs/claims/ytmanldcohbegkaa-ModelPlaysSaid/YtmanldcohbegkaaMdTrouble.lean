/-
  ModelTrouble: the walk. (Written by gen_mdtrouble.py.)
-/
import Derived.Test.YtmanldcohbegkaaMdKnown
import Derived.Test.YtmanldcohbegkaaMdEqVols
import Derived.Test.YtmanldcohbegkaaMdTrMath
namespace Go.Proofs.Ytmanldcohbegkaa
open Go.RowKit

/-- An ask's cells, as they lie. -/
structure AskS (b o k : Nat) (t : Tk) (dv : Value) (st dn : Int) (V : World) : Prop where
  cells : V.cell? ⟨b, o + k * 13, none⟩ = some (.int .i64 t.cmd) ∧ V.cell? ⟨b, o + k * 13 + 1, none⟩ = some (.int .i64 t.tag) ∧ V.cell? ⟨b, o + k * 13 + 2, none⟩ = some (.int .i64 t.op) ∧ V.cell? ⟨b, o + k * 13 + 3, none⟩ = some (.bool t.ord) ∧ V.cell? ⟨b, o + k * 13 + 4, none⟩ = some (.bool t.fua) ∧ V.cell? ⟨b, o + k * 13 + 5, none⟩ = some (.int .i64 t.vol) ∧ V.cell? ⟨b, o + k * 13 + 6, none⟩ = some (.int .i64 t.lba) ∧
    V.cell? ⟨b, o + k * 13 + 7, none⟩ = some (.int .i64 t.cnt) ∧ V.cell? ⟨b, o + k * 13 + 8, none⟩ = some (.int .i64 t.siz) ∧ V.cell? ⟨b, o + k * 13 + 9, none⟩ = some (.int .i64 t.quo) ∧ V.cell? ⟨b, o + k * 13 + 10, none⟩ = some dv ∧ V.cell? ⟨b, o + k * 13 + 11, none⟩ = some (.int .i64 st) ∧ V.cell? ⟨b, o + k * 13 + 12, none⟩ = some (.int .i64 dn)
theorem AskS.drew {b o k : Nat} {t : Tk} {dv : Value} {st dn : Int} {V : World} (h : AskS b o k t dv st dn V) : AskS b o k t dv st dn V.drew := ⟨h.cells⟩
theorem AskS.below {b o k : Nat} {t : Tk} {dv : Value} {st dn : Int} {V V' : World} {B : Nat} (h : AskS b o k t dv st dn V) (hb : Below B V V') (hl : b < B) : AskS b o k t dv st dn V' := by
  have e : ∀ j, V'.cell? ⟨b, j, none⟩ = V.cell? ⟨b, j, none⟩ := fun j => hb.cell (p := ⟨b, j, none⟩) hl
  constructor
  simp only [e]
  exact h.cells
theorem AskS.of {W : World} {b o k : Nat} {y : AskV} (h : ∀ j, j < 13 → W.cell? ⟨b, o + k * 13 + j, none⟩ = y.cells[j]?) : AskS b o k y.t y.dv y.st y.dn W :=
  ⟨h 0 (by omega), h 1 (by omega), h 2 (by omega), h 3 (by omega), h 4 (by omega), h 5 (by omega), h 6 (by omega), h 7 (by omega), h 8 (by omega), h 9 (by omega), h 10 (by omega), h 11 (by omega), h 12 (by omega)⟩
theorem AsksAt.at {W : World} {a : Option Addr} {n c : Nat} {l : List AskV} (h : AsksAt W (.slice a n c) l) : n = l.length ∧ ∀ i y, l[i]? = some y → (∃ b s, a = some ⟨b, s, none⟩ ∧ b < W.heap.size ∧ ∀ j, j < 13 → W.cell? ⟨b, s + i * 13 + j, none⟩ = y.cells[j]?) ∧ y.bytes W := by
  obtain ⟨ao, c', e, hi⟩ := h
  injection e with e1 e2 e3
  subst e1
  exact ⟨e2, hi⟩
/-- A reply stored: its cells, as they lie. -/
theorem reply_new (w : World) (t : Tk) (s k : Int) (d : Value) : CellsAt (w.alloc (.cells (replyCells t s k d) 35)) w.heap.size (replyCells t s k d) 35 := heap_at rfl

set_option maxRecDepth 100000 in
set_option maxHeartbeats 12800000 in
theorem trouble_law (a0 : Option Addr) (n c0 : Nat) (l : List AskV) (t0 : Tk) (ta : Option Addr) (tn tc : Nat) (done0 : Int) (w : World) (ho : AsksAt w (.slice a0 n c0) l) (htb : BytesAt w (.slice ta tn tc) t0.data) (htn : tn = t0.data.length) (htc : tn ≤ tc) (htl : t0.data.length ≤ 140737488355328) (hn : n ≤ maxLen) :
    Calls Try.prog 7 #[.slice a0 n c0, .agg (t0.cells (.slice ta tn tc)), .int .i64 done0] w fun e w' => e = .returned (.bool true) ∧ Below w.heap.size w w' := by
  obtain ⟨hn1, hat⟩ := ho.at
  have hn2 : n ≤ l.length := by omega
  have hn3 : l.length ≤ n := by omega
  have hn4 : n ≤ 9223372036854775807 := hn
  clear hn1
  have HAT := Lib.hid hat; clear hat ho
  have HTB := Lib.hid htb; clear htb
  have HTN := Lib.hid htn; clear htn
  have hT0 := CellsAt.new w (t0.cells (.slice ta tn tc)) 30
  have HT0 := Lib.hid hT0; clear hT0
  have HB0 := Lib.hid (allocBelow w (.cells (t0.cells (.slice ta tn tc)) 30))
  obtain ⟨w0, hw0⟩ : ∃ w0, w0 = w.alloc (.cells (t0.cells (.slice ta tn tc)) 30) := ⟨_, rfl⟩
  rw [← hw0] at HT0 HB0
  have hz0 : w0.heap.size = w.heap.size + 1 := by rw [hw0]; simp
  have hz0a : w.heap.size < w0.heap.size := by omega
  clear hz0
  unfold Tk.cells at hw0 ⊢
  go_enter Try.func7, Try.ntmps7
  go_wp2_with fail
  rw [← hw0]
  refine (new_at w0).mono ?_
  rintro e w1 ⟨m, W1, rfl, hm1, hb1, hn1⟩
  have HM1 := Lib.hid hm1; clear hm1
  have HB1 := Lib.hid hb1; clear hb1
  have HN1 := Lib.hid hn1; clear hn1
  clear hw0
  go_wp2_with fail
  refine (known_any w1).mono ?_
  rintro e w2 ⟨rfl, hb2⟩
  have HM2 := Lib.hid (HM1.out.below hb2)
  have HB2 := Lib.hid (HB1.out.trans (hb2.mono HB1.out.size)); clear hb2
  clear HM1 HB1
  go_wp2_with fail
  go_loopw [8] (fun i wr => ∃ k : Nat, k ≤ n ∧ i = .int .i64 (k : Int) ∧ ∃ S W, ModelAt wr m S W ∧ Good S ∧ (∀ x, W x → w0.heap.size ≤ x) ∧ Below w0.heap.size w0 wr) (fun i _ => n - (intOf i).toNat)
  case atStart => exact ⟨0, by omega, rfl, _, W1, HM2.out, Good.start, HN1.out, HB2.out⟩
  case round =>
    obtain ⟨k, hk, rfl, S, W, hm, hg, hW, hb⟩ := hrel
    have HM := Lib.hid hm; clear hm
    have HG := Lib.hid hg; clear hg
    have HW := Lib.hid hW; clear hW
    have HB := Lib.hid hb; clear hb
    clear HM2 HB2 HN1
    by_cases hlt : k < n
    · have hkn : (k : Int) < (n : Int) := by omega
      have hk0 : (0 : Int) ≤ (k : Int) := by omega
      obtain ⟨⟨t, dv, st0, dn0⟩, hy⟩ : ∃ y, l[k]? = some y := ⟨l[k]'(by omega), by simp [show k < l.length by omega]⟩
      obtain ⟨⟨b, o, rfl, hbl, hcells⟩, ⟨hbytes, hf⟩, hdl⟩ := HAT.out k _ hy
      dsimp only at hbytes hf hdl
      obtain ⟨da, dc, rfl, hdc⟩ := hf
      obtain ⟨dn, hdn⟩ : ∃ dn, dn = t.data.length := ⟨_, rfl⟩
      rw [← hdn] at hbytes hdc hcells
      clear hy
      have hBw : Below w.heap.size w wr := HB0.out.trans (HB.out.mono (by omega))
      have hAS : AskS b o k t (.slice da dn dc) st0 dn0 wr := (AskS.of (y := ⟨t, .slice da dn dc, st0, dn0⟩) hcells).below hBw hbl
      have hDO := do_at m S W t (.slice da dn dc) st0 dn0 wr.drew (HM.out.kept (Keeps.refl _ wr).drew) HG.out ((hbytes.later hBw).later (Below.refl _ wr).drew) ⟨da, dc, by rw [hdn], by omega⟩ hdl
      unfold Tk.cells at hDO
      have HDO := Lib.hid hDO; clear hDO hbytes hcells hBw
      have HDN := Lib.hid hdn; clear hdn
      have hkz : (((k : Int))).toNat = k := by omega
      go_upto_region 7 with fail
      refine wp_region_held_drew (S := AskS b o k t (.slice da dn dc) st0 dn0) (by kernel_rfl) hAS.drew (fun hHeld => ?_)
      refine wpAnyH_take (i := 0) (v := (.pointer (some ⟨m, 0, none⟩))) ops_at0 (by kernel_rfl) (by kernel_rfl) (by kernel_rfl) (fun _ _ _ h => h) (Or.inl ⟨by rfl, fun V hV => ?_⟩) hHeld ?_
      · go_simp
      simp only [Act.put, List.setIfInBounds_toArray, List.set_cons_zero, List.set_cons_succ]
      refine wpAnyH_take (i := 1) (v := .slice (some ⟨b, o, none⟩) n c0) ops_at1 (by kernel_rfl) (by kernel_rfl) (by kernel_rfl) (fun _ _ _ h => h) (Or.inl ⟨by rfl, fun V hV => ?_⟩) hHeld ?_
      · go_simp
      simp only [Act.put, List.setIfInBounds_toArray, List.set_cons_zero, List.set_cons_succ]
      refine wpAnyH_take (i := 2) (v := .int .i64 (k : Int)) ops_at2 (by kernel_rfl) (by kernel_rfl) (by kernel_rfl) (fun _ _ _ h => h) (Or.inl ⟨by rfl, fun V hV => ?_⟩) hHeld ?_
      · go_simp
      simp only [Act.put, List.setIfInBounds_toArray, List.set_cons_zero, List.set_cons_succ]
      refine wpAnyH_take (i := 3) (v := (.pointer (some ⟨b, o + k * 13, none⟩))) ops_at3 (by kernel_rfl) (by kernel_rfl) (by kernel_rfl) (fun _ _ _ h => h) (Or.inl ⟨by rfl, fun V hV => ?_⟩) hHeld ?_
      · go_simp
      simp only [Act.put, List.setIfInBounds_toArray, List.set_cons_zero, List.set_cons_succ]
      refine wpAnyH_take (i := 4) (v := (.pointer (some ⟨b, o + k * 13, none⟩))) ops_at4 (by kernel_rfl) (by kernel_rfl) (by kernel_rfl) (fun _ _ _ h => h) (Or.inl ⟨by rfl, fun V hV => ?_⟩) hHeld ?_
      · go_simp
      simp only [Act.put, List.setIfInBounds_toArray, List.set_cons_zero, List.set_cons_succ]
      refine wpAnyH_take (i := 5) (v := .agg #[.int .i64 t.cmd, .int .i64 t.tag, .int .i64 t.op, .bool t.ord, .bool t.fua, .int .i64 t.vol, .int .i64 t.lba, .int .i64 t.cnt, .int .i64 t.siz, .int .i64 t.quo, .slice da dn dc]) ops_at5 (by kernel_rfl) (by kernel_rfl) (by kernel_rfl) (fun _ _ _ h => h) (Or.inl ⟨by rfl, fun V hV => ?_⟩) hHeld ?_
      · have hq := hV.cells
        obtain ⟨q0, q1, q2, q3, q4, q5, q6, q7, q8, q9, q10, q11, q12⟩ := hq
        go_simp
      simp only [Act.put, List.setIfInBounds_toArray, List.set_cons_zero, List.set_cons_succ]
      refine wpAnyH_take (i := 6) (v := .slice (some ⟨b, o, none⟩) n c0) ops_at6 (by kernel_rfl) (by kernel_rfl) (by kernel_rfl) (fun _ _ _ h => h) (Or.inl ⟨by rfl, fun V hV => ?_⟩) hHeld ?_
      · go_simp
      simp only [Act.put, List.setIfInBounds_toArray, List.set_cons_zero, List.set_cons_succ]
      refine wpAnyH_take (i := 7) (v := .int .i64 (k : Int)) ops_at7 (by kernel_rfl) (by kernel_rfl) (by kernel_rfl) (fun _ _ _ h => h) (Or.inl ⟨by rfl, fun V hV => ?_⟩) hHeld ?_
      · go_simp
      simp only [Act.put, List.setIfInBounds_toArray, List.set_cons_zero, List.set_cons_succ]
      refine wpAnyH_take (i := 8) (v := (.pointer (some ⟨b, o + k * 13, none⟩))) ops_at8 (by kernel_rfl) (by kernel_rfl) (by kernel_rfl) (fun _ _ _ h => h) (Or.inl ⟨by rfl, fun V hV => ?_⟩) hHeld ?_
      · go_simp
      simp only [Act.put, List.setIfInBounds_toArray, List.set_cons_zero, List.set_cons_succ]
      refine wpAnyH_take (i := 9) (v := (.pointer (some ⟨b, o + k * 13 + 11, none⟩))) ops_at9 (by kernel_rfl) (by kernel_rfl) (by kernel_rfl) (fun _ _ _ h => h) (Or.inl ⟨by rfl, fun V hV => ?_⟩) hHeld ?_
      · go_simp
      simp only [Act.put, List.setIfInBounds_toArray, List.set_cons_zero, List.set_cons_succ]
      refine wpAnyH_take (i := 10) (v := .int .i64 st0) ops_at10 (by kernel_rfl) (by kernel_rfl) (by kernel_rfl) (fun _ _ _ h => h) (Or.inl ⟨by rfl, fun V hV => ?_⟩) hHeld ?_
      · have hq := hV.cells
        obtain ⟨q0, q1, q2, q3, q4, q5, q6, q7, q8, q9, q10, q11, q12⟩ := hq
        go_simp
      simp only [Act.put, List.setIfInBounds_toArray, List.set_cons_zero, List.set_cons_succ]
      refine wpAnyH_take (i := 11) (v := .slice (some ⟨b, o, none⟩) n c0) ops_at11 (by kernel_rfl) (by kernel_rfl) (by kernel_rfl) (fun _ _ _ h => h) (Or.inl ⟨by rfl, fun V hV => ?_⟩) hHeld ?_
      · go_simp
      simp only [Act.put, List.setIfInBounds_toArray, List.set_cons_zero, List.set_cons_succ]
      refine wpAnyH_take (i := 12) (v := .int .i64 (k : Int)) ops_at12 (by kernel_rfl) (by kernel_rfl) (by kernel_rfl) (fun _ _ _ h => h) (Or.inl ⟨by rfl, fun V hV => ?_⟩) hHeld ?_
      · go_simp
      simp only [Act.put, List.setIfInBounds_toArray, List.set_cons_zero, List.set_cons_succ]
      refine wpAnyH_take (i := 13) (v := (.pointer (some ⟨b, o + k * 13, none⟩))) ops_at13 (by kernel_rfl) (by kernel_rfl) (by kernel_rfl) (fun _ _ _ h => h) (Or.inl ⟨by rfl, fun V hV => ?_⟩) hHeld ?_
      · go_simp
      simp only [Act.put, List.setIfInBounds_toArray, List.set_cons_zero, List.set_cons_succ]
      refine wpAnyH_take (i := 14) (v := (.pointer (some ⟨b, o + k * 13 + 12, none⟩))) ops_at14 (by kernel_rfl) (by kernel_rfl) (by kernel_rfl) (fun _ _ _ h => h) (Or.inl ⟨by rfl, fun V hV => ?_⟩) hHeld ?_
      · go_simp
      simp only [Act.put, List.setIfInBounds_toArray, List.set_cons_zero, List.set_cons_succ]
      refine wpAnyH_take (i := 15) (v := .int .i64 dn0) ops_at15 (by kernel_rfl) (by kernel_rfl) (by kernel_rfl) (fun _ _ _ h => h) (Or.inl ⟨by rfl, fun V hV => ?_⟩) hHeld ?_
      · have hq := hV.cells
        obtain ⟨q0, q1, q2, q3, q4, q5, q6, q7, q8, q9, q10, q11, q12⟩ := hq
        go_simp
      simp only [Act.put, List.setIfInBounds_toArray, List.set_cons_zero, List.set_cons_succ]
      refine wpAnyH_ready (rs := [16]) (by kernel_rfl) (by simp) ?_
      refine AllReadyH.cons ops_at16 (fun K hK => ?_) AllReadyH.nil
      rw [if_pos (by rfl)]
      go_simp
      refine HDO.out.mono ?_
      rintro e w5 ⟨r, W', rfl, _, hm5, hk5, hn5⟩
      have hb5 : Below w0.heap.size wr w5 := ((Keeps.refl (fun _ => False) wr).drew.mono (G := W) (fun _ _ h => h.elim) |>.trans hk5 (fun _ _ h => h)).below HB.out.size (fun x hx h => by have := HW.out x h; omega)
      have HM5 := Lib.hid hm5; clear hm5
      have HW5 := Lib.hid (fun x (hx : W' x) => (hn5 x hx).elim (HW.out x) (fun h => Nat.le_trans HB.out.size h)); clear hn5 hk5
      have HB5 := Lib.hid (HB.out.trans hb5)
      have hAS5 := hAS.below hb5 (by omega)
      clear hb5
      go_wp2_with fail
      refine hK.out _ _ hAS5 (fun hHeld2 => ?_)
      clear hK K
      refine wpAnyH_done (by kernel_rfl) ?_ _
      go_wp2
      go_roundw
      case rel => exact ⟨k + 1, by omega, by simp, _, W', HM5.out, HG.out.doS t st0 dn0, HW5.out, HB5.out⟩
      case measure => simp only [intOf]; omega
    · obtain rfl : k = n := by omega
      have hkk : ¬ (k : Int) < (k : Int) := by omega
      have HCP := Lib.hid (copy_at m S W wr HM.out HG.out)
      go_wp2_with fail
      refine HCP.out.mono ?_
      rintro e w3 ⟨c, Wc, rfl, hc3, hk3, hn3c⟩
      have hm3 := HM.out.kept hk3
      have hb3 : Below w0.heap.size w0 w3 := HB.out.trans (hk3.below HB.out.size (fun _ _ h => h))
      have hap : ∀ x, Wc x → ¬ W x := fun x hx h => by have := HM.out.lt x h; have := hn3c x hx; omega
      have hWc : ∀ x, Wc x → w0.heap.size ≤ x := fun x hx => Nat.le_trans HB.out.size (hn3c x hx)
      have hDO := do_at m S W t0 (.slice ta tn tc) 20 done0 w3 hm3 HG.out (HTB.out.later (HB0.out.trans (hb3.mono (by omega)))) ⟨ta, tc, by rw [HTN.out], by rw [← HTN.out]; exact htc⟩ htl
      unfold Tk.cells at hDO
      have HDO := Lib.hid hDO; clear hDO
      have hT3 := (HT0.out.later (hb3.mono (Nat.le_refl _)))
      have HT3 := Lib.hid hT3; clear hT3
      have HM3 := Lib.hid hm3; clear hm3
      have HC3 := Lib.hid hc3; clear hc3
      have HB3 := Lib.hid hb3; clear hb3
      have HAP := Lib.hid hap; clear hap
      have HWc := Lib.hid hWc; clear hWc
      clear hk3 hn3c
      have cT := fun j => HT3.out.cell j
      unfold Tk.cells at cT
      obtain ⟨⟨⟨qc, qt, sA, kA, dA⟩, SA⟩, hq⟩ : ∃ q, q = doS S t0 20 done0 := ⟨_, rfl⟩
      rw [← hq] at HDO
      dsimp only [replyCells] at HDO
      have HQ := Lib.hid hq; clear hq
      go_wp2_with fail
      refine HDO.out.mono ?_
      rintro e w4 ⟨rA, WA, rfl, hoA, hmA, hkA, hnA⟩
      obtain ⟨aA, cA, rfl, _⟩ := hoA.bytes.form
      obtain ⟨nA, hnA2⟩ : ∃ nA, nA = dA.length := ⟨_, rfl⟩
      rw [← hnA2]
      have HNA := Lib.hid hnA2; clear hnA2 hoA
      obtain ⟨w5, hw5⟩ : ∃ w5, w5 = w4.alloc (.cells #[.int .i64 t0.cmd, .int .i64 t0.tag, .int .i64 sA, .int .i64 kA, .slice aA nA cA] 35) := ⟨_, rfl⟩
      have hk45 : Keeps (fun _ => False) w4 w5 := by rw [hw5]; exact (Keeps.refl _ w4).alloc _
      have hA5 : CellsAt w5 w4.heap.size #[.int .i64 t0.cmd, .int .i64 t0.tag, .int .i64 sA, .int .i64 kA, .slice aA nA cA] 35 := by rw [hw5]; exact heap_at rfl
      have hc5 : ModelAt w5 c S Wc := (ModelAt.beside HM3.out HC3.out hkA HAP.out).kept hk45
      have hm5 : ModelAt w5 m SA WA := hmA.kept hk45
      have hb4 : Below w0.heap.size w3 w4 := hkA.below HB3.out.size (fun x hx h => by have := HW.out x h; omega)
      have hb5 : Below w0.heap.size w0 w5 := (HB3.out.trans hb4).trans (hk45.below (HB3.out.trans hb4).size (fun _ _ h => h))
      have hz5 : w0.heap.size ≤ w4.heap.size := (HB3.out.trans hb4).size
      have HA5 := Lib.hid hA5; clear hA5
      have HC5 := Lib.hid hc5; clear hc5
      have HM5 := Lib.hid hm5; clear hm5 hmA
      have HB5 := Lib.hid hb5; clear hb5 hb4 hk45 hkA hnA
      have HT5 := Lib.hid (HT0.out.later (HB5.out.mono (Nat.le_refl _)))
      clear HT3 HC3 HM3 HB3 HDO cT HAT HM HW HB
      obtain ⟨oth, hoth⟩ : ∃ oth, oth = decide (t0.op ≠ 3 ∧ t0.op ≠ 5 ∧ t0.op ≠ 1 ∧ t0.op ≠ 10) := ⟨_, rfl⟩
      have HOTH := Lib.hid hoth; clear hoth
      go_upto_region 12 with fail
      rw [← hw5]
      clear hw5
      have a2 := HT5.out.cell 2
      unfold Tk.cells at a2
      simp only [List.getElem?_toArray, List.getElem?_cons_zero, List.getElem?_cons_succ] at a2
      go_cut [69] from 52 to 69 (fun v wx => v = .bool oth ∧ w5 = wx)
      case first =>
        by_cases o3 : t0.op = 3
        · have hl : oth = false := by rw [HOTH.out]; simp [o3]
          have b3 : (t0.op != 3) = false := by simp [o3]
          have HL := Lib.hid hl; clear hl o3
          go_wp2_with fail
          go_meet
          exact ⟨by rw [HL.out], rfl⟩
        · have b3 : (t0.op != 3) = true := by simp [o3]
          by_cases o5 : t0.op = 5
          · have hl : oth = false := by rw [HOTH.out]; simp [o5]
            have b5 : (t0.op != 5) = false := by simp [o5]
            have HL := Lib.hid hl; clear hl o3 o5
            go_wp2_with fail
            go_meet
            exact ⟨by rw [HL.out], rfl⟩
          · have b5 : (t0.op != 5) = true := by simp [o5]
            by_cases o1 : t0.op = 1
            · have hl : oth = false := by rw [HOTH.out]; simp [o1]
              have b1 : (t0.op != 1) = false := by simp [o1]
              have HL := Lib.hid hl; clear hl o3 o5 o1
              go_wp2_with fail
              go_meet
              exact ⟨by rw [HL.out], rfl⟩
            · have b1 : (t0.op != 1) = true := by simp [o1]
              by_cases o10 : t0.op = 10
              · have hl : oth = false := by rw [HOTH.out]; simp [o10]
                have b10 : (t0.op != 10) = false := by simp [o10]
                have HL := Lib.hid hl; clear hl o3 o5 o1 o10
                go_wp2_with fail
                go_meet
                exact ⟨by rw [HL.out], rfl⟩
              · have hl : oth = true := by rw [HOTH.out]; simp [o3, o5, o1, o10]
                have b10 : (t0.op != 10) = true := by simp [o10]
                have HL := Lib.hid hl; clear hl o3 o5 o1 o10
                go_wp2_with fail
                go_meet
                exact ⟨by rw [HL.out], rfl⟩
      obtain ⟨rfl, rfl⟩ := hcut
      go_upto_if 69 with fail
      go_cut [] from 70 to 91 (fun wx => ModelAt wx c S Wc ∧ Below w5.heap.size w5 wx)
      case first =>
        cases oth with
        | false =>
          go_wp2_with fail
          go_meet
          exact ⟨HC5.out, Below.refl _ _⟩
        | true =>
          have hop := HOTH.out
          obtain ⟨o3, o5, o1, o10⟩ : t0.op ≠ 3 ∧ t0.op ≠ 5 ∧ t0.op ≠ 1 ∧ t0.op ≠ 10 := of_decide_eq_true hop.symm
          obtain ⟨x1, x2, x3, x4⟩ := tr_other S t0 done0 o3 o5 o1 o10
          rw [← HQ.out] at x1 x2 x3 x4
          dsimp only at x1 x2 x3 x4
          have bs : (sA == 0) = false := by simp [x1]
          have bk : (kA != 0) = false := by simp [x2]
          have bn : ((nA : Int) != 0) = false := by rw [HNA.out, x3]; rfl
          have hGS : Good SA := by rw [x4]; exact HG.out
          have r2 := HA5.out.cell 2
          have r3 := HA5.out.cell 3
          have r4 := HA5.out.cell 4
          simp only [List.getElem?_toArray, List.getElem?_cons_zero, List.getElem?_cons_succ] at r2 r3 r4
          have HVM := Lib.hid (volumes_at m SA WA w5 HM5.out hGS)
          have HX4 := Lib.hid x4
          clear hop o3 o5 o1 o10 x1 x2 x3 x4 hGS
          go_wp2_with fail
          refine HVM.out.mono ?_
          rintro e w6 ⟨r6, rfl, hr6, hk6⟩
          rw [HX4.out] at hr6
          have hc6 := HC5.out.kept hk6
          have HV6 := Lib.hid hr6; clear hr6
          have HK6 := Lib.hid hk6; clear hk6
          have HVC := Lib.hid (volumes_at c S Wc w6 hc6 HG.out)
          have HC6 := Lib.hid hc6; clear hc6
          obtain ⟨a6, n6, c6, rfl⟩ : ∃ a n c, r6 = .slice a n c := by
            rcases HV6.out.2 with ⟨e, _⟩ | ⟨g, cap, cur, e, _⟩ <;> exact ⟨_, _, _, e⟩
          go_wp2_with fail
          refine HVC.out.mono ?_
          rintro e w7 ⟨r7, rfl, hr7, hk7⟩
          obtain ⟨a7, n7, c7, rfl⟩ : ∃ a n c, r7 = .slice a n c := by
            rcases hr7.2 with ⟨e, _⟩ | ⟨g, cap, cur, e, _⟩ <;> exact ⟨_, _, _, e⟩
          have HEQ := Lib.hid (eqvols_any _ _ _ _ S.vols S.vols.length w7 (hk7.owns HV6.out (fun _ _ h => h)) hr7 (Nat.le_refl _) (Nat.le_refl _) HG.out.len)
          have HC7 := Lib.hid (HC6.out.kept hk7)
          have HK7 := Lib.hid (HK6.out.trans hk7 (fun _ _ h => h)); clear hk7 hr7
          go_wp2_with fail
          refine HEQ.out.mono ?_
          rintro e w8 ⟨rfl, hb8⟩
          have HC8 := Lib.hid (HC7.out.below hb8)
          have HB8 := Lib.hid ((HK7.out.below (B := w5.heap.size) (Nat.le_refl _) (fun _ _ h => h)).trans (hb8.mono HK7.out.size)); clear hb8
          go_wp2_with fail
          go_meet
          exact ⟨HC8.out, HB8.out⟩
      obtain ⟨hcc, hbc⟩ := hcut
      have HCC := Lib.hid hcc; clear hcc
      have hA6 := HA5.out.below hbc HA5.out.lt
      have hT6 := HT5.out.below hbc HT5.out.lt
      have hb6 : Below w0.heap.size w0 wc := HB5.out.trans (hbc.mono HB5.out.size)
      have HA6 := Lib.hid hA6; clear hA6
      have HT6 := Lib.hid hT6; clear hT6
      have HB6 := Lib.hid hb6; clear hb6 hbc a2
      clear HA5 HT5 HB5 HC5 HM5
      go_upto_region 15 with fail
      go_cut [114] from 92 to 114 (fun v wx => v = .bool false ∧ wc = wx)
      case first =>
        have a2 := HT6.out.cell 2
        have a7 := HT6.out.cell 7
        have r2 := HA6.out.cell 2
        have r3 := HA6.out.cell 3
        unfold Tk.cells at a2 a7
        simp only [List.getElem?_toArray, List.getElem?_cons_zero, List.getElem?_cons_succ] at a2 a7 r2 r3
        by_cases h35 : t0.op = 3 ∨ t0.op = 5
        · have hcs : ((t0.op == 3) = true) ∨ ((t0.op == 3) = false ∧ (t0.op == 5) = true) := by
            by_cases o3 : t0.op = 3
            · exact .inl (by simp [o3])
            · exact .inr ⟨by simp [o3], by rcases h35 with e | e; exact absurd e o3; simp [e]⟩
          have H35 := Lib.hid h35; clear h35
          by_cases hs : sA = 20
          · have hkv : kA = min (max done0 0) t0.cnt := by
              have := tr_blocks S t0 done0 H35.out (by rw [← HQ.out]; exact hs)
              rw [← HQ.out] at this; exact this
            have bs : (sA == 20) = true := by simp [hs]
            have HS := Lib.hid hs; clear hs
            rcases hcs with b3 | ⟨b3, b5⟩
            all_goals
              by_cases d0 : done0 < 0
              · by_cases d1 : t0.cnt < 0
                · have bk : (kA != t0.cnt) = false := by rw [hkv]; simp; omega
                  clear hkv
                  go_wp2_with fail
                  go_meet
                  exact ⟨rfl, rfl⟩
                · have bk : (kA != 0) = false := by rw [hkv]; simp; omega
                  clear hkv
                  go_wp2_with fail
                  go_meet
                  exact ⟨rfl, rfl⟩
              · by_cases d1 : t0.cnt < done0
                · have bk : (kA != t0.cnt) = false := by rw [hkv]; simp; omega
                  clear hkv
                  go_wp2_with fail
                  go_meet
                  exact ⟨rfl, rfl⟩
                · have bk : (kA != done0) = false := by rw [hkv]; simp; omega
                  clear hkv
                  go_wp2_with fail
                  go_meet
                  exact ⟨rfl, rfl⟩
          · have bs : (sA == 20) = false := by simp [hs]
            rcases hcs with b3 | ⟨b3, b5⟩
            all_goals
              go_wp2_with fail
              go_meet
              exact ⟨rfl, rfl⟩
        · have b3 : (t0.op == 3) = false := by simp; exact fun e => h35 (.inl e)
          have b5 : (t0.op == 5) = false := by simp; exact fun e => h35 (.inr e)
          clear h35
          go_wp2_with fail
          go_meet
          exact ⟨rfl, rfl⟩
      obtain ⟨rfl, rfl⟩ := hcut
      have HCP2 := Lib.hid (copy_at c S Wc wc HCC.out HG.out)
      have HTR := Lib.hid (tr_flush S t0 done0)
      go_wp2_with fail
      refine HCP2.out.mono ?_
      rintro e w6 ⟨d, Wd, rfl, hd6, hk6, hn6⟩
      have hc6 := HCC.out.kept hk6
      have hb6 : Below w0.heap.size w0 w6 := HB6.out.trans (hk6.below HB6.out.size (fun _ _ h => h))
      have hapd : ∀ x, Wd x → ¬ Wc x := fun x hx h => by have := HCC.out.lt x h; have := hn6 x hx; omega
      have hWd : ∀ x, Wd x → w0.heap.size ≤ x := fun x hx => Nat.le_trans HB6.out.size (hn6 x hx)
      have hT7 := HT6.out.keeps hk6 (fun h => h)
      have hDX := do_at c S Wc t0 (.slice ta tn tc) 12 done0 w6 hc6 HG.out (HTB.out.later (HB0.out.trans (hb6.mono (by omega)))) ⟨ta, tc, by rw [HTN.out], by rw [← HTN.out]; exact htc⟩ htl
      obtain ⟨⟨⟨xc, xt, sX, kX, dX⟩, SX⟩, hqx⟩ : ∃ q, q = doS S t0 12 done0 := ⟨_, rfl⟩
      obtain ⟨⟨⟨yc, yt, sY, kY, dY⟩, SY⟩, hqy⟩ : ∃ q, q = doS S t0 0 0 := ⟨_, rfl⟩
      rw [← hqx] at hDX
      dsimp only [replyCells] at hDX
      have htr := HTR.out
      rw [← hqx, ← hqy] at htr
      dsimp only at htr
      have HTR2 := Lib.hid htr; clear htr
      have HGX := Lib.hid (show Good SX by have := HG.out.doS t0 12 done0; rw [← hqx] at this; exact this)
      have HQY := Lib.hid hqy; clear hqy hqx
      unfold Tk.cells at hDX
      have HDX := Lib.hid hDX; clear hDX
      have HC6 := Lib.hid hc6; clear hc6
      have HD6 := Lib.hid hd6; clear hd6
      have HB7 := Lib.hid hb6; clear hb6
      have HAPD := Lib.hid hapd; clear hapd
      have HWd := Lib.hid hWd; clear hWd hn6 hk6
      have HT7 := Lib.hid hT7; clear hT7
      have cT := fun j => HT7.out.cell j
      unfold Tk.cells at cT
      go_wp2_with fail
      refine HDX.out.mono ?_
      rintro e w7 ⟨rX, WX, rfl, hoX, hmX, hkX, hnX⟩
      obtain ⟨aX, nX, cX, rfl⟩ : ∃ a n c, rX = .slice a n c := by obtain ⟨a, c, e, _⟩ := hoX.bytes.form; exact ⟨_, _, _, e⟩
      clear hoX
      obtain ⟨w8, hw8⟩ : ∃ w8, w8 = w7.alloc (.cells #[.int .i64 t0.cmd, .int .i64 t0.tag, .int .i64 sX, .int .i64 kX, .slice aX nX cX] 35) := ⟨_, rfl⟩
      have hk78 : Keeps (fun _ => False) w7 w8 := by rw [hw8]; exact (Keeps.refl _ w7).alloc _
      have hX8 : CellsAt w8 w7.heap.size #[.int .i64 t0.cmd, .int .i64 t0.tag, .int .i64 sX, .int .i64 kX, .slice aX nX cX] 35 := by rw [hw8]; exact heap_at rfl
      have hd8 : ModelAt w8 d S Wd := (ModelAt.beside HC6.out HD6.out hkX HAPD.out).kept hk78
      have hc8 : ModelAt w8 c SX WX := hmX.kept hk78
      have hb8 : Below w0.heap.size w0 w8 := (HB7.out.trans (hkX.below HB7.out.size (fun x hx h => by have := HWc.out x h; omega))).trans (hk78.below (HB7.out.trans (hkX.below HB7.out.size (fun x hx h => by have := HWc.out x h; omega))).size (fun _ _ h => h))
      have hT8 : CellsAt w8 w.heap.size (t0.cells (.slice ta tn tc)) 30 := (HT7.out.keeps hkX (fun h => by have := HWc.out _ h; omega)).keeps hk78 (fun h => h)
      have hap8 : ∀ x, WX x → ¬ Wd x ∧ w0.heap.size ≤ x := fun x hx => by
        rcases hnX x hx with h | h
        · exact ⟨fun h2 => HAPD.out x h2 h, HWc.out x h⟩
        · exact ⟨fun h2 => by have := HD6.out.lt x h2; omega, Nat.le_trans HB7.out.size h⟩
      have hXn : ¬ Wd w7.heap.size := fun h => by have h1 := HD6.out.lt _ h; have h2 := hkX.size; omega
      have hDY := do_at d S Wd t0 (.slice ta tn tc) 0 0 w8 hd8 HG.out (HTB.out.later (HB0.out.trans (hb8.mono (by omega)))) ⟨ta, tc, by rw [HTN.out], by rw [← HTN.out]; exact htc⟩ htl
      rw [← HQY.out] at hDY
      dsimp only [replyCells] at hDY
      unfold Tk.cells at hDY
      have HDY := Lib.hid hDY; clear hDY
      have HX8 := Lib.hid hX8; clear hX8
      have HD8 := Lib.hid hd8; clear hd8
      have HC8 := Lib.hid hc8; clear hc8 hmX
      have HB8 := Lib.hid hb8; clear hb8
      have HT8 := Lib.hid hT8; clear hT8
      have HAP8 := Lib.hid hap8; clear hap8 hnX hkX hk78
      clear cT
      have cT := fun j => HT8.out.cell j
      unfold Tk.cells at cT
      go_upto_region 19 with fail
      rw [← hw8]
      clear hw8
      go_wp2_with fail
      refine HDY.out.mono ?_
      rintro e w9 ⟨rY, WY, rfl, hoY, hmY, hkY, hnY⟩
      obtain ⟨aY, nY, cY, rfl⟩ : ∃ a n c, rY = .slice a n c := by obtain ⟨a, c, e, _⟩ := hoY.bytes.form; exact ⟨_, _, _, e⟩
      clear hoY
      obtain ⟨wA, hwA⟩ : ∃ wA, wA = w9.alloc (.cells #[.int .i64 t0.cmd, .int .i64 t0.tag, .int .i64 sY, .int .i64 kY, .slice aY nY cY] 35) := ⟨_, rfl⟩
      have hk9A : Keeps (fun _ => False) w9 wA := by rw [hwA]; exact (Keeps.refl _ w9).alloc _
      have hYA : CellsAt wA w9.heap.size #[.int .i64 t0.cmd, .int .i64 t0.tag, .int .i64 sY, .int .i64 kY, .slice aY nY cY] 35 := by rw [hwA]; exact heap_at rfl
      have hXA : CellsAt wA w7.heap.size #[.int .i64 t0.cmd, .int .i64 t0.tag, .int .i64 sX, .int .i64 kX, .slice aX nX cX] 35 := (HX8.out.keeps hkY hXn).keeps hk9A (fun h => h)
      have hcA : ModelAt wA c SX WX := (ModelAt.beside HD8.out HC8.out hkY (fun x hx => (HAP8.out x hx).1)).kept hk9A
      have hdA : ModelAt wA d SY WY := hmY.kept hk9A
      have hb9 : Below w0.heap.size w0 w9 := HB8.out.trans (hkY.below HB8.out.size (fun x hx h => by have := HWd.out x h; omega))
      have hbA : Below w0.heap.size w0 wA := hb9.trans (hk9A.below hb9.size (fun _ _ h => h))
      obtain ⟨t1, t2, t3⟩ := HTR2.out
      have hGY : Good SY := by rw [← t1]; exact HGX.out
      have HVX := Lib.hid (volumes_at c SX WX wA hcA HGX.out)
      have HT1 := Lib.hid t1
      have bk : (kX == kY) = true := by simp [t2]
      have x2 := hXA.cell 2
      have x3 := hXA.cell 3
      have y2 := hYA.cell 2
      have y3 := hYA.cell 3
      simp only [List.getElem?_toArray, List.getElem?_cons_zero, List.getElem?_cons_succ] at x2 x3 y2 y3
      have HXA := Lib.hid hXA; clear hXA
      have HYA := Lib.hid hYA; clear hYA
      have HDA := Lib.hid hdA; clear hdA hmY
      have HBA := Lib.hid hbA; clear hbA hb9 hcA
      have HGY := Lib.hid hGY; clear hGY
      have ht3 : (sY == 0) = true ∨ ((sY == 0) = false ∧ (sX == sY) = true) := by
        by_cases h : sY = 0
        · exact .inl (by simp [h])
        · exact .inr ⟨by simp [h], by rcases t3 with e | e; exact absurd e h; simp [e]⟩
      clear t1 t2 t3 hkY hnY hk9A
      clear cT
      go_upto_region 20 with fail
      rw [← hwA]
      clear hwA
      go_wp2_with fail
      refine HVX.out.mono ?_
      rintro e wB ⟨rB, rfl, hrB, hkB⟩
      obtain ⟨aB, nB, cB, rfl⟩ : ∃ a n c, rB = .slice a n c := by
        rcases hrB.2 with ⟨e, _⟩ | ⟨g, cap, cur, e, _⟩ <;> exact ⟨_, _, _, e⟩
      have HVY := Lib.hid (volumes_at d SY WY wB (HDA.out.kept hkB) HGY.out)
      rw [← HT1.out] at HVY
      have HRB := Lib.hid hrB; clear hrB
      have HKB := Lib.hid hkB; clear hkB
      go_wp2_with fail
      refine HVY.out.mono ?_
      rintro e wD ⟨rD, rfl, hrD, hkD⟩
      obtain ⟨aD, nD, cD, rfl⟩ : ∃ a n c, rD = .slice a n c := by
        rcases hrD.2 with ⟨e, _⟩ | ⟨g, cap, cur, e, _⟩ <;> exact ⟨_, _, _, e⟩
      have HEQ := Lib.hid (eqvols_any _ _ _ _ SX.vols SX.vols.length wD (hkD.owns HRB.out (fun _ _ h => h)) hrD (Nat.le_refl _) (Nat.le_refl _) HGX.out.len)
      have HKD := Lib.hid (HKB.out.trans hkD (fun _ _ h => h)); clear hkD hrD
      clear x2 x3 y2 y3
      go_wp2_with fail
      refine HEQ.out.mono ?_
      rintro e wE ⟨rfl, hbE⟩
      have hbE2 : Below wA.heap.size wA wE := (HKD.out.below (B := wA.heap.size) (Nat.le_refl _) (fun _ _ h => h)).trans (hbE.mono HKD.out.size)
      have hXE := HXA.out.below hbE2 HXA.out.lt
      have hYE := HYA.out.below hbE2 HYA.out.lt
      have x2 := hXE.cell 2
      have x3 := hXE.cell 3
      have y2 := hYE.cell 2
      have y3 := hYE.cell 3
      simp only [List.getElem?_toArray, List.getElem?_cons_zero, List.getElem?_cons_succ] at x2 x3 y2 y3
      have HBE := Lib.hid (HB0.out.trans ((HBA.out.trans (hbE2.mono HBA.out.size)).mono (by omega))); clear hbE hbE2 hXE hYE
      rcases ht3 with b1 | ⟨b1, b2⟩
      all_goals
        go_wp2_with fail
        go_ret
        exact ⟨rfl, HBE.out⟩
end Go.Proofs.Ytmanldcohbegkaa
