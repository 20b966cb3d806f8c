/-
  The model: blockwise. (Written by gen_mdblock.py.)
-/
import Derived.Test.YtmanldcohbegkaaMdSpec
namespace Go.Proofs.Ytmanldcohbegkaa
open Go.RowKit
set_option linter.unusedVariables false
set_option linter.unusedSimpArgs false

theorem VolAt.drew [Zs] {w : World} {p b : Nat} {v : Vo} (h : VolAt w p b v) : VolAt w.drew p b v := h.keeps (F := fun _ => False) (Keeps.refl _ w).drew (fun h => h) (fun h => h) (fun _ _ _ h => h)
theorem BytesAt.drew {w : World} {v : Value} {l : List Nat} (h : BytesAt w v l) : BytesAt w.drew v l := h.later (Below.refl _ w).drew
theorem pieces_take (data : List Nat) (n : Nat) : pieces (data.take (n * 64)) n = pieces data n := by
  apply List.ext_getElem
  · simp [pieces]
  · intro i h1 h2
    simp [pieces, piece] at h1 ⊢
    rw [List.drop_take, List.take_take]
    congr 1
    omega
theorem writeS_take (v : Vo) (a : Int) (data : List Nat) (n : Nat) : writeS v a (data.take (n * 64)) n = writeS v a data n := by unfold writeS; rw [pieces_take]
theorem VolAt.drop [Zs] {w w' : World} {p b : Nat} {v : Vo} (h : VolAt w p b v) {es : List (Int × (Value × List Nat))} (hbe : v.bl = es.map fun e => (e.1, e.2.2)) (hda : ∀ e ∈ es, DataAt w e.2.1 e.2.2) (k : Int) (hm : MapIs w' b (dropAt k (es.map fun e => (e.1, e.2.1)))) (hk : Keeps (fun x => x = b) w w') : VolAt w' p b { v with bl := dropAt k v.bl } := by
  have hpb : p ≠ b := by rintro rfl; exact h.map.notCells _ _ _ h.str
  refine ⟨h.str.keeps hk hpb, dropAt k es, ?_, ?_, ?_⟩
  · rw [← dropAt_map (fun e : Value × List Nat => e.1)]; exact hm
  · dsimp only; rw [hbe]; exact dropAt_map (fun e : Value × List Nat => e.2) _ _
  · intro e he
    refine (hda e (mem_dropAt _ _ _ he)).keeps hk ?_
    rintro g cur hc rfl
    exact h.map.notCells _ _ _ hc

set_option maxRecDepth 100000 in
set_option maxHeartbeats 6400000 in
theorem block_write [Zs] (m : Nat) (rv : Value) (ps : List (Nat × Nat)) (S : Mo) (t : Tk) (dv : Value) (i p b : Nat) (v : Vo) (n : Nat) (w : World) (h : ModelIs w m rv ps S) (hlen : ps.length ≤ 8) (hf : S.find t.vol = some i) (hp : ps[i]? = some (p, b)) (hv : S.vols[i]? = some v) (hn : n ≤ 8) (hl0 : 0 ≤ t.lba) (hl1 : t.lba ≤ 1048576) (hop : t.op = 3) (hd : BytesAt w dv t.data) (hn1 : n * 64 ≤ t.data.length) (hn2 : 0 < t.data.length) (hn3 : t.data.length ≤ 512) (hcp : ∀ a L c, dv = .slice a L c → L ≤ c) (hz : ∀ x, Zs.z x → x < w.heap.size) :
    Calls Try.prog 24 #[.pointer (some ⟨m, 0, none⟩), .agg (t.cells dv), .int .i64 (n : Int)] w fun e w' => ∃ bl k s, writeS v t.lba t.data n = (bl, k, s) ∧ e = .returned (.tuple #[.int .i64 (k : Int), .int .i64 s]) ∧ VolAt w' p b { v with bl := bl } ∧ Keeps (fun x => x = b) w w' := by
  have HZ := Lib.hid hz; clear hz
  rcases hd with ⟨e, _⟩ | ⟨g, off, cap, rfl, hdc⟩
  · rw [e] at hn2; simp at hn2
  have hcap := hcp _ _ _ rfl
  obtain ⟨L, hL⟩ : ∃ L, L = t.data.length := ⟨_, rfl⟩
  rw [← hL] at hn1 hn2 hn3 hcap
  have hL1 : L ≤ t.data.length := by omega
  have hL2 : t.data.length ≤ L := by omega
  have hd : BytesAt w (.slice (some ⟨g, off, none⟩) L cap) t.data := .inr ⟨g, off, cap, by rw [hL], hdc⟩
  rw [← hL]
  clear hL
  have hd2 : BytesAt w (.slice (some ⟨g, off, none⟩) (n * 64) cap) (t.data.take (n * 64)) := by
    have := hd.part 0 (n * 64) cap (Nat.zero_le _) hn1
    simpa using this
  have hb1 : Below w.heap.size w (w.alloc (.cells (t.cells (.slice (some ⟨g, off, none⟩) L cap)) 30)) := allocBelow w _
  have HF := Lib.hid (find_any m rv ps S t.vol _ (h.below hb1) hlen)
  have hvp : VolAt w p b v := h.vol i _ _ hp hv
  have hpl := hvp.str.lt
  have hbl := hvp.map.lt
  have HVW := Lib.hid hvp; clear hvp
  have HDW := Lib.hid hd2; clear hd2 hd hdc
  have c0 := fun j => (CellsAt.new w (t.cells (.slice (some ⟨g, off, none⟩) L cap)) 30).cell j
  have HC0 := Lib.hid c0
  have hptr : ptrOf ps (S.find t.vol) = some ⟨p, 0, none⟩ := by rw [hf]; simp [ptrOf, hp]
  rw [hptr] at HF
  have hs1 : (0 : Int) ≤ (n : Int) * 64 ∧ (n : Int) * 64 ≤ (cap : Int) := by omega
  have hs3 : ((n : Int) * 64).toNat = n * 64 := by omega
  have hw64 : IntKind.i64.wrap ((n : Int) * 64) = (n : Int) * 64 := IntWalk.i64_in _ (by omega)
  clear h
  unfold Tk.cells at c0 HC0 HF ⊢
  rw [hop] at c0 HC0 HF ⊢
  go_enter Try.func24, Try.ntmps24
  go_wp2_with fail
  refine HF.out.mono ?_
  rintro e w1 ⟨rfl, hb2⟩
  have hB1 : Keeps (fun x => x = b) w w1 := ((Keeps.refl _ w).alloc _).trans (Keeps.of_below hb2) (fun _ _ h => h)
  have hz1 : w.heap.size + 1 ≤ w1.heap.size := by have := hb2.size; simpa using this
  have c1 := fun j => (hb2.cell (p := ⟨w.heap.size, j, none⟩) (by simp)).trans (HC0.out j)
  have HV := Lib.hid (HVW.out.keeps (F := fun _ => False) (((Keeps.refl _ w).alloc _).trans (Keeps.of_below hb2) (fun _ _ h => h)) (fun h => h) (fun h => h) (fun _ _ _ h => h))
  have HD := Lib.hid ((HDW.out.later (allocBelow w _)).later hb2)
  have HB1 := Lib.hid hB1; clear hB1 hb2
  have c2 := c1 2
  have c6 := c1 6
  have c10 := c1 10
  simp only [List.getElem?_toArray, List.getElem?_cons_zero, List.getElem?_cons_succ] at c2 c6 c10
  clear c0 c1
  go_wp2_with fail
  refine wp_region_held_drew (S := fun V => V.cell? ⟨w.heap.size, 6, none⟩ = some (.int .i64 t.lba) ∧ V.cell? ⟨w.heap.size, 10, none⟩ = some (.slice (some ⟨g, off, none⟩) L cap)) (by kernel_rfl) ⟨c6, c10⟩ (fun hHeld => ?_)
  refine wpAnyH_take (i := 0) (v := (.pointer (some ⟨p, 0, none⟩))) ops_at0 (by kernel_rfl) (by kernel_rfl) (by kernel_rfl) (fun _ _ _ h => h) (Or.inl ⟨by rfl, fun V hV => ?_⟩) hHeld ?_
  · go_simp
  simp only [Act.put, List.setIfInBounds_toArray, List.set_cons_zero, List.set_cons_succ]
  refine wpAnyH_take (i := 1) (v := .pointer (some ⟨w.heap.size, 6, none⟩)) ops_at1 (by kernel_rfl) (by kernel_rfl) (by kernel_rfl) (fun _ _ _ h => h) (Or.inl ⟨by rfl, fun V hV => ?_⟩) hHeld ?_
  · go_simp
  simp only [Act.put, List.setIfInBounds_toArray, List.set_cons_zero, List.set_cons_succ]
  refine wpAnyH_take (i := 2) (v := .int .i64 t.lba) ops_at2 (by kernel_rfl) (by kernel_rfl) (by kernel_rfl) (fun _ _ _ h => h) (Or.inl ⟨by rfl, fun V hV => ?_⟩) hHeld ?_
  · obtain ⟨q6, q10⟩ := hV
    go_simp
  simp only [Act.put, List.setIfInBounds_toArray, List.set_cons_zero, List.set_cons_succ]
  refine wpAnyH_take (i := 3) (v := .pointer (some ⟨w.heap.size, 10, none⟩)) ops_at3 (by kernel_rfl) (by kernel_rfl) (by kernel_rfl) (fun _ _ _ h => h) (Or.inl ⟨by rfl, fun V hV => ?_⟩) hHeld ?_
  · go_simp
  simp only [Act.put, List.setIfInBounds_toArray, List.set_cons_zero, List.set_cons_succ]
  refine wpAnyH_take (i := 4) (v := .slice (some ⟨g, off, none⟩) L cap) ops_at4 (by kernel_rfl) (by kernel_rfl) (by kernel_rfl) (fun _ _ _ h => h) (Or.inl ⟨by rfl, fun V hV => ?_⟩) hHeld ?_
  · obtain ⟨q6, q10⟩ := hV
    go_simp
  simp only [Act.put, List.setIfInBounds_toArray, List.set_cons_zero, List.set_cons_succ]
  refine wpAnyH_take (i := 5) (v := .int .i64 (n : Int)) ops_at5 (by kernel_rfl) (by kernel_rfl) (by kernel_rfl) (fun _ _ _ h => h) (Or.inl ⟨by rfl, fun V hV => ?_⟩) hHeld ?_
  · go_simp
  simp only [Act.put, List.setIfInBounds_toArray, List.set_cons_zero, List.set_cons_succ]
  refine wpAnyH_take (i := 6) (v := .int .i64 ((n : Int) * 64)) ops_at6 (by kernel_rfl) (by kernel_rfl) (by kernel_rfl) (fun _ _ _ h => h) (Or.inl ⟨by rfl, fun V hV => ?_⟩) hHeld ?_
  · go_simp
  simp only [Act.put, List.setIfInBounds_toArray, List.set_cons_zero, List.set_cons_succ]
  refine wpAnyH_take (i := 7) (v := .slice (some ⟨g, off, none⟩) (n * 64) cap) ops_at7 (by kernel_rfl) (by kernel_rfl) (by kernel_rfl) (fun _ _ _ h => h) (Or.inl ⟨by rfl, fun V hV => ?_⟩) hHeld ?_
  · go_simp
  simp only [Act.put, List.setIfInBounds_toArray, List.set_cons_zero, List.set_cons_succ]
  refine wpAnyH_ready (rs := [8]) (by kernel_rfl) (by simp) ?_
  refine AllReadyH.cons ops_at8 (fun K hK => ?_) AllReadyH.nil
  rw [if_pos (by rfl)]
  go_simp
  refine (write_any p b v t.lba g off cap n (t.data.take (n * 64)) w1.drew HV.out.drew HD.out.drew (by omega) hn hl0 hl1 (fun x hx => by have := HZ.out x hx; show x < w1.heap.size; omega)).mono ?_
  rintro e w2 ⟨bl, k, s, hwr, rfl, hvol, hkp⟩
  go_wp2_with fail
  have HR := Lib.hid hwr; clear hwr
  have HVol := Lib.hid hvol; clear hvol
  have HKp := Lib.hid ((Keeps.refl (fun x => x = b) w1).drew.trans hkp (fun _ _ h => h)); clear hkp
  have d6 : w2.cell? ⟨w.heap.size, 6, none⟩ = some (.int .i64 t.lba) := (HKp.out.cell (p := ⟨w.heap.size, 6, none⟩) (by show w.heap.size < _; omega) (by show ¬ w.heap.size = b; omega)).trans c6
  have d10 : w2.cell? ⟨w.heap.size, 10, none⟩ = some (.slice (some ⟨g, off, none⟩) L cap) := (HKp.out.cell (p := ⟨w.heap.size, 10, none⟩) (by show w.heap.size < _; omega) (by show ¬ w.heap.size = b; omega)).trans c10
  refine hK.out _ _ ⟨d6, d10⟩ (fun hHeld2 => ?_)
  clear hK K
  refine wpAnyH_take (i := 9) (v := .int .i64 (k : Int)) ops_at9 (by kernel_rfl) (by kernel_rfl) (by kernel_rfl) (fun _ _ _ h => h) (Or.inl ⟨by rfl, fun V hV => ?_⟩) hHeld2 ?_
  · go_simp
  simp only [Act.put, List.setIfInBounds_toArray, List.set_cons_zero, List.set_cons_succ]
  refine wpAnyH_take (i := 10) (v := .int .i64 s) ops_at10 (by kernel_rfl) (by kernel_rfl) (by kernel_rfl) (fun _ _ _ h => h) (Or.inl ⟨by rfl, fun V hV => ?_⟩) hHeld2 ?_
  · go_simp
  simp only [Act.put, List.setIfInBounds_toArray, List.set_cons_zero, List.set_cons_succ]
  refine wpAnyH_take (i := 11) (v := .int .i64 (k : Int)) ops_at11 (by kernel_rfl) (by kernel_rfl) (by kernel_rfl) (fun _ _ _ h => h) (Or.inl ⟨by rfl, fun V hV => ?_⟩) hHeld2 ?_
  · go_simp
  simp only [Act.put, List.setIfInBounds_toArray, List.set_cons_zero, List.set_cons_succ]
  refine wpAnyH_take (i := 12) (v := .int .i64 s) ops_at12 (by kernel_rfl) (by kernel_rfl) (by kernel_rfl) (fun _ _ _ h => h) (Or.inl ⟨by rfl, fun V hV => ?_⟩) hHeld2 ?_
  · go_simp
  simp only [Act.put, List.setIfInBounds_toArray, List.set_cons_zero, List.set_cons_succ]
  refine wpAnyH_done (by kernel_rfl) ?_ _
  go_wp2
  go_ret2
  refine ⟨bl, k, s, ?_, rfl, HVol.out, HB1.out.trans HKp.out (fun _ _ h => h)⟩
  rw [← writeS_take v t.lba t.data n]
  exact HR.out

set_option maxRecDepth 100000 in
set_option maxHeartbeats 6400000 in
theorem block_unmap [Zs] (m : Nat) (rv : Value) (ps : List (Nat × Nat)) (S : Mo) (t : Tk) (dv : Value) (i p b : Nat) (v : Vo) (n : Nat) (w : World) (h : ModelIs w m rv ps S) (hlen : ps.length ≤ 8) (hf : S.find t.vol = some i) (hp : ps[i]? = some (p, b)) (hv : S.vols[i]? = some v) (hn : n ≤ 8) (hl0 : 0 ≤ t.lba) (hl1 : t.lba ≤ 1048576) (hop : t.op = 5) :
    Calls Try.prog 24 #[.pointer (some ⟨m, 0, none⟩), .agg (t.cells dv), .int .i64 (n : Int)] w fun e w' => e = .returned (.tuple #[.int .i64 (n : Int), .int .i64 0]) ∧ VolAt w' p b { v with bl := unS t.lba v.bl n } ∧ Keeps (fun x => x = b) w w' := by
  have hb1 : Below w.heap.size w (w.alloc (.cells (t.cells dv) 30)) := allocBelow w _
  have HF := Lib.hid (find_any m rv ps S t.vol _ (h.below hb1) hlen)
  have hvp : VolAt w p b v := h.vol i _ _ hp hv
  have hpl := hvp.str.lt
  have hbl := hvp.map.lt
  have hpb : p ≠ b := by rintro rfl; exact hvp.map.notCells _ _ _ hvp.str
  have HVW := Lib.hid hvp; clear hvp
  have c0 := fun j => (CellsAt.new w (t.cells dv) 30).cell j
  have HC0 := Lib.hid c0
  have hptr : ptrOf ps (S.find t.vol) = some ⟨p, 0, none⟩ := by rw [hf]; simp [ptrOf, hp]
  rw [hptr] at HF
  clear h c0
  unfold Tk.cells at HC0 HF ⊢
  rw [hop] at HC0 HF ⊢
  go_enter Try.func24, Try.ntmps24
  go_wp2_with fail
  refine HF.out.mono ?_
  rintro e w1 ⟨rfl, hb2⟩
  have hB1 : Keeps (fun x => x = b) w w1 := ((Keeps.refl _ w).alloc _).trans (Keeps.of_below hb2) (fun _ _ h => h)
  have hz1 : w.heap.size + 1 ≤ w1.heap.size := by have := hb2.size; simpa using this
  have c1 := fun j => (hb2.cell (p := ⟨w.heap.size, j, none⟩) (by simp)).trans (HC0.out j)
  have HV := Lib.hid (HVW.out.keeps (F := fun _ => False) (((Keeps.refl _ w).alloc _).trans (Keeps.of_below hb2) (fun _ _ h => h)) (fun h => h) (fun h => h) (fun _ _ _ h => h))
  have HB1 := Lib.hid hB1; clear hB1 hb2
  have c2 := c1 2
  have e6 := c1 6
  simp only [List.getElem?_toArray, List.getElem?_cons_zero, List.getElem?_cons_succ] at c2 e6
  clear c1
  go_wp2_with fail
  go_loopw [29] (fun i wr => ∃ k : Nat, k ≤ n ∧ i = .int .i64 k ∧ VolAt wr p b { v with bl := unS t.lba v.bl k } ∧ Keeps (fun x => x = b) w1 wr) (fun i _ => n - (intOf i).toNat)
  case atStart => exact ⟨0, Nat.zero_le _, rfl, HV.out, Keeps.refl _ _⟩
  case round =>
    obtain ⟨k, hk, rfl, hvr, hkr⟩ := hrel
    have HKr := Lib.hid hkr; clear hkr
    have HVr := Lib.hid hvr; clear hvr
    by_cases hlt : k < n
    · have hkn : (k : Int) < (n : Int) := by omega
      have c6 : wr.cell? ⟨w.heap.size, 6, none⟩ = some (.int .i64 t.lba) := (HKr.out.cell (p := ⟨w.heap.size, 6, none⟩) (by show w.heap.size < _; omega) (by show ¬ w.heap.size = b; omega)).trans e6
      have hp3 := HVr.out.str.cell 3
      simp only [Vo.cells, List.getElem?_toArray, List.getElem?_cons_zero, List.getElem?_cons_succ] at hp3
      obtain ⟨es, hml, hbe, hda⟩ := HVr.out.map
      have hmd : MapIs wr.drew b (es.map fun e => (e.1, e.2.1)) := hml
      obtain ⟨w2, hdel, hm2, hk2, hs2⟩ := run_drop hmd (t.lba + (k : Int)) 0
      have hk2' : Keeps (fun x => x = b) wr w2 := (Keeps.refl _ wr).drew.trans hk2 (fun _ _ h => h)
      have hvn : VolAt w2 p b { v with bl := unS t.lba v.bl (k + 1) } := HVr.out.drop hbe hda (t.lba + (k : Int)) hm2 hk2'
      have HVn := Lib.hid hvn; clear hvn
      have HKn := Lib.hid (HKr.out.trans hk2' (fun _ _ h => h))
      have d6 : w2.cell? ⟨w.heap.size, 6, none⟩ = some (.int .i64 t.lba) := (hk2'.cell (p := ⟨w.heap.size, 6, none⟩) (block_lt c6) (by show ¬ w.heap.size = b; omega)).trans c6
      have d3 : w2.cell? ⟨p, 3, none⟩ = some (.map (some b)) := (hk2'.cell (p := ⟨p, 3, none⟩) (block_lt hp3) hpb).trans hp3
      clear hml hbe hda hmd hm2 hk2 hk2' hs2
      have hat : IntKind.i64.wrap (t.lba + (k : Int)) = t.lba + (k : Int) := IntWalk.i64_in _ (by omega)
      go_upto_region 7 with fail
      refine wp_region_held_drew (S := fun V => V.cell? ⟨w.heap.size, 6, none⟩ = some (.int .i64 t.lba) ∧ V.cell? ⟨p, 3, none⟩ = some (.map (some b))) (by kernel_rfl) ⟨c6, hp3⟩ (fun hHeld => ?_)
      refine wpAnyH_take (i := 0) (v := (.pointer (some ⟨p, 0, none⟩))) ops_at0 (by kernel_rfl) (by kernel_rfl) (by kernel_rfl) (fun _ _ _ h => h) (Or.inl ⟨by rfl, fun V hV => ?_⟩) hHeld ?_
      · go_simp
      simp only [Act.put, List.setIfInBounds_toArray, List.set_cons_zero, List.set_cons_succ]
      refine wpAnyH_take (i := 1) (v := (.pointer (some ⟨p, 0, none⟩))) ops_at1 (by kernel_rfl) (by kernel_rfl) (by kernel_rfl) (fun _ _ _ h => h) (Or.inl ⟨by rfl, fun V hV => ?_⟩) hHeld ?_
      · go_simp
      simp only [Act.put, List.setIfInBounds_toArray, List.set_cons_zero, List.set_cons_succ]
      refine wpAnyH_take (i := 2) (v := .pointer (some ⟨p, 3, none⟩)) ops_at2 (by kernel_rfl) (by kernel_rfl) (by kernel_rfl) (fun _ _ _ h => h) (Or.inl ⟨by rfl, fun V hV => ?_⟩) hHeld ?_
      · go_simp
      simp only [Act.put, List.setIfInBounds_toArray, List.set_cons_zero, List.set_cons_succ]
      refine wpAnyH_take (i := 3) (v := .map (some b)) ops_at3 (by kernel_rfl) (by kernel_rfl) (by kernel_rfl) (fun _ _ _ h => h) (Or.inl ⟨by rfl, fun V hV => ?_⟩) hHeld ?_
      · obtain ⟨q6, q3⟩ := hV
        go_simp
      simp only [Act.put, List.setIfInBounds_toArray, List.set_cons_zero, List.set_cons_succ]
      refine wpAnyH_take (i := 4) (v := .pointer (some ⟨w.heap.size, 6, none⟩)) ops_at4 (by kernel_rfl) (by kernel_rfl) (by kernel_rfl) (fun _ _ _ h => h) (Or.inl ⟨by rfl, fun V hV => ?_⟩) hHeld ?_
      · go_simp
      simp only [Act.put, List.setIfInBounds_toArray, List.set_cons_zero, List.set_cons_succ]
      refine wpAnyH_take (i := 5) (v := .int .i64 t.lba) ops_at5 (by kernel_rfl) (by kernel_rfl) (by kernel_rfl) (fun _ _ _ h => h) (Or.inl ⟨by rfl, fun V hV => ?_⟩) hHeld ?_
      · obtain ⟨q6, q3⟩ := hV
        go_simp
      simp only [Act.put, List.setIfInBounds_toArray, List.set_cons_zero, List.set_cons_succ]
      refine wpAnyH_take (i := 6) (v := .int .i64 (k : Int)) ops_at6 (by kernel_rfl) (by kernel_rfl) (by kernel_rfl) (fun _ _ _ h => h) (Or.inl ⟨by rfl, fun V hV => ?_⟩) hHeld ?_
      · go_simp
      simp only [Act.put, List.setIfInBounds_toArray, List.set_cons_zero, List.set_cons_succ]
      refine wpAnyH_take (i := 7) (v := .int .i64 (t.lba + (k : Int))) ops_at7 (by kernel_rfl) (by kernel_rfl) (by kernel_rfl) (fun _ _ _ h => h) (Or.inl ⟨by rfl, fun V hV => ?_⟩) hHeld ?_
      · go_simp
      simp only [Act.put, List.setIfInBounds_toArray, List.set_cons_zero, List.set_cons_succ]
      refine wpAnyH_ready (rs := [8]) (by kernel_rfl) (by simp) ?_
      refine AllReadyH.cons ops_at8 (fun K hK => ?_) AllReadyH.nil
      rw [if_pos (by rfl)]
      go_simp
      refine hK.out _ _ ⟨d6, d3⟩ (fun hHeld2 => ?_)
      clear hK K
      refine wpAnyH_done (by kernel_rfl) ?_ _
      go_wp2
      go_roundw
      case rel => exact ⟨k + 1, by omega, by simp, HVn.out, HKn.out⟩
      case measure => simp only [intOf]; omega
    · obtain rfl : k = n := by omega
      have hkk : ¬ (k : Int) < (k : Int) := by omega
      go_wp2
      go_ret2
      exact ⟨rfl, HVr.out, HB1.out.trans HKr.out (fun _ _ h => h)⟩
end Go.Proofs.Ytmanldcohbegkaa
