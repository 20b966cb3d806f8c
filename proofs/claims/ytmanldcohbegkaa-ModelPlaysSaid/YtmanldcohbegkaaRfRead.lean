/-
  The document's model: read. (Written by gen_rfread.py.)
-/
import Derived.Test.YtmanldcohbegkaaRfSpan
import Derived.Test.YtmanldcohbegkaaRfSmall
import Derived.RegionTactic
import Derived.ChangeAlike
namespace Go.Proofs.Ytmanldcohbegkaa
open Go.RowKit

theorem wpList_append_zeros {ops : Array Oper} {rest : List Oper} {o : Oper} {a : Act} {Q : Exit → Act → World → Prop} {w : World} (hgd : o.guard = none) (s : Operand)
    (ho : o.op = .call { callee := .builtin .append, args := #[s, .const (.int .i64 64)], argTypes := #[28, 3] }) (base : Nat) (v : Value) (xs : List Nat) (hs : a.eval s = v) (hown : Owns base w v xs) (hlen : xs.length + 64 ≤ 1000000) (hbase : base ≤ w.heap.size)
    (h : ∀ v' w', Owns base w' v' (xs ++ zeros 64) → w.grownBy w' v.ownBlock → wpList Try.prog ops Q rest (a.put o.dst v') w') : wpList Try.prog ops Q (o :: rest) a w := by
  obtain ⟨v', w', hr, h2, h3⟩ := run_append_zeros base o.type v xs 64 w hown (by omega) hlen hbase
  exact Lib.wpList_append_run w hgd s (.const (.int .i64 64)) _ _ ho v (.int .i64 64) hs rfl v' w' hr (h v' w' h2 h3)
/-- What a volume's row reads as, beside a box. -/
structure RdAt (r g n c i tb : Nat) (vol : Int) (v : Vo) (bv : Value) (V : World) : Prop where
  x0 : V.cell? ⟨r, 0, none⟩ = some (.slice (some ⟨g, 0, none⟩) n c)
  x1 : V.cell? ⟨tb, 5, none⟩ = some (.int .i64 vol)
  y0 : V.cell? ⟨g, i * 4, none⟩ = some (.int .i64 v.id)
  y1 : V.cell? ⟨g, i * 4 + 1, none⟩ = some (.int .i64 v.size)
  y2 : V.cell? ⟨g, i * 4 + 2, none⟩ = some (.int .i64 v.quota)
  y3 : V.cell? ⟨g, i * 4 + 3, none⟩ = some bv
theorem RdAt.below {r g n c i tb : Nat} {vol : Int} {v : Vo} {bv : Value} {V V' : World} (h : RdAt r g n c i tb vol v bv V) (hb : Below V.heap.size V V') : RdAt r g n c i tb vol v bv V' :=
  ⟨(hb.cell (p := ⟨r, 0, none⟩) (block_lt h.x0)).trans h.x0, (hb.cell (p := ⟨tb, 5, none⟩) (block_lt h.x1)).trans h.x1, (hb.cell (p := ⟨g, i * 4, none⟩) (block_lt h.y0)).trans h.y0, (hb.cell (p := ⟨g, i * 4 + 1, none⟩) (block_lt h.y1)).trans h.y1, (hb.cell (p := ⟨g, i * 4 + 2, none⟩) (block_lt h.y2)).trans h.y2, (hb.cell (p := ⟨g, i * 4 + 3, none⟩) (block_lt h.y3)).trans h.y3⟩
theorem box4_set {w : World} {b : Nat} {T : TypeId} {x0 x1 x2 x3 : Value} (h : CellsAt w b #[x0, x1, x2, x3] T) (y0 y1 y2 y3 : Value) :
    CellsAt ((((w.setCell ⟨b, 0, none⟩ y0).setCell ⟨b, 1, none⟩ y1).setCell ⟨b, 2, none⟩ y2).setCell ⟨b, 3, none⟩ y3) b #[y0, y1, y2, y3] T := by
  have := (((h.set 0 y0).set 1 y1).set 2 y2).set 3 y3
  simpa using this
/-- A volume's place in the row. -/
theorem RefIs.atRow {w : World} {r : Nat} {lv : Value} {vs : List (Vo × Value)} {S : Mo} {W : Nat → Prop} (h : RefIs w r lv vs S W) {i : Nat} {v : Vo} (hv : S.vols[i]? = some v) : ∃ bv, vs[i]? = some (v, bv) ∧ ∃ es : REs, RRow W w bv es ∧ SameBl es.data v.bl := by
  rw [h.vols, List.getElem?_map] at hv
  cases hq : vs[i]? with
  | none => rw [hq] at hv; simp at hv
  | some p =>
    rw [hq] at hv
    simp at hv
    obtain ⟨u, bv⟩ := p
    simp at hv
    subst hv
    exact ⟨bv, rfl, h.bl _ (List.mem_of_getElem? hq)⟩
theorem getAt_data (k : Int) (es : REs) : getAt k es.data = (getAt k es).map (·.2) := getAt_map (fun e : Value × List Nat => e.2) k es

set_option maxRecDepth 100000 in
set_option maxHeartbeats 6400000 in
theorem rread_any (r : Nat) (lv : Value) (vs : List (Vo × Value)) (S : Mo) (W : Nat → Prop) (t : Tk) (dv : Value) (i : Nat) (v : Vo) (w : World) (h : RefIs w r lv vs S W) (hg : Good S) (hdv : ∃ a n c, dv = .slice a n c) (hat : S.at t.vol = some (i, v)) (hc1 : 1 ≤ t.cnt) (hc8 : t.cnt ≤ 8) (hl0 : 0 ≤ t.lba) (hl1 : t.lba ≤ 1048576) :
    Calls Try.prog 47 #[.pointer (some ⟨r, 0, none⟩), .agg (t.cells dv)] w fun e w' => ∃ x, e = .returned x ∧ Owns w.heap.size w' x (readS v t.lba t.cnt.toNat) ∧ Below w.heap.size w w' := by
  obtain ⟨da, dn, dc, rfl⟩ := hdv
  have hlen8 : vs.length ≤ 8 := by rw [h.len]; exact hg.len
  obtain ⟨hfd, hv⟩ := Mo.at_some hat
  have hfi : firstAt (fun v : Vo => v.id == t.vol) S.vols = (i : Int) := by rw [find_first, hfd]
  have hvm := List.mem_of_getElem? hv
  have hok : VoOk v := hg.full v hvm
  obtain ⟨cn, hcn⟩ : ∃ cn : Nat, t.cnt = (cn : Int) := ⟨t.cnt.toNat, by omega⟩
  have hcz : t.cnt.toNat = cn := by omega
  rw [hcz]
  have HCZ := Lib.hid hcn; clear hcn hcz
  have hcn1 : cn ≤ 8 := by have := HCZ.out; omega
  have hbl8 : v.bl.length ≤ 1048576 := by have := hg.room v hvm; have := hg.quota v hvm; omega
  obtain ⟨w1, hw1⟩ : ∃ w1, w1 = w.alloc (.cells (t.cells (.slice da dn dc)) 30) := ⟨_, rfl⟩
  have hb1 : Below w.heap.size w w1 := by rw [hw1]; exact allocBelow w _
  have hc1' : CellsAt w1 w.heap.size (t.cells (.slice da dn dc)) 30 := by rw [hw1]; exact heap_at rfl
  have h1 := h.below hb1
  obtain ⟨bv, hp, es, hrr, hsb⟩ := h1.atRow hv
  have hel : es.length ≤ 1048576 := by have := hsb.len; simp only [REs.data, List.length_map] at this; omega
  have hil : i < vs.length := (List.getElem?_eq_some_iff.1 hp).1
  obtain ⟨a, c, rfl, hform⟩ := ownsForm h1.row
  obtain ⟨g, rfl, hgl⟩ : ∃ g, a = some ⟨g, 0, none⟩ ∧ g < w1.heap.size := by
    rcases hform with ⟨_, h0, _⟩ | ⟨g, e, hl⟩
    · omega
    · exact ⟨g, e, hl⟩
  obtain ⟨n, hn⟩ : ∃ n, n = vs.length := ⟨_, rfl⟩
  have h1' := h1
  rw [← hn] at h1' hil
  have hpn := hn
  clear hn hform
  have x0 := h1'.head.cell 0
  simp only [List.getElem?_toArray, List.getElem?_cons_zero] at x0
  have y0 := h1'.cell hp 0 (by omega)
  have y1 := h1'.cell hp 1 (by omega)
  have y2 := h1'.cell hp 2 (by omega)
  have y3 := h1'.cell hp 3 (by omega)
  simp only [vcell4, List.getElem?_cons_zero, List.getElem?_cons_succ, Nat.add_zero] at y0 y1 y2 y3
  have x1 := hc1'.cell 5
  simp only [Tk.cells, List.getElem?_toArray, List.getElem?_cons_zero, List.getElem?_cons_succ] at x1
  obtain ⟨ba, bc, rfl, hbf⟩ := ownsForm hrr.row
  obtain ⟨m, hm⟩ : ∃ m, m = es.length := ⟨_, rfl⟩
  rw [← hm] at hrr hbf y3 hel
  have hm1 : m ≤ es.length := by omega
  have hm2 : es.length ≤ m := by omega
  clear hm
  have hRD : RdAt r g n c i w.heap.size t.vol v (.slice ba m bc) w1 := ⟨x0, x1, y0, y1, y2, y3⟩
  clear x0 x1 y0 y1 y2 y3
  have HF := Lib.hid (fun (V : World) (hV : Below w1.heap.size w1 V) => rfind_any r _ vs S W t.vol V (h1.below hV) hlen8)
  rw [hfi] at HF
  have HB1 := Lib.hid hb1; clear hb1
  have HC1 := Lib.hid hc1'; clear hc1'
  have HR := Lib.hid hrr; clear hrr
  have HSB := Lib.hid hsb; clear hsb
  have HBF := Lib.hid hbf; clear hbf
  have hin : (i : Int) < (n : Int) := by omega
  have hi0 : (0 : Int) ≤ (i : Int) := by omega
  have hiz : ((i : Int)).toNat = i := by omega
  have hz01 : w.heap.size ≤ w1.heap.size := HB1.out.size
  have htl : w.heap.size < w1.heap.size := HC1.out.lt
  clear hpn h1 h1' h hp hfi hfd hv hvm hat hlen8
  unfold Tk.cells at hw1 ⊢
  go_enter Try.func47, Try.ntmps47
  go_upto_region 1 with fail
  rw [← hw1]
  clear hw1
  go_cut [5] (fun b wx => ∃ vb, b = .pointer (some ⟨vb, 0, none⟩) ∧ CellsAt wx vb #[.int .i64 v.id, .int .i64 v.size, .int .i64 v.quota, .slice ba m bc] 69 ∧ Below w1.heap.size w1 wx)
  case first =>
    as_aux_lemma =>
      refine wp_region_held_drew (S := RdAt r g n c i w.heap.size t.vol v (.slice ba m bc)) (by kernel_rfl) ⟨hRD.x0, hRD.x1, hRD.y0, hRD.y1, hRD.y2, hRD.y3⟩ (fun hHeld => ?_)
      refine wpAnyH_take (i := 0) (v := (.pointer (some ⟨r, 0, none⟩))) ops_at0 (by kernel_rfl) (by kernel_rfl) (by kernel_rfl) (fun _ _ _ h => h) (Or.inl ⟨by rfl, fun V hV => ?_⟩) hHeld ?_
      · go_simp
      simp only [Act.put, List.setIfInBounds_toArray, List.set_cons_zero, List.set_cons_succ]
      refine wpAnyH_take (i := 1) (v := (.pointer (some ⟨r, 0, none⟩))) ops_at1 (by kernel_rfl) (by kernel_rfl) (by kernel_rfl) (fun _ _ _ h => h) (Or.inl ⟨by rfl, fun V hV => ?_⟩) hHeld ?_
      · go_simp
      simp only [Act.put, List.setIfInBounds_toArray, List.set_cons_zero, List.set_cons_succ]
      refine wpAnyH_take (i := 2) (v := (.pointer (some ⟨r, 0, none⟩))) ops_at2 (by kernel_rfl) (by kernel_rfl) (by kernel_rfl) (fun _ _ _ h => h) (Or.inl ⟨by rfl, fun V hV => ?_⟩) hHeld ?_
      · go_simp
      simp only [Act.put, List.setIfInBounds_toArray, List.set_cons_zero, List.set_cons_succ]
      refine wpAnyH_take (i := 3) (v := .slice (some ⟨g, 0, none⟩) n c) ops_at3 (by kernel_rfl) (by kernel_rfl) (by kernel_rfl) (fun _ _ _ h => h) (Or.inl ⟨by rfl, fun V hV => ?_⟩) hHeld ?_
      · obtain ⟨x0, x1, y0, y1, y2, y3⟩ := hV
        go_simp
      simp only [Act.put, List.setIfInBounds_toArray, List.set_cons_zero, List.set_cons_succ]
      refine wpAnyH_take (i := 4) (v := (.pointer (some ⟨r, 0, none⟩))) ops_at4 (by kernel_rfl) (by kernel_rfl) (by kernel_rfl) (fun _ _ _ h => h) (Or.inl ⟨by rfl, fun V hV => ?_⟩) hHeld ?_
      · go_simp
      simp only [Act.put, List.setIfInBounds_toArray, List.set_cons_zero, List.set_cons_succ]
      refine wpAnyH_take (i := 5) (v := (.pointer (some ⟨w.heap.size, 5, none⟩))) ops_at5 (by kernel_rfl) (by kernel_rfl) (by kernel_rfl) (fun _ _ _ h => h) (Or.inl ⟨by rfl, fun V hV => ?_⟩) hHeld ?_
      · go_simp
      simp only [Act.put, List.setIfInBounds_toArray, List.set_cons_zero, List.set_cons_succ]
      refine wpAnyH_take (i := 6) (v := .int .i64 t.vol) ops_at6 (by kernel_rfl) (by kernel_rfl) (by kernel_rfl) (fun _ _ _ h => h) (Or.inl ⟨by rfl, fun V hV => ?_⟩) hHeld ?_
      · obtain ⟨x0, x1, y0, y1, y2, y3⟩ := hV
        go_simp
      simp only [Act.put, List.setIfInBounds_toArray, List.set_cons_zero, List.set_cons_succ]
      refine wpAnyH_ready (rs := [7, 10]) (by kernel_rfl) (by simp) ?_
      refine AllReadyH.cons ops_at7 (fun K hK => ?_) (AllReadyH.cons ops_at10 (fun K hK => ?_) AllReadyH.nil)
      · rw [if_pos (by rfl)]
        go_simp
        refine (HF.out w1.drew (Below.refl _ w1).drew).mono ?_
        rintro e V1 ⟨rfl, rfl⟩
        go_wp2_with fail
        refine hK.out _ _ ⟨hRD.x0, hRD.x1, hRD.y0, hRD.y1, hRD.y2, hRD.y3⟩ (fun hHeld => ?_)
        clear hK K
        refine wpAnyH_take (i := 8) (v := (.pointer (some ⟨g, i * 4, none⟩))) ops_at8 (by kernel_rfl) (by kernel_rfl) (by kernel_rfl) (fun _ _ _ h => h) (Or.inl ⟨by rfl, fun V hV => ?_⟩) hHeld ?_
        · go_simp
        simp only [Act.put, List.setIfInBounds_toArray, List.set_cons_zero, List.set_cons_succ]
        refine wpAnyH_take (i := 9) (v := .agg #[.int .i64 v.id, .int .i64 v.size, .int .i64 v.quota, .slice ba m bc]) ops_at9 (by kernel_rfl) (by kernel_rfl) (by kernel_rfl) (fun _ _ _ h => h) (Or.inl ⟨by rfl, fun V hV => ?_⟩) hHeld ?_
        · obtain ⟨x0, x1, y0, y1, y2, y3⟩ := hV
          go_simp
        simp only [Act.put, List.setIfInBounds_toArray, List.set_cons_zero, List.set_cons_succ]
        refine wpAnyH_ready (rs := [10]) (by kernel_rfl) (by simp) ?_
        refine AllReadyH.cons ops_at10 (fun K hK => ?_) AllReadyH.nil
        rw [if_pos (by rfl)]
        go_simp
        have hb2 : Below w1.heap.size w1 (w1.alloc (.cells #[.int .i64 0, .int .i64 0, .int .i64 0, .slice none 0 0] 69)) := allocBelow w1 _
        have hr2 := hRD.below hb2
        refine hK.out _ _ ⟨hr2.x0, hr2.x1, hr2.y0, hr2.y1, hr2.y2, hr2.y3⟩ (fun hHeld => ?_)
        clear hK K
        refine wpAnyH_ready (rs := [11]) (by kernel_rfl) (by simp) ?_
        refine AllReadyH.cons ops_at11 (fun K hK => ?_) AllReadyH.nil
        rw [if_pos (by rfl)]
        go_simp
        have hb3 : Below w1.heap.size w1 (w1.alloc (.cells #[.int .i64 v.id, .int .i64 v.size, .int .i64 v.quota, .slice ba m bc] 69)) := allocBelow w1 _
        have hr3 := hRD.below hb3
        refine hK.out _ _ ⟨hr3.x0, hr3.x1, hr3.y0, hr3.y1, hr3.y2, hr3.y3⟩ (fun hHeld => ?_)
        clear hK K
        refine wpAnyH_done (by kernel_rfl) ?_ _
        go_wp2_with fail
        go_meet
        exact ⟨_, rfl, heap_at rfl, hb3.drew⟩
      · rw [if_pos (by rfl)]
        go_simp
        obtain ⟨V0, hV0⟩ : ∃ V0, V0 = (w1.alloc (.cells #[.int .i64 0, .int .i64 0, .int .i64 0, .slice none 0 0] 69)).drew := ⟨_, rfl⟩
        rw [← hV0]
        have hb0 : Below w1.heap.size w1 V0 := by rw [hV0]; exact (allocBelow w1 _).drew
        have hc0 : CellsAt V0 w1.heap.size #[.int .i64 0, .int .i64 0, .int .i64 0, .slice none 0 0] 69 := by rw [hV0]; show CellsAt (w1.alloc _) _ _ _; exact heap_at rfl
        clear hV0
        have hr0 := hRD.below hb0
        refine hK.out _ _ hr0 (fun hHeld => ?_)
        clear hK K
        refine wpAnyH_ready (rs := [7]) (by kernel_rfl) (by simp) ?_
        refine AllReadyH.cons ops_at7 (fun K hK => ?_) AllReadyH.nil
        rw [if_pos (by rfl)]
        go_simp
        refine (HF.out V0 hb0).mono ?_
        rintro e V1 ⟨rfl, rfl⟩
        go_wp2_with fail
        refine hK.out _ _ hr0 (fun hHeld => ?_)
        clear hK K
        refine wpAnyH_take (i := 8) (v := (.pointer (some ⟨g, i * 4, none⟩))) ops_at8 (by kernel_rfl) (by kernel_rfl) (by kernel_rfl) (fun _ _ _ h => h) (Or.inl ⟨by rfl, fun V hV => ?_⟩) hHeld ?_
        · go_simp
        simp only [Act.put, List.setIfInBounds_toArray, List.set_cons_zero, List.set_cons_succ]
        refine wpAnyH_take (i := 9) (v := .agg #[.int .i64 v.id, .int .i64 v.size, .int .i64 v.quota, .slice ba m bc]) ops_at9 (by kernel_rfl) (by kernel_rfl) (by kernel_rfl) (fun _ _ _ h => h) (Or.inl ⟨by rfl, fun V hV => ?_⟩) hHeld ?_
        · obtain ⟨x0, x1, y0, y1, y2, y3⟩ := hV
          go_simp
        simp only [Act.put, List.setIfInBounds_toArray, List.set_cons_zero, List.set_cons_succ]
        refine wpAnyH_ready (rs := [11]) (by kernel_rfl) (by simp) ?_
        refine AllReadyH.cons ops_at11 (fun K hK => ?_) AllReadyH.nil
        rw [if_pos (by rfl)]
        obtain ⟨ab, hab⟩ : ∃ ab, ab = w1.heap.size := ⟨_, rfl⟩
        rw [← hab] at hc0 ⊢
        have hab0 : w1.heap.size ≤ ab := by omega
        clear hab
        have f0 := hc0.free 0
        have f1 := hc0.free 1
        have f2 := hc0.free 2
        have f3 := hc0.free 3
        have e0 := hc0.cell 0
        have e1 := hc0.cell 1
        have e2 := hc0.cell 2
        have e3 := hc0.cell 3
        simp only [List.getElem?_toArray, List.getElem?_cons_zero, List.getElem?_cons_succ] at e0 e1 e2 e3
        go_simp
        obtain ⟨V3, hV3⟩ : ∃ V3, V3 = (((V0.setCell ⟨ab, 0, none⟩ (.int .i64 v.id)).setCell ⟨ab, 1, none⟩ (.int .i64 v.size)).setCell ⟨ab, 2, none⟩ (.int .i64 v.quota)).setCell ⟨ab, 3, none⟩ (.slice ba m bc) := ⟨_, rfl⟩
        rw [← hV3]
        have hc3 : CellsAt V3 ab #[.int .i64 v.id, .int .i64 v.size, .int .i64 v.quota, .slice ba m bc] 69 := by rw [hV3]; exact box4_set hc0 _ _ _ _
        have hk3 : Keeps (fun x => x = ab) V0 V3 := by rw [hV3]; exact ((((Keeps.refl (fun x => x = ab) V0).setCell (p := ⟨ab, 0, none⟩) (fun _ => rfl) _).setCell (p := ⟨ab, 1, none⟩) (fun _ => rfl) _).setCell (p := ⟨ab, 2, none⟩) (fun _ => rfl) _).setCell (p := ⟨ab, 3, none⟩) (fun _ => rfl) _
        clear hV3 f0 f1 f2 f3 e0 e1 e2 e3
        have hb3 : Below w1.heap.size w1 V3 := hb0.trans (hk3.below hb0.size (fun x hx h => by omega))
        refine hK.out _ _ (hRD.below hb3) (fun hHeld => ?_)
        clear hK K
        refine wpAnyH_done (by kernel_rfl) ?_ _
        go_wp2_with fail
        go_meet
        exact ⟨_, rfl, hc3, hb3⟩
  obtain ⟨vb, rfl, hvb, hb2⟩ := hcut
  have HB2 := Lib.hid hb2; clear hb2
  have HVB := Lib.hid hvb; clear hvb hRD
  obtain ⟨w2, hw2⟩ : ∃ w2, w2 = wc := ⟨_, rfl⟩
  rw [← hw2] at HB2 HVB ⊢
  clear hw2
  have hz12 : w1.heap.size ≤ w2.heap.size := HB2.out.size
  go_wp2_with fail
  go_loopw [6, 7, 8] (fun o j q wr => ∃ k : Nat, k ≤ cn ∧ j = .int .i64 (k : Int) ∧ ∃ ra rn rc, o = .slice ra rn rc ∧ Owns w2.heap.size wr (.slice ra rn rc) (readS v t.lba k) ∧ Below w2.heap.size w2 wr) (fun _ j _ _ => cn - (intOf j).toNat)
  case atStart => exact ⟨0, by omega, rfl, none, 0, 0, rfl, Owns.nil _ _, Below.refl _ _⟩
  case round =>
    obtain ⟨k, hk, rfl, ra, rn, rc, rfl, ho, hb⟩ := hrel
    have HO := Lib.hid ho; clear ho
    have HB := Lib.hid hb; clear hb
    have t6 := ((HC1.out.below HB2.out htl).below HB.out (by omega)).cell 6
    have t7 := ((HC1.out.below HB2.out htl).below HB.out (by omega)).cell 7
    simp only [Tk.cells, List.getElem?_toArray, List.getElem?_cons_zero, List.getElem?_cons_succ] at t6 t7
    rw [HCZ.out] at t7
    have HRL := Lib.hid (show (readS v t.lba k).length = k * 64 from readS_length hok _ _)
    have hbz : w2.heap.size ≤ wr.heap.size := HB.out.size
    by_cases hlt : k < cn
    · have hkn : (k : Int) < (cn : Int) := by omega
      have hk0 : (0 : Int) ≤ (k : Int) := by omega
      have v0 := (HVB.out.below HB.out HVB.out.lt).cell 0
      have v1 := (HVB.out.below HB.out HVB.out.lt).cell 1
      have v2 := (HVB.out.below HB.out HVB.out.lt).cell 2
      have v3 := (HVB.out.below HB.out HVB.out.lt).cell 3
      simp only [List.getElem?_toArray, List.getElem?_cons_zero, List.getElem?_cons_succ] at v0 v1 v2 v3
      have hww : IntKind.i64.wrap (t.lba + (k : Int)) = t.lba + (k : Int) := IntWalk.i64_in _ (by omega)
      have hR := (HR.out.keeps (Keeps.of_below (F := fun _ => False) HB2.out) (fun _ _ h => h)).keeps (Keeps.of_below (F := fun _ => False) HB.out) (fun _ _ h => h)
      have HMP := Lib.hid (mapped_any W v (.slice ba m bc) es (t.lba + (k : Int)) wr hR (by omega))
      have HRw := Lib.hid hR; clear hR
      have hsame := HSB.out.get (t.lba + (k : Int))
      rw [getAt_data] at hsame
      have hstep : readS v t.lba (k + 1) = readS v t.lba k ++ (getAt (t.lba + (k : Int)) v.bl).getD (zeros 64) := rfl
      rw [← hsame] at hstep
      cases hgt : getAt (t.lba + (k : Int)) es with
      | none =>
        rw [hgt] at hstep
        rw [placeOf_none hgt] at HMP
        have hst2 : readS v t.lba (k + 1) = readS v t.lba k ++ zeros 64 := by rw [hstep]; rfl
        have HST := Lib.hid hst2; clear hst2 hstep hsame hgt
        go_wp2_with fail
        refine HMP.out.mono ?_
        rintro e w3 ⟨rfl, hb3⟩
        have HO3 := Lib.hid (show Owns w2.heap.size w3 (.slice ra rn rc) (readS v t.lba k) from (Keeps.of_below (F := fun _ => False) hb3).owns HO.out (fun _ _ h => h))
        have HB3 := Lib.hid (HB.out.trans (hb3.mono hbz)); clear hb3
        clear v0 v1 v2 v3 t6 t7 HMP
        go_wp2_with (at_builtin; refine wpList_append_zeros rfl (.tmp 33) rfl w2.heap.size (.slice ra rn rc) (readS v t.lba k) rfl HO3.out (by have := HRL.out; omega) HB3.out.size ?_; intro v4 w4 hown4 hgrow4; obtain ⟨a4, c4, rfl, _⟩ := hown4.bytes.form; obtain ⟨l4, hl4⟩ : ∃ l4, l4 = (readS v t.lba k ++ zeros 64).length := ⟨_, rfl⟩; rw [← hl4] at hown4 ⊢; clear hl4; have HO4 := Lib.hid hown4; clear hown4; have HG4 := Lib.hid hgrow4; clear hgrow4)
        go_roundw
        case rel => exact ⟨k + 1, by omega, by simp, a4, _, c4, rfl, by rw [HST.out]; exact HO4.out, HB3.out.grown HG4.out HB3.out.size (fun x hx => (World.ownsRow.lt HO3.out x hx).1)⟩
        case measure => simp only [intOf]; omega
      | some q =>
        rw [hgt] at hstep
        obtain ⟨x, hpx, hex⟩ := placeOf_some hgt
        rw [hpx] at HMP
        obtain ⟨dq, ld⟩ := q
        obtain ⟨gd, cd, e1⟩ := HR.out.form (List.mem_of_getElem? hex)
        dsimp only at e1
        subst e1
        have hxm : x < m := by have := (List.getElem?_eq_some_iff.1 hex).1; omega
        have hst2 : readS v t.lba (k + 1) = readS v t.lba k ++ ld := by rw [hstep]; rfl
        have HST := Lib.hid hst2; clear hst2 hstep hsame hgt hpx
        have HEX := Lib.hid hex; clear hex
        have hx0 : (0 : Int) ≤ (x : Int) := by omega
        have hx1 : ¬ (x : Int) < 0 := by omega
        have hx2 : (x : Int) < (m : Int) := by omega
        have hxz : ((x : Int)).toNat = x := by omega
        go_wp2_with fail
        refine HMP.out.mono ?_
        rintro e w3 ⟨rfl, hb3⟩
        have HO3 := Lib.hid (show Owns w2.heap.size w3 (.slice ra rn rc) (readS v t.lba k) from (Keeps.of_below (F := fun _ => False) hb3).owns HO.out (fun _ _ h => h))
        have hR3 := HRw.out.keeps (Keeps.of_below (F := fun _ => False) hb3) (fun _ _ h => h)
        obtain ⟨gb, rfl⟩ : ∃ g, ba = some ⟨g, 0, none⟩ := by
          rcases HBF.out with ⟨_, h0, _⟩ | ⟨g, e, _⟩
          · omega
          · exact ⟨g, e⟩
        have d1 := hR3.cell HEX.out 1 (by omega)
        simp only [bcell, List.getElem?_cons_zero, List.getElem?_cons_succ] at d1
        have HDA := Lib.hid (hR3.dat _ (List.mem_of_getElem? HEX.out))
        have u3 := (hb3.cell (p := ⟨vb, 3, none⟩) (block_lt v3)).trans v3
        have HB3 := Lib.hid (HB.out.trans (hb3.mono hbz)); clear hb3
        clear v0 v1 v2 v3 t6 t7 HMP hR3 HRw
        have hld : ld.length = 64 := HDA.out.len
        have HLD := Lib.hid hld; clear hld
        go_wp2_with (at_builtin; refine wpList_append_bytes rfl (.tmp 35) (.tmp 41) rfl w2.heap.size (.slice ra rn rc) (readS v t.lba k) rfl HO3.out (.slice (some ⟨gd, 0, none⟩) 64 cd) ld rfl HDA.out.own.bytes (by rw [HLD.out, HRL.out]; omega) HB3.out.size ?_; intro v4 w4 hown4 hgrow4; obtain ⟨a4, c4, rfl, _⟩ := hown4.bytes.form; obtain ⟨l4, hl4⟩ : ∃ l4, l4 = (readS v t.lba k ++ ld).length := ⟨_, rfl⟩; rw [← hl4] at hown4 ⊢; clear hl4; have HO4 := Lib.hid hown4; clear hown4; have HG4 := Lib.hid hgrow4; clear hgrow4)
        go_roundw
        case rel => exact ⟨k + 1, by omega, by simp, a4, _, c4, rfl, by rw [HST.out]; exact HO4.out, HB3.out.grown HG4.out HB3.out.size (fun x hx => (World.ownsRow.lt HO3.out x hx).1)⟩
        case measure => simp only [intOf]; omega
    · obtain rfl : k = cn := by omega
      have hkk : ¬ (k : Int) < (k : Int) := by omega
      go_wp2
      go_ret
      exact ⟨_, rfl, HO.out.mono (by omega), HB1.out.trans ((HB2.out.trans (HB.out.mono hz12)).mono hz01)⟩
end Go.Proofs.Ytmanldcohbegkaa
