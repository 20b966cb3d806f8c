/-
  The model: change: create, snapshot. (Written by gen_mdchange.py.)
-/
import Derived.Test.YtmanldcohbegkaaMdChange
namespace Go.Proofs.Ytmanldcohbegkaa
open Go.RowKit

set_option maxRecDepth 100000 in
set_option maxHeartbeats 6400000 in
theorem change_snap [Zs] (m : Nat) (rv : Value) (ps : List (Nat × Nat)) (S : Mo) (t : Tk) (dv : Value) (w : World) (h : ModelIs w m rv ps S) (hlen : ps.length ≤ 8) (hop : t.op = 7) (i p b : Nat) (v : Vo) (hat : S.at t.vol = some (i, v)) (hp : ps[i]? = some (p, b)) (hlen7 : ps.length ≤ 7) (h0 : 1 ≤ S.next) (h1 : S.next < 1073741824) :
    Calls Try.prog 25 #[.pointer (some ⟨m, 0, none⟩), .agg (t.cells dv)] w (ChPost w m rv ps (changeS S t)) := by
  have hb1 : Below w.heap.size w (w.alloc (.cells (t.cells dv) 30)) := allocBelow w _
  have HF := Lib.hid (find_any m rv ps S t.vol _ (h.below hb1) hlen)
  have hml := h.head.lt
  have hptr : ptrOf ps (S.find t.vol) = some ⟨p, 0, none⟩ := by rw [(Mo.at_some hat).1]; simp [ptrOf, hp]
  rw [hptr] at HF
  have hvp : VolAt w p b v := h.vol i _ _ hp (Mo.at_some hat).2
  have hpl := hvp.str.lt
  have hbl := hvp.map.lt
  have HV := Lib.hid hvp; clear hvp
  have c0 := fun j => (CellsAt.new w (t.cells dv) 30).cell j
  have HC0 := Lib.hid c0
  have HM := Lib.hid h
  clear h c0
  unfold Tk.cells at HC0 HF ⊢
  rw [hop] at HC0 HF ⊢
  go_enter Try.func25, Try.ntmps25
  go_wp2_with fail
  refine HF.out.mono ?_
  rintro e w1 ⟨rfl, hb2⟩
  have hz1 : w.heap.size + 1 ≤ w1.heap.size := by have := hb2.size; simpa using this
  have hk1 : Keeps (fun _ => False) w w1 := ((Keeps.refl _ w).alloc _).trans (Keeps.of_below hb2) (fun _ _ h => h)
  have c1 := fun j => (hb2.cell (p := ⟨w.heap.size, j, none⟩) (by simp)).trans (HC0.out j)
  have HM1 := Lib.hid (HM.out.keeps hk1 (fun _ _ h => h) (fun _ _ _ h => h))
  have HK1 := Lib.hid hk1; clear hk1 hb2
  have hT1 : w.heap.size < w1.heap.size := by omega
  have e2 := fun o => (World.cell?_alloc_lt w1 o ⟨w.heap.size, 2, none⟩ hT1).trans (c1 2)
  have e6 := fun o => (World.cell?_alloc_lt w1 o ⟨w.heap.size, 6, none⟩ hT1).trans (c1 6)
  have e7 := fun o => (World.cell?_alloc_lt w1 o ⟨w.heap.size, 7, none⟩ hT1).trans (c1 7)
  have e8 := fun o => (World.cell?_alloc_lt w1 o ⟨w.heap.size, 8, none⟩ hT1).trans (c1 8)
  have e9 := fun o => (World.cell?_alloc_lt w1 o ⟨w.heap.size, 9, none⟩ hT1).trans (c1 9)
  simp only [List.getElem?_toArray, List.getElem?_cons_zero, List.getElem?_cons_succ] at e2 e6 e7 e8 e9
  clear c1
  have hml1 : m < w1.heap.size := by omega
  have hm1 := HM1.out.head.cell 1
  simp only [Mo.cells, List.getElem?_toArray, List.getElem?_cons_zero, List.getElem?_cons_succ] at hm1
  have m1 := fun o => (World.cell?_alloc_lt w1 o ⟨m, 1, none⟩ hml1).trans hm1
  have m1d := m1 (.cells #[.pointer (some ⟨p, 0, none⟩)] 63)
  have HCP : ∀ W, Keeps (fun _ => False) w W → Calls Try.prog 30 #[.pointer (some ⟨p, 0, none⟩), .int .i64 S.next] W fun e w' => e = .returned (.pointer (some ⟨W.heap.size + 1, 0, none⟩)) ∧ VolAt w' (W.heap.size + 1) W.heap.size ⟨S.next, v.size, v.quota, v.bl⟩ ∧ Below W.heap.size W w' := fun W hk =>
    copied_any p b v S.next W (HV.out.keeps hk (fun h => h) (fun h => h) (fun _ _ _ h => h))
  have HCP := Lib.hid HCP
  have HADD : ∀ W P M, w1.heap.size ≤ P → w1.heap.size ≤ M → VolAt W P M ⟨S.next, v.size, v.quota, v.bl⟩ → Keeps (fun _ => False) w W →
      Calls Try.prog 36 #[.pointer (some ⟨m, 0, none⟩), .pointer (some ⟨P, 0, none⟩)] W (fun e w' => ChPost w m rv ps (fourB S.next.toNat, S.add ⟨S.next, v.size, v.quota, v.bl⟩) e w' ∧ Keeps (Own m rv ps) W w') := by
    intro W P M hP hM hv hkw
    have hno : ∀ x, w1.heap.size ≤ x → ¬ Own m rv ps x := fun x hx ho => by have := HM.out.lt x ho; omega
    refine (added_any m rv ps S P M ⟨S.next, v.size, v.quota, v.bl⟩ W (HM.out.keeps hkw (fun _ _ h => h) (fun _ _ _ h => h)) hv (hno _ hP) (hno _ hM) hlen7 rfl h0 h1).mono ?_
    rintro e w5 ⟨r, rv', rfl, hown, hmod, hk5, hnew⟩
    refine ⟨⟨r, rv', _, rfl, hown.mono hkw.size, hmod, (hkw.mono (fun _ _ h => h.elim)).trans hk5 (fun _ _ h => h), fun k hk => ?_⟩, hk5⟩
    rcases hnew k hk with h | h | h | h
    · exact .inl h
    · exact .inr (by omega)
    · exact .inr (by omega)
    · exact .inr (by have := hkw.size; omega)
  have HADD := Lib.hid HADD
  have b1 := (CellsAt.new w1 #[.pointer (some ⟨p, 0, none⟩)] 63).cell 0
  simp only [List.getElem?_toArray, List.getElem?_cons_zero] at b1
  go_wp2_with fail
  refine wp_region_held_drew (S := fun V => V.cell? ⟨w1.heap.size, 0, none⟩ = some (.pointer (some ⟨p, 0, none⟩))) (by kernel_rfl) b1 (fun hHeld => ?_)
  refine wpAnyH_take (i := 0) (v := .pointer (some ⟨m, 0, none⟩)) ops_at0 (by kernel_rfl) (by kernel_rfl) (by kernel_rfl) (fun _ _ _ h => h) (Or.inl ⟨by rfl, fun V hV => ?_⟩) hHeld ?_
  · go_simp
  simp only [Act.put, List.setIfInBounds_toArray, List.set_cons_zero, List.set_cons_succ]
  refine wpAnyH_take (i := 1) (v := .pointer (some ⟨p, 0, none⟩)) ops_at1 (by kernel_rfl) (by kernel_rfl) (by kernel_rfl) (fun _ _ _ h => h) (Or.inl ⟨by rfl, fun V hV => ?_⟩) hHeld ?_
  · go_simp
  simp only [Act.put, List.setIfInBounds_toArray, List.set_cons_zero, List.set_cons_succ]
  refine wpAnyH_take (i := 2) (v := .pointer (some ⟨m, 0, none⟩)) ops_at2 (by kernel_rfl) (by kernel_rfl) (by kernel_rfl) (fun _ _ _ h => h) (Or.inl ⟨by rfl, fun V hV => ?_⟩) hHeld ?_
  · go_simp
  simp only [Act.put, List.setIfInBounds_toArray, List.set_cons_zero, List.set_cons_succ]
  refine wpAnyH_take (i := 3) (v := .pointer (some ⟨m, 0, none⟩)) ops_at3 (by kernel_rfl) (by kernel_rfl) (by kernel_rfl) (fun _ _ _ h => h) (Or.inl ⟨by rfl, fun V hV => ?_⟩) hHeld ?_
  · go_simp
  simp only [Act.put, List.setIfInBounds_toArray, List.set_cons_zero, List.set_cons_succ]
  refine wpAnyH_take (i := 4) (v := .pointer (some ⟨m, 1, none⟩)) ops_at4 (by kernel_rfl) (by kernel_rfl) (by kernel_rfl) (fun _ _ _ h => h) (Or.inl ⟨by rfl, fun V hV => ?_⟩) hHeld ?_
  · go_simp
  simp only [Act.put, List.setIfInBounds_toArray, List.set_cons_zero, List.set_cons_succ]
  refine wpAnyH_ready (rs := [5]) (by kernel_rfl) (by simp) ?_
  refine AllReadyH.cons ops_at5 (fun K hK => ?_) AllReadyH.nil
  rw [if_pos (by rfl)]
  go_simp
  refine hK.out _ _ b1 (fun hHeld => ?_)
  clear hK K
  refine wpAnyH_ready (rs := [6]) (by kernel_rfl) (by simp) ?_
  refine AllReadyH.cons ops_at6 (fun K hK => ?_) AllReadyH.nil
  rw [if_pos (by rfl)]
  go_simp
  have hkd : Keeps (fun _ => False) w (w1.alloc (.cells #[.pointer (some ⟨p, 0, none⟩)] 63)).drew := (HK1.out.alloc _).drew
  refine (HCP.out _ hkd).mono ?_
  rintro e w2 ⟨rfl, hvol, hbel⟩
  go_wp2_with fail
  have hszd : w1.heap.size + 1 ≤ (w1.alloc (.cells #[.pointer (some ⟨p, 0, none⟩)] 63)).drew.heap.size := by show _ ≤ (w1.alloc _).heap.size; simp
  have d0 : w2.cell? ⟨w1.heap.size, 0, none⟩ = some (.pointer (some ⟨p, 0, none⟩)) := (hbel.cell (p := ⟨w1.heap.size, 0, none⟩) (by show w1.heap.size < _; omega)).trans b1
  have hszq : (w1.alloc (.cells #[.pointer (some ⟨p, 0, none⟩)] 63)).drew.heap.size = w1.heap.size + 1 := by show (w1.alloc _).heap.size = _; simp
  rw [hszq] at hvol
  have hA := HADD.out w2 (w1.heap.size + 1 + 1) (w1.heap.size + 1) (by omega) (by omega) hvol (hkd.trans (Keeps.of_below hbel) (fun _ _ h => h))
  have HA := Lib.hid hA; clear hA hvol
  have hz2 : w1.heap.size + 1 ≤ w2.heap.size := Nat.le_trans hszd hbel.size
  clear hbel hkd hszd hszq
  refine hK.out _ _ d0 (fun hHeld2 => ?_)
  clear hK K
  refine wpAnyH_ready (rs := [7]) (by kernel_rfl) (by simp) ?_
  refine AllReadyH.cons ops_at7 (fun K hK => ?_) AllReadyH.nil
  rw [if_pos (by rfl)]
  go_simp
  refine HA.out.mono ?_
  rintro e w5 ⟨⟨r, rv', ps', rfl, hown, hpost⟩, hk5⟩
  obtain ⟨da, dc, rfl, _⟩ := hown.bytes.form
  have HO5 := Lib.hid hown; clear hown
  have HP5 := Lib.hid hpost; clear hpost
  have d5 : w5.cell? ⟨w1.heap.size, 0, none⟩ = some (.pointer (some ⟨p, 0, none⟩)) := (hk5.cell (p := ⟨w1.heap.size, 0, none⟩) (by show w1.heap.size < _; omega) (fun ho => by have : w1.heap.size < w.heap.size := HM.out.lt _ ho; omega)).trans d0
  clear hk5
  go_wp2_with fail
  refine hK.out _ _ d5 (fun hHeld3 => ?_)
  clear hK K
  refine wpAnyH_take (i := 8) (v := .slice da (fourB S.next.toNat).length dc) ops_at8 (by kernel_rfl) (by kernel_rfl) (by kernel_rfl) (fun _ _ _ h => h) (Or.inl ⟨by rfl, fun V hV => ?_⟩) hHeld3 ?_
  · go_simp
  simp only [Act.put, List.setIfInBounds_toArray, List.set_cons_zero, List.set_cons_succ]
  refine wpAnyH_done (by kernel_rfl) ?_ _
  go_wp2_with fail
  go_ret
  refine ⟨_, rv', ps', rfl, ?_, ?_⟩
  · rw [show (changeS S t).1 = fourB S.next.toNat by simp [changeS, hop, hat]]
    exact HO5.out
  · rw [show (changeS S t).2 = S.add ⟨S.next, v.size, v.quota, v.bl⟩ by simp [changeS, hop, hat]]
    exact HP5.out

set_option maxRecDepth 100000 in
set_option maxHeartbeats 6400000 in
theorem change_create [Zs] (m : Nat) (rv : Value) (ps : List (Nat × Nat)) (S : Mo) (t : Tk) (dv : Value) (w : World) (h : ModelIs w m rv ps S) (hlen : ps.length ≤ 8) (hop : t.op = 6) (hlen7 : ps.length ≤ 7) (h0 : 1 ≤ S.next) (h1 : S.next < 1073741824) :
    Calls Try.prog 25 #[.pointer (some ⟨m, 0, none⟩), .agg (t.cells dv)] w (ChPost w m rv ps (changeS S t)) := by
  have hb1 : Below w.heap.size w (w.alloc (.cells (t.cells dv) 30)) := allocBelow w _
  have HF := Lib.hid (find_any m rv ps S t.vol _ (h.below hb1) hlen)
  have hml := h.head.lt
  obtain ⟨pv, hpv⟩ : ∃ pv, pv = ptrOf ps (S.find t.vol) := ⟨_, rfl⟩
  rw [← hpv] at HF
  clear hpv
  have c0 := fun j => (CellsAt.new w (t.cells dv) 30).cell j
  have HC0 := Lib.hid c0
  have HM := Lib.hid h
  clear h c0
  unfold Tk.cells at HC0 HF ⊢
  rw [hop] at HC0 HF ⊢
  go_enter Try.func25, Try.ntmps25
  go_wp2_with fail
  refine HF.out.mono ?_
  rintro e w1 ⟨rfl, hb2⟩
  have hz1 : w.heap.size + 1 ≤ w1.heap.size := by have := hb2.size; simpa using this
  have hk1 : Keeps (fun _ => False) w w1 := ((Keeps.refl _ w).alloc _).trans (Keeps.of_below hb2) (fun _ _ h => h)
  have c1 := fun j => (hb2.cell (p := ⟨w.heap.size, j, none⟩) (by simp)).trans (HC0.out j)
  have HM1 := Lib.hid (HM.out.keeps hk1 (fun _ _ h => h) (fun _ _ _ h => h))
  have HK1 := Lib.hid hk1; clear hk1 hb2
  have hT1 : w.heap.size < w1.heap.size := by omega
  have e2 := fun o => (World.cell?_alloc_lt w1 o ⟨w.heap.size, 2, none⟩ hT1).trans (c1 2)
  have e6 := fun o => (World.cell?_alloc_lt w1 o ⟨w.heap.size, 6, none⟩ hT1).trans (c1 6)
  have e7 := fun o => (World.cell?_alloc_lt w1 o ⟨w.heap.size, 7, none⟩ hT1).trans (c1 7)
  have e8 := fun o => (World.cell?_alloc_lt w1 o ⟨w.heap.size, 8, none⟩ hT1).trans (c1 8)
  have e9 := fun o => (World.cell?_alloc_lt w1 o ⟨w.heap.size, 9, none⟩ hT1).trans (c1 9)
  simp only [List.getElem?_toArray, List.getElem?_cons_zero, List.getElem?_cons_succ] at e2 e6 e7 e8 e9
  clear c1
  have hml1 : m < w1.heap.size := by omega
  have hm1 := HM1.out.head.cell 1
  simp only [Mo.cells, List.getElem?_toArray, List.getElem?_cons_zero, List.getElem?_cons_succ] at hm1
  have m1 := fun o => (World.cell?_alloc_lt w1 o ⟨m, 1, none⟩ hml1).trans hm1
  have m1d := m1 (.cells #[.pointer pv] 63)
  have hmm := @run_makeMap Try.prog
  have HADD : ∀ W P M, w1.heap.size ≤ P → w1.heap.size ≤ M → VolAt W P M ⟨S.next, t.siz, t.quo, []⟩ → Keeps (fun _ => False) w W →
      Calls Try.prog 36 #[.pointer (some ⟨m, 0, none⟩), .pointer (some ⟨P, 0, none⟩)] W (fun e w' => ChPost w m rv ps (fourB S.next.toNat, S.add ⟨S.next, t.siz, t.quo, []⟩) e w' ∧ Keeps (Own m rv ps) W w') := by
    intro W P M hP hM hv hkw
    have hno : ∀ x, w1.heap.size ≤ x → ¬ Own m rv ps x := fun x hx ho => by have := HM.out.lt x ho; omega
    refine (added_any m rv ps S P M ⟨S.next, t.siz, t.quo, []⟩ W (HM.out.keeps hkw (fun _ _ h => h) (fun _ _ _ h => h)) hv (hno _ hP) (hno _ hM) hlen7 rfl h0 h1).mono ?_
    rintro e w5 ⟨r, rv', rfl, hown, hmod, hk5, hnew⟩
    refine ⟨⟨r, rv', _, rfl, hown.mono hkw.size, hmod, (hkw.mono (fun _ _ h => h.elim)).trans hk5 (fun _ _ h => h), fun k hk => ?_⟩, hk5⟩
    rcases hnew k hk with h | h | h | h
    · exact .inl h
    · exact .inr (by omega)
    · exact .inr (by omega)
    · exact .inr (by have := hkw.size; omega)
  have HADD := Lib.hid HADD
  have hk8 : ∀ o1 o2, ((w1.alloc (.cells #[.pointer pv] 63)).drew.alloc o1).cell? ⟨w.heap.size, 8, none⟩ = some (.int .i64 t.siz) ∧ (((w1.alloc (.cells #[.pointer pv] 63)).drew.alloc o1).alloc o2).cell? ⟨w.heap.size, 8, none⟩ = some (.int .i64 t.siz) := fun o1 o2 => by
    have x1 : ((w1.alloc (.cells #[.pointer pv] 63)).drew.alloc o1).cell? ⟨w.heap.size, 8, none⟩ = some (.int .i64 t.siz) := (World.cell?_alloc_lt (w1.alloc (.cells #[.pointer pv] 63)).drew o1 ⟨w.heap.size, 8, none⟩ (by show w.heap.size < (w1.alloc _).heap.size; simp; omega)).trans (e8 _)
    exact ⟨x1, (World.cell?_alloc_lt _ o2 ⟨w.heap.size, 8, none⟩ (block_lt x1)).trans x1⟩
  have hk9 : ∀ o1 o2, ((w1.alloc (.cells #[.pointer pv] 63)).drew.alloc o1).cell? ⟨w.heap.size, 9, none⟩ = some (.int .i64 t.quo) ∧ (((w1.alloc (.cells #[.pointer pv] 63)).drew.alloc o1).alloc o2).cell? ⟨w.heap.size, 9, none⟩ = some (.int .i64 t.quo) := fun o1 o2 => by
    have x1 : ((w1.alloc (.cells #[.pointer pv] 63)).drew.alloc o1).cell? ⟨w.heap.size, 9, none⟩ = some (.int .i64 t.quo) := (World.cell?_alloc_lt (w1.alloc (.cells #[.pointer pv] 63)).drew o1 ⟨w.heap.size, 9, none⟩ (by show w.heap.size < (w1.alloc _).heap.size; simp; omega)).trans (e9 _)
    exact ⟨x1, (World.cell?_alloc_lt _ o2 ⟨w.heap.size, 9, none⟩ (block_lt x1)).trans x1⟩
  have k8 := hk8 (.map #[] 0) (.cells #[.int .i64 S.next, .int .i64 t.siz, .int .i64 t.quo, .map (some (w1.heap.size + 1))] 66)
  have k9 := hk9 (.map #[] 0) (.cells #[.int .i64 S.next, .int .i64 t.siz, .int .i64 t.quo, .map (some (w1.heap.size + 1))] 66)
  have hA := HADD.out (((w1.alloc (.cells #[.pointer pv] 63)).drew.alloc (.map #[] 0)).alloc (.cells #[.int .i64 S.next, .int .i64 t.siz, .int .i64 t.quo, .map (some (w1.heap.size + 1))] 66)) (w1.heap.size + 1 + 1) (w1.heap.size + 1) (by omega) (by omega)
    ⟨heap_at (by simp), [], ⟨#[], 0, (Below.heap_alloc _ _ _ (by simp)).trans (heap_at (by simp)), rfl, Stamps.nil⟩, rfl, fun e he => by cases he⟩ ((((HK1.out.alloc _).drew).alloc _).alloc _)
  have HA := Lib.hid hA; clear hA hk8 hk9
  have m1e : ((w1.alloc (.cells #[.pointer pv] 63)).drew.alloc (.map #[] 0)).cell? ⟨m, 1, none⟩ = some (.int .i64 S.next) := (World.cell?_alloc_lt (w1.alloc (.cells #[.pointer pv] 63)).drew _ ⟨m, 1, none⟩ (by show m < (w1.alloc _).heap.size; simp; omega)).trans m1d
  have K8 := Lib.hid k8; clear k8
  have K9 := Lib.hid k9; clear k9
  have M1E := Lib.hid m1e; clear m1e
  clear m1d hm1
  go_wp2_with fail
  have k8 := K8.out
  have k9 := K9.out
  have m1e := M1E.out
  refine wp_region_held_drew (S := fun V => V.cell? ⟨w.heap.size, 8, none⟩ = some (.int .i64 t.siz) ∧ V.cell? ⟨w.heap.size, 9, none⟩ = some (.int .i64 t.quo)) (by kernel_rfl) ⟨e8 _, e9 _⟩ (fun hHeld => ?_)
  refine wpAnyH_take (i := 0) (v := .pointer (some ⟨m, 0, none⟩)) ops_at0 (by kernel_rfl) (by kernel_rfl) (by kernel_rfl) (fun _ _ _ h => h) (Or.inl ⟨by rfl, fun V hV => ?_⟩) hHeld ?_
  · go_simp
  simp only [Act.put, List.setIfInBounds_toArray, List.set_cons_zero, List.set_cons_succ]
  refine wpAnyH_take (i := 1) (v := .pointer (some ⟨m, 0, none⟩)) ops_at1 (by kernel_rfl) (by kernel_rfl) (by kernel_rfl) (fun _ _ _ h => h) (Or.inl ⟨by rfl, fun V hV => ?_⟩) hHeld ?_
  · go_simp
  simp only [Act.put, List.setIfInBounds_toArray, List.set_cons_zero, List.set_cons_succ]
  refine wpAnyH_take (i := 2) (v := .pointer (some ⟨m, 0, none⟩)) ops_at2 (by kernel_rfl) (by kernel_rfl) (by kernel_rfl) (fun _ _ _ h => h) (Or.inl ⟨by rfl, fun V hV => ?_⟩) hHeld ?_
  · go_simp
  simp only [Act.put, List.setIfInBounds_toArray, List.set_cons_zero, List.set_cons_succ]
  refine wpAnyH_take (i := 3) (v := .pointer (some ⟨m, 1, none⟩)) ops_at3 (by kernel_rfl) (by kernel_rfl) (by kernel_rfl) (fun _ _ _ h => h) (Or.inl ⟨by rfl, fun V hV => ?_⟩) hHeld ?_
  · go_simp
  simp only [Act.put, List.setIfInBounds_toArray, List.set_cons_zero, List.set_cons_succ]
  refine wpAnyH_take (i := 5) (v := .pointer (some ⟨w.heap.size, 8, none⟩)) ops_at5 (by kernel_rfl) (by kernel_rfl) (by kernel_rfl) (fun _ _ _ h => h) (Or.inl ⟨by rfl, fun V hV => ?_⟩) hHeld ?_
  · go_simp
  simp only [Act.put, List.setIfInBounds_toArray, List.set_cons_zero, List.set_cons_succ]
  refine wpAnyH_take (i := 6) (v := .int .i64 t.siz) ops_at6 (by kernel_rfl) (by kernel_rfl) (by kernel_rfl) (fun _ _ _ h => h) (Or.inl ⟨by rfl, fun V hV => ?_⟩) hHeld ?_
  · obtain ⟨q0, q1⟩ := hV
    go_simp
  simp only [Act.put, List.setIfInBounds_toArray, List.set_cons_zero, List.set_cons_succ]
  refine wpAnyH_take (i := 7) (v := .pointer (some ⟨w.heap.size, 9, none⟩)) ops_at7 (by kernel_rfl) (by kernel_rfl) (by kernel_rfl) (fun _ _ _ h => h) (Or.inl ⟨by rfl, fun V hV => ?_⟩) hHeld ?_
  · go_simp
  simp only [Act.put, List.setIfInBounds_toArray, List.set_cons_zero, List.set_cons_succ]
  refine wpAnyH_take (i := 8) (v := .int .i64 t.quo) ops_at8 (by kernel_rfl) (by kernel_rfl) (by kernel_rfl) (fun _ _ _ h => h) (Or.inl ⟨by rfl, fun V hV => ?_⟩) hHeld ?_
  · obtain ⟨q0, q1⟩ := hV
    go_simp
  simp only [Act.put, List.setIfInBounds_toArray, List.set_cons_zero, List.set_cons_succ]
  refine wpAnyH_ready (rs := [4, 9]) (by kernel_rfl) (by simp) ?_
  refine AllReadyH.cons ops_at4 (fun K hK => ?_) (AllReadyH.cons ops_at9 (fun K hK => ?_) AllReadyH.nil)
  · rw [if_pos (by rfl)]
    go_simp
    refine hK.out _ _ ⟨e8 _, e9 _⟩ (fun hHeld => ?_)
    clear hK K
    refine wpAnyH_ready (rs := [9]) (by kernel_rfl) (by simp) ?_
    refine AllReadyH.cons ops_at9 (fun K hK => ?_) AllReadyH.nil
    rw [if_pos (by rfl)]
    go_simp
    refine hK.out _ _ ⟨k8.1, k9.1⟩ (fun hHeld => ?_)
    clear hK K
    refine wpAnyH_take (i := 10) (v := .agg #[.int .i64 S.next, .int .i64 t.siz, .int .i64 t.quo, .map (some (w1.heap.size + 1))]) ops_at10 (by kernel_rfl) (by kernel_rfl) (by kernel_rfl) (fun _ _ _ h => h) (Or.inl ⟨by rfl, fun V hV => ?_⟩) hHeld ?_
    · go_simp
    simp only [Act.put, List.setIfInBounds_toArray, List.set_cons_zero, List.set_cons_succ]
    refine wpAnyH_ready (rs := [11]) (by kernel_rfl) (by simp) ?_
    refine AllReadyH.cons ops_at11 (fun K hK => ?_) AllReadyH.nil
    rw [if_pos (by rfl)]
    go_simp
    refine hK.out _ _ ⟨k8.2, k9.2⟩ (fun hHeld => ?_)
    clear hK K
    refine wpAnyH_ready (rs := [12]) (by kernel_rfl) (by simp) ?_
    refine AllReadyH.cons ops_at12 (fun K hK => ?_) AllReadyH.nil
    rw [if_pos (by rfl)]
    go_simp
    refine HA.out.mono ?_
    rintro e w5 ⟨⟨r, rv', ps', rfl, hown, hpost⟩, hk5⟩
    obtain ⟨da, dc, rfl, _⟩ := hown.bytes.form
    have HO5 := Lib.hid hown; clear hown
    have HP5 := Lib.hid hpost; clear hpost
    have f8 : w5.cell? ⟨w.heap.size, 8, none⟩ = some (.int .i64 t.siz) := (hk5.cell (p := ⟨w.heap.size, 8, none⟩) (by simp; omega) (fun ho => by have : w.heap.size < w.heap.size := HM.out.lt _ ho; omega)).trans k8.2
    have f9 : w5.cell? ⟨w.heap.size, 9, none⟩ = some (.int .i64 t.quo) := (hk5.cell (p := ⟨w.heap.size, 9, none⟩) (by simp; omega) (fun ho => by have : w.heap.size < w.heap.size := HM.out.lt _ ho; omega)).trans k9.2
    clear hk5
    go_wp2_with fail
    refine hK.out _ _ ⟨f8, f9⟩ (fun hHeld3 => ?_)
    clear hK K
    refine wpAnyH_take (i := 13) (v := .slice da (fourB S.next.toNat).length dc) ops_at13 (by kernel_rfl) (by kernel_rfl) (by kernel_rfl) (fun _ _ _ h => h) (Or.inl ⟨by rfl, fun V hV => ?_⟩) hHeld3 ?_
    · go_simp
    simp only [Act.put, List.setIfInBounds_toArray, List.set_cons_zero, List.set_cons_succ]
    refine wpAnyH_done (by kernel_rfl) ?_ _
    go_wp2_with fail
    go_ret
    refine ⟨_, rv', ps', rfl, ?_, ?_⟩
    · rw [show (changeS S t).1 = fourB S.next.toNat by simp [changeS, hop]]
      exact HO5.out
    · rw [show (changeS S t).2 = S.add ⟨S.next, t.siz, t.quo, []⟩ by simp [changeS, hop]]
      exact HP5.out
  · rw [if_pos (by rfl)]
    go_simp
    refine hK.out _ _ ⟨k8.1, k9.1⟩ (fun hHeld => ?_)
    clear hK K
    refine wpAnyH_ready (rs := [4]) (by kernel_rfl) (by simp) ?_
    refine AllReadyH.cons ops_at4 (fun K hK => ?_) AllReadyH.nil
    rw [if_pos (by rfl)]
    go_simp
    refine hK.out _ _ ⟨k8.1, k9.1⟩ (fun hHeld => ?_)
    clear hK K
    refine wpAnyH_take (i := 10) (v := .agg #[.int .i64 S.next, .int .i64 t.siz, .int .i64 t.quo, .map (some (w1.heap.size + 1))]) ops_at10 (by kernel_rfl) (by kernel_rfl) (by kernel_rfl) (fun _ _ _ h => h) (Or.inl ⟨by rfl, fun V hV => ?_⟩) hHeld ?_
    · go_simp
    simp only [Act.put, List.setIfInBounds_toArray, List.set_cons_zero, List.set_cons_succ]
    refine wpAnyH_ready (rs := [11]) (by kernel_rfl) (by simp) ?_
    refine AllReadyH.cons ops_at11 (fun K hK => ?_) AllReadyH.nil
    rw [if_pos (by rfl)]
    go_simp
    refine hK.out _ _ ⟨k8.2, k9.2⟩ (fun hHeld => ?_)
    clear hK K
    refine wpAnyH_ready (rs := [12]) (by kernel_rfl) (by simp) ?_
    refine AllReadyH.cons ops_at12 (fun K hK => ?_) AllReadyH.nil
    rw [if_pos (by rfl)]
    go_simp
    refine HA.out.mono ?_
    rintro e w5 ⟨⟨r, rv', ps', rfl, hown, hpost⟩, hk5⟩
    obtain ⟨da, dc, rfl, _⟩ := hown.bytes.form
    have HO5 := Lib.hid hown; clear hown
    have HP5 := Lib.hid hpost; clear hpost
    have f8 : w5.cell? ⟨w.heap.size, 8, none⟩ = some (.int .i64 t.siz) := (hk5.cell (p := ⟨w.heap.size, 8, none⟩) (by simp; omega) (fun ho => by have : w.heap.size < w.heap.size := HM.out.lt _ ho; omega)).trans k8.2
    have f9 : w5.cell? ⟨w.heap.size, 9, none⟩ = some (.int .i64 t.quo) := (hk5.cell (p := ⟨w.heap.size, 9, none⟩) (by simp; omega) (fun ho => by have : w.heap.size < w.heap.size := HM.out.lt _ ho; omega)).trans k9.2
    clear hk5
    go_wp2_with fail
    refine hK.out _ _ ⟨f8, f9⟩ (fun hHeld3 => ?_)
    clear hK K
    refine wpAnyH_take (i := 13) (v := .slice da (fourB S.next.toNat).length dc) ops_at13 (by kernel_rfl) (by kernel_rfl) (by kernel_rfl) (fun _ _ _ h => h) (Or.inl ⟨by rfl, fun V hV => ?_⟩) hHeld3 ?_
    · go_simp
    simp only [Act.put, List.setIfInBounds_toArray, List.set_cons_zero, List.set_cons_succ]
    refine wpAnyH_done (by kernel_rfl) ?_ _
    go_wp2_with fail
    go_ret
    refine ⟨_, rv', ps', rfl, ?_, ?_⟩
    · rw [show (changeS S t).1 = fourB S.next.toNat by simp [changeS, hop]]
      exact HO5.out
    · rw [show (changeS S t).2 = S.add ⟨S.next, t.siz, t.quo, []⟩ by simp [changeS, hop]]
      exact HP5.out
end Go.Proofs.Ytmanldcohbegkaa
