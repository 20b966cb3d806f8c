/-
  The document's model: Do. (Written by gen_rfdo.py.)
-/
import Derived.Test.YtmanldcohbegkaaRfDoMath
import Derived.RegionTactic
import Derived.ChangeAlike
namespace Go.Proofs.Ytmanldcohbegkaa
open Go.RowKit

theorem rdo_ne {V : World} {r b : Nat} {lv : Value} {vs : List (Vo × Value)} {S : Mo} {W : Nat → Prop} {cs : Array Value} {T : TypeId} (hV : RefIs V r lv vs S W) (hc : CellsAt V b cs T) (hT : T = 35 ∨ T = 30) : ¬ (b = r ∨ lv.ownBlock = some b) := by
  unfold CellsAt at hc
  rintro (e | e)
  · have h1 := hV.head
    unfold CellsAt at h1
    rw [← e, hc] at h1
    rcases hT with rfl | rfl <;> simp at h1
  · obtain ⟨cur, h1⟩ := rowBlockT hV.row e
    rw [h1] at hc
    rcases hT with rfl | rfl <;> simp at hc
theorem rdo_sf (bad : Bool) (s status : Int) : (if bad = true ∧ s = 0 then status else s) = if (bad && (s == 0)) = true then status else s := by cases bad <;> simp
set_option maxRecDepth 100000 in
set_option maxHeartbeats 12800000 in
theorem rdo_any (r : Nat) (lv : Value) (vs : List (Vo × Value)) (S : Mo) (W : Nat → Prop) (t : Tk) (da : Option Addr) (dn dc : Nat) (status done : Int) (w : World) (h : RefIs w r lv vs S W) (hg : Good S) (hdn : dn = t.data.length) (hd : BytesAt w (.slice da dn dc) t.data) (hdc : dn ≤ dc) (hdl : t.data.length ≤ 140737488355328) (hdw : LiesIn (.slice da dn dc) fun x => ¬ W x) :
    Calls Try.prog 14 #[.pointer (some ⟨r, 0, none⟩), .agg (t.cells (.slice da dn dc)), .int .i64 status, .int .i64 done] w (RDoPost w r lv W t (doS S t status done)) := by
  obtain ⟨bad, hbad⟩ : ∃ bad, rtrB t.op status = bad := ⟨_, rfl⟩
  obtain ⟨lost, hlost⟩ : ∃ lost, (bad && decide (status ≠ 12)) = lost := ⟨_, rfl⟩
  have HFORM := Lib.hid (rdo_form S t status done bad lost hbad hlost)
  have HDS := Lib.hid (fun (hb : troubleB t.op status = bad) => doS_form S t status done bad lost hb hlost)
  obtain ⟨rs, hrs⟩ : ∃ rs, rs = refuseS S t lost := ⟨_, rfl⟩
  obtain ⟨w2, hw2⟩ : ∃ w2, w2 = ((w.alloc (.cells (t.cells (.slice da dn dc)) 30)).alloc (.cells #[.int .i64 0, .int .i64 0, .int .i64 0, .int .i64 0, .slice none 0 0] 35)).alloc (.cells #[.int .i64 t.cmd, .int .i64 t.tag, .int .i64 0, .int .i64 0, .slice none 0 0] 35) := ⟨_, rfl⟩
  obtain ⟨w1, hw1⟩ : ∃ w1, w1 = (w.alloc (.cells (t.cells (.slice da dn dc)) 30)).alloc (.cells #[.int .i64 0, .int .i64 0, .int .i64 0, .int .i64 0, .slice none 0 0] 35) := ⟨_, rfl⟩
  rw [← hw1] at hw2
  have hs1 : w1.heap.size = w.heap.size + 1 + 1 := by rw [hw1]; simp
  have hb1 : Below w.heap.size w w1 := by rw [hw1]; exact (allocBelow w _).trans ((allocBelow _ _).mono (by simp))
  have ht1 : CellsAt w1 w.heap.size (t.cells (.slice da dn dc)) 30 := by rw [hw1]; exact CellsAt.later (CellsAt.new w _ 30) (allocBelow _ _)
  have hr1 : CellsAt w1 (w.heap.size + 1) #[.int .i64 0, .int .i64 0, .int .i64 0, .int .i64 0, .slice none 0 0] 35 := by rw [hw1]; exact heap_at (by simp)
  have hb2 : Below w.heap.size w w2 := by rw [hw2]; exact hb1.trans ((allocBelow _ _).mono (by omega))
  have ht2 : CellsAt w2 w.heap.size (t.cells (.slice da dn dc)) 30 := by rw [hw2]; exact ht1.later (allocBelow _ _)
  have hr2 : CellsAt w2 (w.heap.size + 1) #[.int .i64 0, .int .i64 0, .int .i64 0, .int .i64 0, .slice none 0 0] 35 := by rw [hw2]; exact hr1.later (allocBelow _ _)
  have ho2 : CellsAt w2 (w.heap.size + 1 + 1) #[.int .i64 t.cmd, .int .i64 t.tag, .int .i64 0, .int .i64 0, .slice none 0 0] 35 := by rw [hw2]; exact heap_at (by omega)
  have hs2 : w.heap.size + 1 + 1 + 1 ≤ w2.heap.size := by rw [hw2]; simp [hs1]
  have HTR := Lib.hid (rtrouble_any t.op status w2)
  rw [hbad] at HTR
  have hrf := rrefusal_any r lv vs S W t da dc lost w2 (h.below hb2) hg hdl
  rw [← hrs, ← hdn] at hrf
  have HW := Lib.hid h.lt
  have HB2 := Lib.hid hb2; clear hb2
  have HT2 := Lib.hid ht2; clear ht2
  have HR2 := Lib.hid hr2; clear hr2
  have HO2 := Lib.hid ho2; clear ho2
  have H := Lib.hid h; clear h
  have HRS := Lib.hid hrs; clear hrs
  have HD := Lib.hid hd; clear hd
  have HDW := Lib.hid hdw; clear hdw
  have HDN := Lib.hid hdn; clear hdn
  have HLO := Lib.hid hlost
  have cT1 := fun j => ht1.cell j
  unfold Tk.cells at hw1 hrf cT1 ⊢
  have HRF := Lib.hid hrf; clear hrf
  have t0 := cT1 0
  have t1 := cT1 1
  simp only [List.getElem?_toArray, List.getElem?_cons_zero, List.getElem?_cons_succ] at t0 t1
  clear cT1 ht1 hr1 hb1 hbad
  go_enter Try.func14, Try.ntmps14
  go_upto_region 1 with fail
  rw [← hw1]
  clear hw1
  go_upto_region 2 with fail
  rw [← hw2]
  clear hw2 t0 t1 hs1
  have t2 := HT2.out.cell 2
  simp only [Tk.cells, List.getElem?_toArray, List.getElem?_cons_zero, List.getElem?_cons_succ] at t2
  go_upto_region 3 with (go_at_call 26; refine HTR.out.mono ?_; rintro e w3 ⟨rfl, rfl⟩)
  clear HTR
  go_cut [10] (fun b V => b = .bool bad ∧ CellsAt V (w.heap.size + 1 + 1) #[.int .i64 t.cmd, .int .i64 t.tag, .int .i64 rs, .int .i64 0, .slice none 0 0] 35 ∧ Keeps (fun x => x = w.heap.size + 1 + 1) w2 V)
  case first =>
    as_aux_lemma =>
      have q0 := HT2.out.cell 0
      have q1 := HT2.out.cell 1
      have q3 := HT2.out.cell 3
      have q4 := HT2.out.cell 4
      have q5 := HT2.out.cell 5
      have q6 := HT2.out.cell 6
      have q7 := HT2.out.cell 7
      have q8 := HT2.out.cell 8
      have q9 := HT2.out.cell 9
      have q10 := HT2.out.cell 10
      simp only [Tk.cells, List.getElem?_toArray, List.getElem?_cons_zero, List.getElem?_cons_succ] at q0 q1 q3 q4 q5 q6 q7 q8 q9 q10
      have hcase : (bad = false ∧ lost = false) ∨ (bad = true ∧ (status != 12) = true ∧ lost = true) ∨ (bad = true ∧ (status != 12) = false ∧ lost = false) := by
        cases bad
        · exact .inl ⟨rfl, by rw [← hlost]; rfl⟩
        · by_cases hs : status = 12
          · exact .inr (.inr ⟨rfl, by simp [hs], by rw [← hlost]; simp [hs]⟩)
          · exact .inr (.inl ⟨rfl, by simp [hs], by rw [← hlost]; simp [hs]⟩)
      clear hlost
      rcases hcase with ⟨rfl, rfl⟩ | ⟨rfl, hst, rfl⟩ | ⟨rfl, hst, rfl⟩
      all_goals
        go_wp2_with fail
        refine HRF.out.mono ?_
        rintro e w3 ⟨rfl, hb3⟩
        have ho3 := HO2.out.below hb3 HO2.out.lt
        have e2 := ho3.cell 2
        have f2 := ho3.free 2
        simp only [List.getElem?_toArray, List.getElem?_cons_zero, List.getElem?_cons_succ] at e2
        go_wp2_with fail
        go_meet
        refine ⟨rfl, ?_, (Keeps.of_below (F := fun x => x = w.heap.size + 1 + 1) hb3).setCell (p := ⟨w.heap.size + 1 + 1, 2, none⟩) (fun _ => rfl) _⟩
        have := ho3.set 2 (.int .i64 rs)
        simpa using this
  obtain ⟨rfl, ho4, hk4⟩ := hcut
  obtain ⟨w4, hw4⟩ : ∃ w4, w4 = wc := ⟨_, rfl⟩
  rw [← hw4] at ho4 hk4 ⊢
  clear hw4 hlost HRF t2
  have HB4 := Lib.hid (HB2.out.trans (hk4.below (by omega) (fun x hx h => by omega)))
  have HT4 := Lib.hid (HT2.out.keeps hk4 (by omega))
  have HR4 := Lib.hid (HR2.out.keeps hk4 (by omega))
  have HO4 := Lib.hid ho4
  have hs4 : w.heap.size + 1 + 1 + 1 ≤ w4.heap.size := by have := hk4.size; omega
  have HRI := Lib.hid (H.out.below HB4.out)
  have HK4 := Lib.hid (show Keeps (fun y => y = r ∨ lv.ownBlock = some y) w w4 from Keeps.of_below HB4.out)
  clear ho4 hk4 HB2 HT2 HR2 HO2 hs2
  by_cases hr0 : rs = 0
  rotate_left
  · have bst : (rs != 0) = true := by simp [hr0]
    have o0 := HO4.out.cell 0
    have o1 := HO4.out.cell 1
    have o2 := HO4.out.cell 2
    have o3 := HO4.out.cell 3
    have o4 := HO4.out.cell 4
    simp only [List.getElem?_toArray, List.getElem?_cons_zero, List.getElem?_cons_succ] at o0 o1 o2 o3 o4
    have c0 := HR4.out.cell 0
    have c1 := HR4.out.cell 1
    have c2 := HR4.out.cell 2
    have c3 := HR4.out.cell 3
    have c4 := HR4.out.cell 4
    have fc0 := HR4.out.free 0
    have fc1 := HR4.out.free 1
    have fc2 := HR4.out.free 2
    have fc3 := HR4.out.free 3
    have fc4 := HR4.out.free 4
    simp only [List.getElem?_toArray, List.getElem?_cons_zero, List.getElem?_cons_succ] at c0 c1 c2 c3 c4
    have hq : doS S t status done = (⟨t.cmd, t.tag, rs, 0, []⟩, S) := by
      rcases HFORM.out with ⟨_, e⟩ | ⟨e, _⟩
      · rw [HRS.out]; exact e
      · exact absurd (HRS.out.trans e) hr0
    have HQ := Lib.hid hq; clear hq hr0
    go_wp2_with fail
    refine bodyPost_ret (v := .agg (replyCells t rs 0 (.slice none 0 0))) (results_cell (b := w.heap.size + 1) (cs := (replyCells t rs 0 (.slice none 0 0)).toList) rfl _ rfl (do_store HR4.out t rs 0 (.slice none 0 0)).1.range Try.underlying35 rfl (by kernel_rfl)) rfl ?_
    exact rdo_end HRI.out HR4.out HK4.out (fun y hy => .inl hy) HW.out (Owns.nil _ _) HQ.out
  subst hr0
  clear HK4
  have hok : refuseS S t lost = 0 ∧ troubleB t.op status = bad ∧ 1 ≤ t.op ∧ t.op ≤ 10 := by
    rcases HFORM.out with ⟨e, _⟩ | e
    · exact absurd HRS.out.symm e
    · exact e
  obtain ⟨hr0, hbt, hop1, hop2⟩ := hok
  have hds := HDS.out hbt
  rw [if_neg (by simp [hr0])] at hds
  have HDF := Lib.hid hds; clear hds hbt HDS HFORM HRS
  have HR0 := Lib.hid hr0; clear hr0
  have t2 := HT4.out.cell 2
  have t7 := HT4.out.cell 7
  simp only [Tk.cells, List.getElem?_toArray, List.getElem?_cons_zero, List.getElem?_cons_succ] at t2 t7
  have o2 := HO4.out.cell 2
  simp only [List.getElem?_toArray, List.getElem?_cons_zero, List.getElem?_cons_succ] at o2
  go_upto_region 6 with fail
  clear o2
  have HTA := Lib.hid (fun j => HT4.out.cell j)
  by_cases h35 : t.op = 3 ∨ t.op = 5
  · skip
    obtain ⟨i, v, hat, k1, k8, l0, l1, l2⟩ := refuse_blocks HR0.out (h35.elim (fun e => .inl e) (fun e => .inr (.inr e)))
    have hsz := hg.size v (List.mem_of_getElem? (Mo.at_some hat).2)
    obtain ⟨nI, hnI⟩ : ∃ nI : Int, nI = if lost then min (max done 0) t.cnt else t.cnt := ⟨_, rfl⟩
    obtain ⟨n, hn⟩ : ∃ n : Nat, (n : Int) = nI := ⟨nI.toNat, by rw [hnI]; cases lost <;> simp <;> omega⟩
    have hn2 : (n : Int) ≤ t.cnt := by rw [hn, hnI]; cases lost <;> simp; omega
    have hds := HDF.out
    rw [if_pos h35, ← hnI, ← hn, Int.toNat_natCast] at hds
    have hbl := rblock_any r lv vs S W t da dc i v n w4 HRI.out hg hat h35 hn2 k8 l0 (by omega) (by rw [← HDN.out]; exact HD.out.later (HB4.out)) (by rw [← HDN.out]; exact hdc) (fun e => refuse_data HR0.out e) (by rw [← HDN.out]; exact HDW.out)
    rw [← HDN.out] at hbl
    unfold Tk.cells at hbl
    rw [hn] at hbl
    have HBL := Lib.hid hbl; clear hbl
    have HDQ := Lib.hid hds; clear hds
    have HNI := Lib.hid hnI; clear hnI hn hn2 hsz k1 k8 l0 l1 l2 hat hop1 hop2 HDF HR0
    have hb1 : (t.op == 3) = true ∨ ((t.op == 3) = false ∧ (t.op == 5) = true) := by
      rcases h35 with e | e
      · exact .inl (by simp [e])
      · exact .inr ⟨by simp [e], by simp [e]⟩
    clear h35
    go_cut [44] (fun b V => b = .bool true ∧ w4 = V)
    case first =>
      as_aux_lemma =>
        rcases hb1 with e1 | ⟨e1, e2⟩
        all_goals
          go_wp2_with fail
          go_meet
          exact ⟨rfl, rfl⟩
    obtain ⟨rfl, rfl⟩ := hcut
    clear hb1 t2
    go_upto_region 8 with fail
    go_cut [51] (fun b V => b = .bool lost ∧ w4 = V)
    case first =>
      as_aux_lemma =>
        have hl := HLO.out
        cases bad with
        | false =>
          have HL := Lib.hid (show lost = false by rw [← hl]; rfl); clear hl
          go_wp2_with fail
          go_meet
          exact ⟨by rw [HL.out], rfl⟩
        | true =>
          by_cases hs : status = 12
          · have e2 : (status != 12) = false := by simp [hs]
            have HL := Lib.hid (show lost = false by rw [← hl]; simp [hs]); clear hl hs
            go_wp2_with fail
            go_meet
            exact ⟨by rw [HL.out], rfl⟩
          · have e2 : (status != 12) = true := by simp [hs]
            have HL := Lib.hid (show lost = true by rw [← hl]; simp [hs]); clear hl hs
            go_wp2_with fail
            go_meet
            exact ⟨by rw [HL.out], rfl⟩
    obtain ⟨rfl, rfl⟩ := hcut
    go_upto_if 51 with fail
    go_cut [11] (fun b V => b = .int .i64 nI ∧ w4 = V)
    case first =>
      as_aux_lemma =>
        cases lost with
        | false =>
          go_wp2_with fail
          go_meet
          exact ⟨by rw [HNI.out]; rfl, rfl⟩
        | true =>
          have HL := Lib.hid (show nI = min (max done 0) t.cnt by rw [HNI.out, if_pos rfl])
          go_wp2_with fail
          all_goals
            go_meet
            refine ⟨?_, rfl⟩
            rw [HL.out]
            congr 1
            omega
    obtain ⟨rfl, rfl⟩ := hcut
    have q0 := HTA.out 0
    have q1 := HTA.out 1
    have q3 := HTA.out 3
    have q4 := HTA.out 4
    have q5 := HTA.out 5
    have q6 := HTA.out 6
    have q8 := HTA.out 8
    have q9 := HTA.out 9
    have q10 := HTA.out 10
    simp only [Tk.cells, List.getElem?_toArray, List.getElem?_cons_zero, List.getElem?_cons_succ] at q0 q1 q3 q4 q5 q6 q8 q9 q10
    have q2 := HTA.out 2
    simp only [Tk.cells, List.getElem?_toArray, List.getElem?_cons_zero, List.getElem?_cons_succ] at q2
    go_wp2_with fail
    refine HBL.out.mono ?_
    rintro e w5 ⟨k, s, hks, rfl, vs5, W5, href5, hk5, hw5⟩
    clear HBL q0 q1 q2 q3 q4 q5 q6 q8 q9 q10 t7
    have hno : ∀ {b : Nat} {cs : Array Value} {T : TypeId}, CellsAt w4 b cs T → T = 35 ∨ T = 30 → ¬ lv.ownBlock = some b := fun {b cs T} hc hT e => by
      obtain ⟨cur, h1⟩ := rowBlockT HRI.out.row e
      unfold CellsAt at hc
      rw [h1] at hc
      rcases hT with rfl | rfl <;> simp at hc
    have ho5 := HO4.out.keeps hk5 (hno HO4.out (.inl rfl))
    have hr5 := HR4.out.keeps hk5 (hno HR4.out (.inl rfl))
    have HKS := Lib.hid hks; clear hks
    have HRF5 := Lib.hid href5; clear href5
    have HKW5 := Lib.hid (show Keeps (fun y => y = r ∨ lv.ownBlock = some y) w w5 from (Keeps.of_below (F := fun y => y = r ∨ lv.ownBlock = some y) HB4.out).trans (hk5.mono (G := fun y => y = r ∨ lv.ownBlock = some y) (fun _ _ h => .inr h)) (fun _ _ h => h)); clear hk5
    have HW5 := Lib.hid (show ∀ y, W5 y → W y ∨ w.heap.size + 1 + 1 + 1 ≤ y from fun y hy => (hw5 y hy).imp id (fun h => by omega)); clear hw5 hno
    have o0 := ho5.cell 0
    have o1 := ho5.cell 1
    have o2 := ho5.cell 2
    have o3 := ho5.cell 3
    have o4 := ho5.cell 4
    have fo0 := ho5.free 0
    have fo1 := ho5.free 1
    have fo2 := ho5.free 2
    have fo3 := ho5.free 3
    have fo4 := ho5.free 4
    simp only [List.getElem?_toArray, List.getElem?_cons_zero, List.getElem?_cons_succ] at o0 o1 o2 o3 o4
    obtain ⟨w6, hw6⟩ : ∃ w6, w6 = w5.setCell ⟨w.heap.size + 1 + 1, 3, none⟩ (.int .i64 (k : Int)) := ⟨_, rfl⟩
    have ho6 : CellsAt w6 (w.heap.size + 1 + 1) #[.int .i64 t.cmd, .int .i64 t.tag, .int .i64 0, .int .i64 (k : Int), .slice none 0 0] 35 := by rw [hw6]; have := ho5.set 3 (.int .i64 (k : Int)); simpa using this
    obtain ⟨w7, hw7⟩ : ∃ w7, w7 = w6.setCell ⟨w.heap.size + 1 + 1, 2, none⟩ (.int .i64 s) := ⟨_, rfl⟩
    have ho7 : CellsAt w7 (w.heap.size + 1 + 1) #[.int .i64 t.cmd, .int .i64 t.tag, .int .i64 s, .int .i64 (k : Int), .slice none 0 0] 35 := by rw [hw7]; have := ho6.set 2 (.int .i64 s); simpa using this
    have hk7 : Keeps (fun x => x = w.heap.size + 1 + 1) w5 w7 := by rw [hw7, hw6]; exact ((Keeps.refl (fun x => x = w.heap.size + 1 + 1) w5).setCell (p := ⟨w.heap.size + 1 + 1, 3, none⟩) (fun _ => rfl) _).setCell (p := ⟨w.heap.size + 1 + 1, 2, none⟩) (fun _ => rfl) _
    go_upto_region 12 with fail
    rw [← hw6]
    clear hw6 o0 o1 o2 o3 o4 fo0 fo1 fo2 fo3 fo4
    have o0 := ho6.cell 0
    have o1 := ho6.cell 1
    have o2 := ho6.cell 2
    have o3 := ho6.cell 3
    have o4 := ho6.cell 4
    have fo0 := ho6.free 0
    have fo1 := ho6.free 1
    have fo2 := ho6.free 2
    have fo3 := ho6.free 3
    have fo4 := ho6.free 4
    simp only [List.getElem?_toArray, List.getElem?_cons_zero, List.getElem?_cons_succ] at o0 o1 o2 o3 o4
    go_upto_region 13 with fail
    rw [← hw7]
    clear hw7 o0 o1 o2 o3 o4 fo0 fo1 fo2 fo3 fo4 ho6 ho5
    have hr7 := hr5.keeps hk7 (by omega)
    obtain ⟨sf, hsf⟩ : ∃ sf : Int, sf = if bad = true ∧ s = 0 then status else s := ⟨_, rfl⟩
    have HSF := Lib.hid hsf; clear hsf
    have HO7 := Lib.hid ho7
    have HK7 := Lib.hid hk7
    have HR7 := Lib.hid hr7
    have hr5' := hr5
    clear ho7 hk7 hr7 hr5
    go_cut [72] (fun b V => b = .bool (bad && (s == 0)) ∧ w7 = V)
    case first =>
      as_aux_lemma =>
        by_cases h0 : s = 0
        · have e0 : (s == 0) = true := by simp [h0]
          have HE := Lib.hid e0
          clear h0
          go_wp2_with fail
          go_meet
          exact ⟨by rw [HE.out, Bool.and_true], rfl⟩
        · have e0 : (s == 0) = false := by simp [h0]
          have HE := Lib.hid e0
          clear h0
          go_wp2_with fail
          go_meet
          exact ⟨by rw [HE.out, Bool.and_false], rfl⟩
    obtain ⟨rfl, rfl⟩ := hcut
    go_upto_if 72 with fail
    go_cut [12] (fun b V => b = .int .i64 (k : Int) ∧ CellsAt V (w.heap.size + 1 + 1) #[.int .i64 t.cmd, .int .i64 t.tag, .int .i64 sf, .int .i64 (k : Int), .slice none 0 0] 35 ∧ Keeps (fun x => x = w.heap.size + 1 + 1) w5 V)
    case first =>
      as_aux_lemma =>
        have o0 := HO7.out.cell 0
        have o1 := HO7.out.cell 1
        have o2 := HO7.out.cell 2
        have o3 := HO7.out.cell 3
        have o4 := HO7.out.cell 4
        have fo0 := HO7.out.free 0
        have fo1 := HO7.out.free 1
        have fo2 := HO7.out.free 2
        have fo3 := HO7.out.free 3
        have fo4 := HO7.out.free 4
        simp only [List.getElem?_toArray, List.getElem?_cons_zero, List.getElem?_cons_succ] at o0 o1 o2 o3 o4
        cases hbs : (bad && (s == 0)) with
        | false =>
          have HSF2 := Lib.hid (show sf = s by rw [HSF.out, rdo_sf, hbs]; rfl); clear hbs
          go_wp2_with fail
          go_meet
          exact ⟨rfl, by rw [HSF2.out]; exact HO7.out, HK7.out⟩
        | true =>
          have HSF2 := Lib.hid (show sf = status by rw [HSF.out, rdo_sf, hbs]; rfl); clear hbs
          go_wp2_with fail
          go_meet
          refine ⟨rfl, ?_, HK7.out.setCell (p := ⟨w.heap.size + 1 + 1, 2, none⟩) (fun _ => rfl) _⟩
          have := HO7.out.set 2 (.int .i64 status)
          rw [HSF2.out]
          simpa using this
    obtain ⟨rfl, ho8, hk8⟩ := hcut
    obtain ⟨w8, hw8⟩ : ∃ w8, w8 = wc := ⟨_, rfl⟩
    rw [← hw8] at ho8 hk8 ⊢
    clear hw8 HO7 HK7
    skip
    have o0 := ho8.cell 0
    have o1 := ho8.cell 1
    have o2 := ho8.cell 2
    have o3 := ho8.cell 3
    have o4 := ho8.cell 4
    simp only [List.getElem?_toArray, List.getElem?_cons_zero, List.getElem?_cons_succ] at o0 o1 o2 o3 o4
    have HR8 := Lib.hid (hr5'.keeps hk8 (by omega))
    have c0 := HR8.out.cell 0
    have c1 := HR8.out.cell 1
    have c2 := HR8.out.cell 2
    have c3 := HR8.out.cell 3
    have c4 := HR8.out.cell 4
    have fc0 := HR8.out.free 0
    have fc1 := HR8.out.free 1
    have fc2 := HR8.out.free 2
    have fc3 := HR8.out.free 3
    have fc4 := HR8.out.free 4
    simp only [List.getElem?_toArray, List.getElem?_cons_zero, List.getElem?_cons_succ] at c0 c1 c2 c3 c4
    have hq : doS S t status done = (⟨t.cmd, t.tag, sf, k, []⟩, (blockS S t n).2) := by rw [HDQ.out, HKS.out, HSF.out]
    have HQ := Lib.hid hq; clear hq
    have HK8 := Lib.hid hk8; clear hk8
    have HRF8 := Lib.hid (HRF5.out.keeps HK8.out (fun x hx e => by rcases HW5.out x hx with h | h; have := HW.out x h; omega; omega))
    have HKW8 := Lib.hid (HKW5.out.trans HK8.out (fun y hy e => by omega))
    go_wp2_with fail
    refine bodyPost_ret (v := .agg (replyCells t sf (k : Int) (.slice none 0 0))) (results_cell (b := w.heap.size + 1) (cs := (replyCells t sf (k : Int) (.slice none 0 0)).toList) rfl _ rfl (do_store HR8.out t sf (k : Int) (.slice none 0 0)).1.range Try.underlying35 rfl (by kernel_rfl)) rfl ?_
    exact rdo_end HRF8.out HR8.out HKW8.out (fun y hy => (HW5.out y hy).imp id (fun h => by omega)) HW.out (Owns.nil _ _) HQ.out
  have h3 : t.op ≠ 3 := fun e => h35 (.inl e)
  have h5 : t.op ≠ 5 := fun e => h35 (.inr e)
  have e3 : (t.op == 3) = false := by simp [h3]
  have e5 : (t.op == 5) = false := by simp [h5]
  have hds := HDF.out
  rw [if_neg h35] at hds
  have HDOES := Lib.hid (fun (V : World) (hV : RefIs V r lv vs S W) => rdoes_any r lv vs S W t (.slice da dn dc) V hV hg ⟨_, _, _, rfl⟩ lost HR0.out hop1 hop2 h3 h5)
  unfold Tk.cells at HDOES
  clear HDF h3 h5 t7
  cases bad with
  | false =>
    have hl0 : lost = false := by rw [← HLO.out]; rfl
    subst hl0
    have HDQ := Lib.hid (show doS S t status done = (⟨t.cmd, t.tag, 0, 0, (changeS S t).1⟩, (changeS S t).2) by rw [hds]; simp); clear hds HLO h35 hop1 hop2
    have q0 := HTA.out 0
    have q1 := HTA.out 1
    have q3 := HTA.out 3
    have q4 := HTA.out 4
    have q5 := HTA.out 5
    have q6 := HTA.out 6
    have q8 := HTA.out 8
    have q9 := HTA.out 9
    have q10 := HTA.out 10
    simp only [Tk.cells, List.getElem?_toArray, List.getElem?_cons_zero, List.getElem?_cons_succ] at q0 q1 q3 q4 q5 q6 q8 q9 q10
    have q7 := HTA.out 7
    simp only [Tk.cells, List.getElem?_toArray, List.getElem?_cons_zero, List.getElem?_cons_succ] at q7
    go_wp2_with fail
    refine (HDOES.out w4 HRI.out).mono ?_
    rintro e w5 ⟨x, lv5, vs5, W5, rfl, hown, hR5, hk5, hn5⟩
    clear q0 q1 q3 q4 q5 q6 q7 q8 q9 q10
    obtain ⟨xa, xc, rfl, _⟩ := hown.bytes.form
    obtain ⟨xn, hxn⟩ : ∃ xn, xn = (changeS S t).1.length := ⟨_, rfl⟩
    rw [← hxn] at hown ⊢
    clear hxn
    have ho5 := HO4.out.keeps hk5 (rdo_ne HRI.out HO4.out (.inl rfl))
    have hr5 := HR4.out.keeps hk5 (rdo_ne HRI.out HR4.out (.inl rfl))
    have HN5 := Lib.hid (show ∀ y, W5 y → W y ∨ w.heap.size + 1 + 1 + 1 ≤ y from fun y hy => (hn5 y hy).imp id (fun h => by omega)); clear hn5
    obtain ⟨w6, hw6⟩ : ∃ w6, w6 = w5.setCell ⟨w.heap.size + 1 + 1, 4, none⟩ (.slice xa xn xc) := ⟨_, rfl⟩
    have ho6 : CellsAt w6 (w.heap.size + 1 + 1) #[.int .i64 t.cmd, .int .i64 t.tag, .int .i64 0, .int .i64 0, .slice xa xn xc] 35 := by rw [hw6]; have := ho5.set 4 (.slice xa xn xc); simpa using this
    have hk6 : Keeps (fun x => x = w.heap.size + 1 + 1) w5 w6 := by rw [hw6]; exact (Keeps.refl (fun x => x = w.heap.size + 1 + 1) w5).setCell (p := ⟨w.heap.size + 1 + 1, 4, none⟩) (fun _ => rfl) _
    have hr6 := hr5.keeps hk6 (by omega)
    have HOW := Lib.hid (show Owns w.heap.size w6 (.slice xa xn xc) (changeS S t).1 from (hk6.owns hown (fun y hy e => by
      obtain ⟨c1, h1⟩ := rowBlockT hown hy
      unfold CellsAt at ho5
      rw [e, ho5] at h1
      simp at h1)).mono (by omega))
    have HRF := Lib.hid (hR5.keeps hk6 (fun x hx e => by rcases HN5.out x hx with h | h; have := HW.out x h; omega; omega))
    have HKW := Lib.hid (((Keeps.of_below (F := fun y => y = r ∨ lv.ownBlock = some y) HB4.out).trans hk5 (fun _ _ h => h)).trans hk6 (fun y hy e => by omega))
    have HR6 := Lib.hid hr6
    have HO6 := Lib.hid ho6
    have o0 := ho5.cell 0
    have o1 := ho5.cell 1
    have o2 := ho5.cell 2
    have o3 := ho5.cell 3
    have o4 := ho5.cell 4
    have fo0 := ho5.free 0
    have fo1 := ho5.free 1
    have fo2 := ho5.free 2
    have fo3 := ho5.free 3
    have fo4 := ho5.free 4
    simp only [List.getElem?_toArray, List.getElem?_cons_zero, List.getElem?_cons_succ] at o0 o1 o2 o3 o4
    clear hown hR5 hk5 hk6 hr5 hr6 ho6
    go_upto_region 23 with fail
    rw [← hw6]
    clear hw6 o0 o1 o2 o3 o4 fo0 fo1 fo2 fo3 fo4 ho5
    have o0 := HO6.out.cell 0
    have o1 := HO6.out.cell 1
    have o2 := HO6.out.cell 2
    have o3 := HO6.out.cell 3
    have o4 := HO6.out.cell 4
    simp only [List.getElem?_toArray, List.getElem?_cons_zero, List.getElem?_cons_succ] at o0 o1 o2 o3 o4
    have c0 := HR6.out.cell 0
    have c1 := HR6.out.cell 1
    have c2 := HR6.out.cell 2
    have c3 := HR6.out.cell 3
    have c4 := HR6.out.cell 4
    have fc0 := HR6.out.free 0
    have fc1 := HR6.out.free 1
    have fc2 := HR6.out.free 2
    have fc3 := HR6.out.free 3
    have fc4 := HR6.out.free 4
    simp only [List.getElem?_toArray, List.getElem?_cons_zero, List.getElem?_cons_succ] at c0 c1 c2 c3 c4
    go_wp2_with fail
    refine bodyPost_ret (v := .agg (replyCells t 0 0 (.slice xa xn xc))) (results_cell (b := w.heap.size + 1) (cs := (replyCells t 0 0 (.slice xa xn xc)).toList) rfl _ rfl (do_store HR6.out t 0 0 (.slice xa xn xc)).1.range Try.underlying35 rfl (by kernel_rfl)) rfl ?_
    exact rdo_end HRF.out HR6.out HKW.out (fun y hy => (HN5.out y hy).imp id (fun h => by omega)) HW.out HOW.out HDQ.out
  | true =>
    have hds2 : (doS S t status done).1 = ⟨t.cmd, t.tag, status, 0, []⟩ := by rw [hds]; cases lost <;> simp
    have o0 := HO4.out.cell 0
    have o1 := HO4.out.cell 1
    have o2 := HO4.out.cell 2
    have o3 := HO4.out.cell 3
    have o4 := HO4.out.cell 4
    have fo2 := HO4.out.free 2
    simp only [List.getElem?_toArray, List.getElem?_cons_zero, List.getElem?_cons_succ] at o0 o1 o2 o3 o4
    obtain ⟨w5, hw5⟩ : ∃ w5, w5 = w4.setCell ⟨w.heap.size + 1 + 1, 2, none⟩ (.int .i64 status) := ⟨_, rfl⟩
    have ho5 : CellsAt w5 (w.heap.size + 1 + 1) #[.int .i64 t.cmd, .int .i64 t.tag, .int .i64 status, .int .i64 0, .slice none 0 0] 35 := by rw [hw5]; have := HO4.out.set 2 (.int .i64 status); simpa using this
    have hk5 : Keeps (fun x => x = w.heap.size + 1 + 1) w4 w5 := by rw [hw5]; exact (Keeps.refl (fun x => x = w.heap.size + 1 + 1) w4).setCell (p := ⟨w.heap.size + 1 + 1, 2, none⟩) (fun _ => rfl) _
    have HR5 := Lib.hid (HR4.out.keeps hk5 (by omega))
    have HRI5 := Lib.hid (HRI.out.keeps hk5 (fun x hx e => by have := HW.out x hx; omega))
    have HT5 := Lib.hid (HT4.out.keeps hk5 (by omega))
    have HKW5 := Lib.hid ((Keeps.of_below (F := fun y => y = r ∨ lv.ownBlock = some y) HB4.out).trans hk5 (fun y hy e => by omega))
    have hs5 : w4.heap.size ≤ w5.heap.size := hk5.size
    have HO5 := Lib.hid ho5
    clear ho5
    go_upto_region 18 with fail
    rw [← hw5]
    clear hw5 o0 o1 o2 o3 o4 fo2 hk5 t2
    have t2 := HT5.out.cell 2
    simp only [Tk.cells, List.getElem?_toArray, List.getElem?_cons_zero, List.getElem?_cons_succ] at t2
    by_cases hch : 6 ≤ t.op ∧ t.op ≤ 9 ∧ status = 12
    · obtain ⟨k6, k9, hst⟩ := hch
      have d6 : decide (6 ≤ t.op) = true := by simpa using k6
      have d9 : decide (t.op ≤ 9) = true := by simpa using k9
      have d12 : (status == 12) = true := by simp [hst]
      have hl0 : lost = false := by rw [← HLO.out]; simp [hst]
      subst hl0
      have HDQ := Lib.hid (show doS S t status done = (⟨t.cmd, t.tag, status, 0, []⟩, (changeS S t).2) by rw [hds]; simp); clear hds hds2 HLO h35 hop1 hop2 hst k6 k9
      have q0 := HT5.out.cell 0
      have q1 := HT5.out.cell 1
      have q3 := HT5.out.cell 3
      have q4 := HT5.out.cell 4
      have q5 := HT5.out.cell 5
      have q6 := HT5.out.cell 6
      have q7 := HT5.out.cell 7
      have q8 := HT5.out.cell 8
      have q9 := HT5.out.cell 9
      have q10 := HT5.out.cell 10
      simp only [Tk.cells, List.getElem?_toArray, List.getElem?_cons_zero, List.getElem?_cons_succ] at q0 q1 q3 q4 q5 q6 q7 q8 q9 q10
      go_wp2_with fail
      refine (HDOES.out w5 HRI5.out).mono ?_
      rintro e w6 ⟨x, lv6, vs6, W6, rfl, _, hR6, hk6, hn6⟩
      clear q0 q1 q3 q4 q5 q6 q7 q8 q9 q10 t2
      have HO6 := Lib.hid (HO5.out.keeps hk6 (rdo_ne HRI5.out HO5.out (.inl rfl)))
      have HR6 := Lib.hid (HR5.out.keeps hk6 (rdo_ne HRI5.out HR5.out (.inl rfl)))
      have HN6 := Lib.hid (show ∀ y, W6 y → W y ∨ w.heap.size + 1 + 1 + 1 ≤ y from fun y hy => (hn6 y hy).imp id (fun h => by omega)); clear hn6
      have HRF := Lib.hid hR6; clear hR6
      have HKW := Lib.hid (HKW5.out.trans hk6 (fun _ _ h => h)); clear hk6
      have o0 := HO6.out.cell 0
      have o1 := HO6.out.cell 1
      have o2 := HO6.out.cell 2
      have o3 := HO6.out.cell 3
      have o4 := HO6.out.cell 4
      simp only [List.getElem?_toArray, List.getElem?_cons_zero, List.getElem?_cons_succ] at o0 o1 o2 o3 o4
      have c0 := HR6.out.cell 0
      have c1 := HR6.out.cell 1
      have c2 := HR6.out.cell 2
      have c3 := HR6.out.cell 3
      have c4 := HR6.out.cell 4
      have fc0 := HR6.out.free 0
      have fc1 := HR6.out.free 1
      have fc2 := HR6.out.free 2
      have fc3 := HR6.out.free 3
      have fc4 := HR6.out.free 4
      simp only [List.getElem?_toArray, List.getElem?_cons_zero, List.getElem?_cons_succ] at c0 c1 c2 c3 c4
      go_wp2_with fail
      refine bodyPost_ret (v := .agg (replyCells t status 0 (.slice none 0 0))) (results_cell (b := w.heap.size + 1) (cs := (replyCells t status 0 (.slice none 0 0)).toList) rfl _ rfl (do_store HR6.out t status 0 (.slice none 0 0)).1.range Try.underlying35 rfl (by kernel_rfl)) rfl ?_
      exact rdo_end HRF.out HR6.out HKW.out (fun y hy => (HN6.out y hy).imp id (fun h => by omega)) HW.out (Owns.nil _ _) HDQ.out
    have hds3 : (doS S t status done).2 = S := by
      rw [hds]
      cases hl : lost with
      | true => simp
      | false =>
        have h12 : status = 12 := by
          have := HLO.out
          rw [hl] at this
          simpa using this
        have : ¬ (6 ≤ t.op ∧ t.op ≤ 9) := fun hc => hch ⟨hc.1, hc.2, h12⟩
        simp [change_still this]
    have HDQ := Lib.hid (show doS S t status done = (⟨t.cmd, t.tag, status, 0, []⟩, S) from Prod.ext hds2 hds3)
    have hcases : decide (6 ≤ t.op) = false ∨ (decide (6 ≤ t.op) = true ∧ decide (t.op ≤ 9) = false) ∨ (decide (6 ≤ t.op) = true ∧ decide (t.op ≤ 9) = true ∧ (status == 12) = false) := by
      by_cases k6 : 6 ≤ t.op
      · by_cases k9 : t.op ≤ 9
        · exact .inr (.inr ⟨by simpa using k6, by simpa using k9, by simp; exact fun e => hch ⟨k6, k9, e⟩⟩)
        · exact .inr (.inl ⟨by simpa using k6, by simpa using k9⟩)
      · exact .inl (by simpa using k6)
    clear hds hds2 hds3 HLO h35 hop1 hop2 hch
    have o0 := HO5.out.cell 0
    have o1 := HO5.out.cell 1
    have o2 := HO5.out.cell 2
    have o3 := HO5.out.cell 3
    have o4 := HO5.out.cell 4
    simp only [List.getElem?_toArray, List.getElem?_cons_zero, List.getElem?_cons_succ] at o0 o1 o2 o3 o4
    have c0 := HR5.out.cell 0
    have c1 := HR5.out.cell 1
    have c2 := HR5.out.cell 2
    have c3 := HR5.out.cell 3
    have c4 := HR5.out.cell 4
    have fc0 := HR5.out.free 0
    have fc1 := HR5.out.free 1
    have fc2 := HR5.out.free 2
    have fc3 := HR5.out.free 3
    have fc4 := HR5.out.free 4
    simp only [List.getElem?_toArray, List.getElem?_cons_zero, List.getElem?_cons_succ] at c0 c1 c2 c3 c4
    rcases hcases with d6 | ⟨d6, d9⟩ | ⟨d6, d9, d12⟩
    all_goals
      go_wp2_with fail
      refine bodyPost_ret (v := .agg (replyCells t status 0 (.slice none 0 0))) (results_cell (b := w.heap.size + 1) (cs := (replyCells t status 0 (.slice none 0 0)).toList) rfl _ rfl (do_store HR5.out t status 0 (.slice none 0 0)).1.range Try.underlying35 rfl (by kernel_rfl)) rfl ?_
      exact rdo_end HRI5.out HR5.out HKW5.out (fun y hy => .inl hy) HW.out (Owns.nil _ _) HDQ.out
end Go.Proofs.Ytmanldcohbegkaa
