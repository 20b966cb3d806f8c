/-
  The model: Do. (Written by gen_mddo.py.)
-/
import Derived.Test.YtmanldcohbegkaaMdChangeAny
namespace Go.Proofs.Ytmanldcohbegkaa
open Go.RowKit

def replyCells (t : Tk) (s k : Int) (d : Value) : Array Value := #[.int .i64 t.cmd, .int .i64 t.tag, .int .i64 s, .int .i64 k, d]
theorem CellsAt.range {w : World} {b : Nat} {cs : Array Value} {T : TypeId} (h : CellsAt w b cs T) : w.rangeAt b 0 cs.toList := fun j v hj => by
  rw [Nat.zero_add, h.cell j]
  simpa using hj
theorem do_store {w : World} {b : Nat} (h : CellsAt w b #[.int .i64 0, .int .i64 0, .int .i64 0, .int .i64 0, .slice none 0 0] 35) (t : Tk) (s k : Int) (d : Value) :
    CellsAt (((((w.setCell ⟨b, 0, none⟩ (.int .i64 t.cmd)).setCell ⟨b, 1, none⟩ (.int .i64 t.tag)).setCell ⟨b, 2, none⟩ (.int .i64 s)).setCell ⟨b, 3, none⟩ (.int .i64 k)).setCell ⟨b, 4, none⟩ d) b (replyCells t s k d) 35 ∧
    Keeps (fun x => x = b) w (((((w.setCell ⟨b, 0, none⟩ (.int .i64 t.cmd)).setCell ⟨b, 1, none⟩ (.int .i64 t.tag)).setCell ⟨b, 2, none⟩ (.int .i64 s)).setCell ⟨b, 3, none⟩ (.int .i64 k)).setCell ⟨b, 4, none⟩ d) :=
  ⟨((((h.set 0 _).set 1 _).set 2 _).set 3 _).set 4 _, (((((Keeps.refl (fun x => x = b) w).setCell (p := ⟨b, 0, none⟩) (fun _ => rfl) _).setCell (p := ⟨b, 1, none⟩) (fun _ => rfl) _).setCell (p := ⟨b, 2, none⟩) (fun _ => rfl) _).setCell (p := ⟨b, 3, none⟩) (fun _ => rfl) _).setCell (p := ⟨b, 4, none⟩) (fun _ => rfl) _⟩
theorem doS_lost {S : Mo} {t : Tk} {status done : Int} {bad : Bool} (h35 : ¬ (t.op = 3 ∨ t.op = 5)) (hb : bad = troubleB t.op status) (hl : true = (bad && decide (status ≠ 12))) (hst : 0 = refuseS S t true) :
    doS S t status done = (⟨t.cmd, t.tag, if bad = true ∧ (0 : Int) = 0 then status else 0, 0, if bad = true ∧ (0 : Int) = 0 then [] else []⟩, S) := by
  have hbt : bad = true := by
    cases bad
    · simp at hl
    · rfl
  unfold doS
  simp only [← hb, ← hl, ← hst]
  rw [if_neg (by simp), if_neg h35]
  simp [hbt]
theorem doS_change {S : Mo} {t : Tk} {status done : Int} {bad : Bool} (h35 : ¬ (t.op = 3 ∨ t.op = 5)) (hb : bad = troubleB t.op status) (hl : false = (bad && decide (status ≠ 12))) (hst : 0 = refuseS S t false) :
    doS S t status done = (⟨t.cmd, t.tag, if bad = true ∧ (0 : Int) = 0 then status else 0, 0, if bad = true ∧ (0 : Int) = 0 then [] else (changeS S t).1⟩, (changeS S t).2) := by
  unfold doS
  simp only [← hb, ← hl, ← hst]
  rw [if_neg (by simp), if_neg h35]
  cases bad <;> simp
theorem doS_blocks {S : Mo} {t : Tk} {status done : Int} {bad lost : Bool} {n k : Nat} {s : Int} (h35 : t.op = 3 ∨ t.op = 5) (hb : bad = troubleB t.op status) (hl : lost = (bad && decide (status ≠ 12))) (hst : 0 = refuseS S t lost) (hn : (n : Int) = if lost = true then min (max done 0) t.cnt else t.cnt) (hbs : (blockS S t n).1 = (k, s)) :
    doS S t status done = (⟨t.cmd, t.tag, if bad = true ∧ s = 0 then status else s, k, if bad = true ∧ s = 0 then [] else []⟩, (blockS S t n).2) := by
  unfold doS
  simp only [← hb, ← hl, ← hst]
  rw [if_neg (by simp), if_pos h35, ← hn, Int.toNat_natCast, hbs]
  simp
/-- What Do leaves. -/
def DoPost [Zs] (w : World) (m : Nat) (rv : Value) (ps : List (Nat × Nat)) (t : Tk) (q : Rp × Mo) (e : Ending) (w' : World) : Prop :=
  ∃ r rv' ps', e = .returned (.agg (replyCells t q.1.st q.1.dn r)) ∧ Owns w.heap.size w' r q.1.data ∧ ModelIs w' m rv' ps' q.2 ∧ Keeps (Own m rv ps) w w' ∧ ∀ k, Own m rv' ps' k → Own m rv ps k ∨ w.heap.size ≤ k

theorem ModelIs.not35 [Zs] {w : World} {m : Nat} {rv : Value} {ps : List (Nat × Nat)} {S : Mo} (h : ModelIs w m rv ps S) {x : Nat} {cs : Array Value} (hx : CellsAt w x cs 35) : ¬ Own m rv ps x := by
  unfold CellsAt at hx
  rintro (rfl | hr | ⟨p, hp, hr⟩)
  · have := h.head; unfold CellsAt at this; rw [this] at hx; simp at hx
  · obtain ⟨c, hc⟩ := rowBlock h.row hr; rw [hc] at hx; simp at hx
  · obtain ⟨i, v, _, _, hv⟩ := h.volOf hp
    rcases hr with rfl | rfl
    · have := hv.str; unfold CellsAt at this; rw [this] at hx; simp at hx
    · exact hv.map.notCells _ _ _ hx
theorem do_end [Zs] {w wc W' : World} {m R : Nat} {rv rv' : Value} {ps ps' : List (Nat × Nat)} {S' : Mo} {t : Tk} {s k s' k' : Int} {rd rd' : Value} {d' : List Nat} {q : Rp × Mo} (hm : ModelIs wc m rv' ps' S') (hR : CellsAt wc R (replyCells t s k rd) 35) (h8 : CellsAt wc (w.heap.size + 1) #[.int .i64 0, .int .i64 0, .int .i64 0, .int .i64 0, .slice none 0 0] 35) (hk : Keeps (Own m rv ps) w wc)
    (hnew : ∀ k, Own m rv' ps' k → Own m rv ps k ∨ w.heap.size ≤ k) (hRl : w.heap.size ≤ R) (a1 : Keeps (fun x => x = R) wc W') (a2 : CellsAt W' (w.heap.size + 1) #[.int .i64 0, .int .i64 0, .int .i64 0, .int .i64 0, .slice none 0 0] 35) (a3 : Owns w.heap.size wc rd' d') (a4 : q = (⟨t.cmd, t.tag, s', k', d'⟩, S')) :
    DoPost w m rv ps t q (.returned (.agg (replyCells t s' k' rd'))) (((((W'.setCell ⟨w.heap.size + 1, 0, none⟩ (.int .i64 t.cmd)).setCell ⟨w.heap.size + 1, 1, none⟩ (.int .i64 t.tag)).setCell ⟨w.heap.size + 1, 2, none⟩ (.int .i64 s')).setCell ⟨w.heap.size + 1, 3, none⟩ (.int .i64 k')).setCell ⟨w.heap.size + 1, 4, none⟩ rd') := by
  have hst := (do_store a2 t s' k' rd').2
  have hkk : Keeps (fun x => x = R ∨ x = w.heap.size + 1) wc (((((W'.setCell ⟨w.heap.size + 1, 0, none⟩ (.int .i64 t.cmd)).setCell ⟨w.heap.size + 1, 1, none⟩ (.int .i64 t.tag)).setCell ⟨w.heap.size + 1, 2, none⟩ (.int .i64 s')).setCell ⟨w.heap.size + 1, 3, none⟩ (.int .i64 k')).setCell ⟨w.heap.size + 1, 4, none⟩ rd') := (a1.mono (fun _ _ h => .inl h)).trans hst (fun _ _ h => .inr h)
  have n5 : ∀ g cur, wc.heap[g]? = some (.cells cur 5 (0, 0)) → ¬ (g = R ∨ g = w.heap.size + 1) := by
    rintro g cur hc (rfl | rfl)
    · unfold CellsAt at hR; rw [hR] at hc; simp at hc
    · unfold CellsAt at h8; rw [h8] at hc; simp at hc
  refine ⟨rd', rv', ps', by rw [a4], ?_, ?_, hk.trans hkk (fun x hx e => by rcases e with e | e <;> omega), hnew⟩
  · rw [a4]
    refine hkk.owns a3 (fun g hg => ?_)
    obtain ⟨cur, hc⟩ := rowBlock a3 hg
    exact n5 g cur hc
  · rw [a4]
    exact hm.keeps hkk (fun x hx e => by
      rcases e with rfl | rfl
      · exact hm.not35 hR hx
      · exact hm.not35 h8 hx) n5

set_option maxRecDepth 100000 in
set_option maxHeartbeats 6400000 in
theorem do_any [Zs] (m : Nat) (rv : Value) (ps : List (Nat × Nat)) (S : Mo) (t : Tk) (da : Option Addr) (dn dc : Nat) (status done : Int) (w : World) (h : ModelIs w m rv ps S) (hg : Good S) (hdn : dn = t.data.length) (hd : BytesAt w (.slice da dn dc) t.data) (hdc : dn ≤ dc) (hdb : (dn : Int) < 1000000000000000) (hz : t.op = 3 → ∀ x, Zs.z x → x < w.heap.size) :
    Calls Try.prog 13 #[.pointer (some ⟨m, 0, none⟩), .agg (t.cells (.slice da dn dc)), .int .i64 status, .int .i64 done] w (DoPost w m rv ps t (doS S t status done)) := by
  have hlen : ps.length ≤ 8 := by rw [h.len]; exact hg.len
  have hml := h.head.lt
  have HD := Lib.hid hd; clear hd
  have HDN := Lib.hid hdn; clear hdn
  have HZ := Lib.hid hz; clear hz
  obtain ⟨bad, hbad⟩ : ∃ bad, bad = troubleB t.op status := ⟨_, rfl⟩
  obtain ⟨lost, hlost⟩ : ∃ lost, lost = (bad && decide (status ≠ 12)) := ⟨_, rfl⟩
  obtain ⟨st, hst⟩ : ∃ st, st = refuseS S t lost := ⟨_, rfl⟩
  have HTR := Lib.hid (fun W => trouble_any t.op status W)
  rw [← hbad] at HTR
  have HREF := Lib.hid (fun W (hW : Below w.heap.size w W) => refuse_any m rv ps S t da dc lost W (h.below hW) hlen (by rw [← HDN.out]; exact hdb) (fun v hv => by have := hg.size v hv; omega))
  rw [← hst, ← HDN.out] at HREF
  have HBAD := Lib.hid hbad; clear hbad
  have HLOST := Lib.hid hlost; clear hlost
  have HST := Lib.hid hst; clear hst
  have HG := Lib.hid hg; clear hg
  have HM := Lib.hid h; clear h
  have cT0 := fun j => (CellsAt.new w (t.cells (.slice da dn dc)) 30).cell j
  have HC0 := Lib.hid cT0; clear cT0
  unfold Tk.cells at HC0 HREF ⊢
  go_enter Try.func13, Try.ntmps13
  go_wp2_with fail
  refine (HTR.out _).mono ?_
  rintro e w1 ⟨rfl, hb1⟩
  have hz1 : w.heap.size + 2 ≤ w1.heap.size := by have := hb1.size; simpa using this
  have hT1 : w.heap.size < w1.heap.size := by omega
  have hkW : Keeps (fun _ => False) w w1 := (((Keeps.refl _ w).alloc _).alloc _).trans (Keeps.of_below hb1) (fun _ _ h => h)
  have cT : ∀ j, w1.cell? ⟨w.heap.size, j, none⟩ = _ := fun j => (hb1.cell (p := ⟨w.heap.size, j, none⟩) (by simp; omega)).trans ((World.cell?_alloc_lt _ _ ⟨w.heap.size, j, none⟩ (by simp)).trans (HC0.out j))
  have hR8 : CellsAt w1 (w.heap.size + 1) #[.int .i64 0, .int .i64 0, .int .i64 0, .int .i64 0, .slice none 0 0] 35 := CellsAt.later (heap_at (by simp)) hb1
  have HCT := Lib.hid cT
  have HR8 := Lib.hid hR8; clear hR8
  have e0 := cT 0
  have e1 := cT 1
  simp only [List.getElem?_toArray, List.getElem?_cons_zero, List.getElem?_cons_succ] at e0 e1
  clear cT
  have HKW := Lib.hid hkW; clear hkW hb1
  have HREF := Lib.hid (fun W (hW : Below w1.heap.size w1 W) => HREF.out W ((HKW.out.below (Nat.le_refl _) (fun _ _ h => h)).trans (hW.mono (by omega))))
  go_upto_region 2 with fail
  go_cut [10] from 17 to 21 (fun v wx => v = .bool lost ∧ w1 = wx)
  case first =>
    cases bad with
    | false =>
      have hl2 : lost = false := by rw [HLOST.out]; rfl
      clear HLOST
      subst hl2
      go_wp2_with fail
      go_meet
      exact ⟨rfl, rfl⟩
    | true =>
      by_cases h12 : status = 12
      · have hl2 : lost = false := by rw [HLOST.out, h12]; rfl
        clear HLOST
        have b12 : (status != 12) = false := by simp [h12]
        subst hl2
        go_wp2_with fail
        go_meet
        exact ⟨rfl, rfl⟩
      · have hl2 : lost = true := by rw [HLOST.out]; simp [h12]
        clear HLOST
        have b12 : (status != 12) = true := by simp [h12]
        subst hl2
        go_wp2_with fail
        go_meet
        exact ⟨rfl, rfl⟩
  case rest =>
    obtain ⟨rfl, rfl⟩ := hcut
    go_upto_region 3 with fail
    go_cut [11] from 22 to 30 (fun v wx => ∃ R, v = .pointer (some ⟨R, 0, none⟩) ∧ w1.heap.size ≤ R ∧ CellsAt wx R (replyCells t st 0 (.slice none 0 0)) 35 ∧ Keeps (fun _ => False) w1 wx)
    case first =>
      refine wp_region_held_drew (S := fun V => V.cell? ⟨w.heap.size, 0, none⟩ = some (.int .i64 t.cmd) ∧ V.cell? ⟨w.heap.size, 1, none⟩ = some (.int .i64 t.tag) ∧ Below w1.heap.size w1 V) (by kernel_rfl) ⟨e0, e1, (Below.refl _ w1).drew⟩ (fun hHeld => ?_)
      refine wpAnyH_take (i := 0) (v := .pointer (some ⟨w.heap.size, 0, none⟩)) ops_at0 (by kernel_rfl) (by kernel_rfl) (by kernel_rfl) (fun _ _ _ h => h) (Or.inl ⟨by rfl, fun V hV => ?_⟩) hHeld ?_
      · go_simp
      simp only [Act.put, List.setIfInBounds_toArray, List.set_cons_zero, List.set_cons_succ]
      refine wpAnyH_take (i := 1) (v := .int .i64 t.cmd) ops_at1 (by kernel_rfl) (by kernel_rfl) (by kernel_rfl) (fun _ _ _ h => h) (Or.inl ⟨by rfl, fun V hV => ?_⟩) hHeld ?_
      · obtain ⟨q0, q1, q2⟩ := hV
        go_simp
      simp only [Act.put, List.setIfInBounds_toArray, List.set_cons_zero, List.set_cons_succ]
      refine wpAnyH_take (i := 2) (v := .pointer (some ⟨w.heap.size, 1, none⟩)) ops_at2 (by kernel_rfl) (by kernel_rfl) (by kernel_rfl) (fun _ _ _ h => h) (Or.inl ⟨by rfl, fun V hV => ?_⟩) hHeld ?_
      · go_simp
      simp only [Act.put, List.setIfInBounds_toArray, List.set_cons_zero, List.set_cons_succ]
      refine wpAnyH_take (i := 3) (v := .int .i64 t.tag) ops_at3 (by kernel_rfl) (by kernel_rfl) (by kernel_rfl) (fun _ _ _ h => h) (Or.inl ⟨by rfl, fun V hV => ?_⟩) hHeld ?_
      · obtain ⟨q0, q1, q2⟩ := hV
        go_simp
      simp only [Act.put, List.setIfInBounds_toArray, List.set_cons_zero, List.set_cons_succ]
      refine wpAnyH_take (i := 4) (v := .pointer (some ⟨m, 0, none⟩)) ops_at4 (by kernel_rfl) (by kernel_rfl) (by kernel_rfl) (fun _ _ _ h => h) (Or.inl ⟨by rfl, fun V hV => ?_⟩) hHeld ?_
      · go_simp
      simp only [Act.put, List.setIfInBounds_toArray, List.set_cons_zero, List.set_cons_succ]
      refine wpAnyH_take (i := 5) (v := .agg #[.int .i64 t.cmd, .int .i64 t.tag, .int .i64 t.op, .bool t.ord, .bool t.fua, .int .i64 t.vol, .int .i64 t.lba, .int .i64 t.cnt, .int .i64 t.siz, .int .i64 t.quo, .slice da dn dc]) ops_at5 (by kernel_rfl) (by kernel_rfl) (by kernel_rfl) (fun _ _ _ h => h) (Or.inl ⟨by rfl, fun V hV => ?_⟩) hHeld ?_
      · obtain ⟨q0, q1, q2⟩ := hV
        have cT := fun j => (q2.cell (p := ⟨w.heap.size, j, none⟩) hT1).trans (HCT.out j)
        clear q0 q1
        go_simp
      simp only [Act.put, List.setIfInBounds_toArray, List.set_cons_zero, List.set_cons_succ]
      refine wpAnyH_take (i := 6) (v := .bool lost) ops_at6 (by kernel_rfl) (by kernel_rfl) (by kernel_rfl) (fun _ _ _ h => h) (Or.inl ⟨by rfl, fun V hV => ?_⟩) hHeld ?_
      · go_simp
      simp only [Act.put, List.setIfInBounds_toArray, List.set_cons_zero, List.set_cons_succ]
      refine wpAnyH_ready (rs := [7, 9]) (by kernel_rfl) (by simp) ?_
      refine AllReadyH.cons ops_at7 (fun K hK => ?_) (AllReadyH.cons ops_at9 (fun K hK => ?_) AllReadyH.nil)
      · rw [if_pos (by rfl)]
        go_simp
        refine (HREF.out w1.drew (Below.refl _ w1).drew).mono ?_
        rintro e w2 ⟨rfl, hb2⟩
        go_wp2_with fail
        have hB2 : Below w1.heap.size w1 w2 := (Below.refl _ w1).drew.trans hb2
        have x0 := (hB2.cell (p := ⟨w.heap.size, 0, none⟩) hT1).trans e0
        have x1 := (hB2.cell (p := ⟨w.heap.size, 1, none⟩) hT1).trans e1
        clear hb2
        refine hK.out _ _ ⟨x0, x1, hB2⟩ (fun hHeld => ?_)
        clear hK K
        refine wpAnyH_take (i := 8) (v := .agg #[.int .i64 t.cmd, .int .i64 t.tag, .int .i64 st, .int .i64 0, .slice none 0 0]) ops_at8 (by kernel_rfl) (by kernel_rfl) (by kernel_rfl) (fun _ _ _ h => h) (Or.inl ⟨by rfl, fun V hV => ?_⟩) hHeld ?_
        · go_simp
        simp only [Act.put, List.setIfInBounds_toArray, List.set_cons_zero, List.set_cons_succ]
        refine wpAnyH_ready (rs := [9]) (by kernel_rfl) (by simp) ?_
        refine AllReadyH.cons ops_at9 (fun K hK => ?_) AllReadyH.nil
        rw [if_pos (by rfl)]
        go_simp
        have hB3 : Below w1.heap.size w1 (w2.alloc (.cells #[.int .i64 0, .int .i64 0, .int .i64 0, .int .i64 0, .slice none 0 0] 35)) := hB2.alloc hB2.size _
        have y0 := (hB3.cell (p := ⟨w.heap.size, 0, none⟩) hT1).trans e0
        have y1 := (hB3.cell (p := ⟨w.heap.size, 1, none⟩) hT1).trans e1
        refine hK.out _ _ ⟨y0, y1, hB3⟩ (fun hHeld => ?_)
        clear hK K
        refine wpAnyH_ready (rs := [10]) (by kernel_rfl) (by simp) ?_
        refine AllReadyH.cons ops_at10 (fun K hK => ?_) AllReadyH.nil
        rw [if_pos (by rfl)]
        go_simp
        have hB4 : Below w1.heap.size w1 (w2.alloc (.cells #[.int .i64 t.cmd, .int .i64 t.tag, .int .i64 st, .int .i64 0, .slice none 0 0] 35)) := hB2.alloc hB2.size _
        have z0 := (hB4.cell (p := ⟨w.heap.size, 0, none⟩) hT1).trans e0
        have z1 := (hB4.cell (p := ⟨w.heap.size, 1, none⟩) hT1).trans e1
        refine hK.out _ _ ⟨z0, z1, hB4⟩ (fun hHeld => ?_)
        clear hK K
        refine wpAnyH_done (by kernel_rfl) ?_ _
        go_wp2_with fail
        go_meet
        exact ⟨w2.heap.size, rfl, hB2.size, heap_at rfl, Keeps.of_below hB4⟩
      · rw [if_pos (by rfl)]
        go_simp
        have hB2 : Below w1.heap.size w1 (w1.drew.alloc (.cells #[.int .i64 0, .int .i64 0, .int .i64 0, .int .i64 0, .slice none 0 0] 35)) := ((Below.refl _ w1).drew).alloc (Nat.le_refl _) _
        have x0 := (hB2.cell (p := ⟨w.heap.size, 0, none⟩) hT1).trans e0
        have x1 := (hB2.cell (p := ⟨w.heap.size, 1, none⟩) hT1).trans e1
        refine hK.out _ _ ⟨x0, x1, hB2⟩ (fun hHeld => ?_)
        clear hK K
        refine wpAnyH_ready (rs := [7]) (by kernel_rfl) (by simp) ?_
        refine AllReadyH.cons ops_at7 (fun K hK => ?_) AllReadyH.nil
        rw [if_pos (by rfl)]
        go_simp
        refine (HREF.out (w1.drew.alloc (.cells #[.int .i64 0, .int .i64 0, .int .i64 0, .int .i64 0, .slice none 0 0] 35)) hB2).mono ?_
        rintro e w2 ⟨rfl, hb2⟩
        go_wp2_with fail
        have hB3 : Below w1.heap.size w1 w2 := hB2.trans (hb2.mono (by simp))
        have hR : CellsAt w2 w1.heap.size #[.int .i64 0, .int .i64 0, .int .i64 0, .int .i64 0, .slice none 0 0] 35 := CellsAt.later (heap_at (by simp)) hb2
        have y0 := (hB3.cell (p := ⟨w.heap.size, 0, none⟩) hT1).trans e0
        have y1 := (hB3.cell (p := ⟨w.heap.size, 1, none⟩) hT1).trans e1
        clear hb2
        refine hK.out _ _ ⟨y0, y1, hB3⟩ (fun hHeld => ?_)
        clear hK K
        refine wpAnyH_take (i := 8) (v := .agg #[.int .i64 t.cmd, .int .i64 t.tag, .int .i64 st, .int .i64 0, .slice none 0 0]) ops_at8 (by kernel_rfl) (by kernel_rfl) (by kernel_rfl) (fun _ _ _ h => h) (Or.inl ⟨by rfl, fun V hV => ?_⟩) hHeld ?_
        · go_simp
        simp only [Act.put, List.setIfInBounds_toArray, List.set_cons_zero, List.set_cons_succ]
        refine wpAnyH_ready (rs := [10]) (by kernel_rfl) (by simp) ?_
        refine AllReadyH.cons ops_at10 (fun K hK => ?_) AllReadyH.nil
        rw [if_pos (by rfl)]
        have r0 := hR.cell 0
        have r1 := hR.cell 1
        have r2 := hR.cell 2
        have r3 := hR.cell 3
        have r4 := hR.cell 4
        have g0 := hR.free 0
        have g1 := hR.free 1
        have g2 := hR.free 2
        have g3 := hR.free 3
        have g4 := hR.free 4
        simp only [List.getElem?_toArray, List.getElem?_cons_zero, List.getElem?_cons_succ] at r0 r1 r2 r3 r4
        have HR := Lib.hid hR; clear hR
        go_simp
        obtain ⟨W5, hW5⟩ : ∃ W5, (((((w2.setCell ⟨w1.heap.size, 0, none⟩ (.int .i64 t.cmd)).setCell ⟨w1.heap.size, 1, none⟩ (.int .i64 t.tag)).setCell ⟨w1.heap.size, 2, none⟩ (.int .i64 st)).setCell ⟨w1.heap.size, 3, none⟩ (.int .i64 0)).setCell ⟨w1.heap.size, 4, none⟩ (.slice none 0 0)) = W5 := ⟨_, rfl⟩
        have hR5 : CellsAt W5 w1.heap.size (replyCells t st 0 (.slice none 0 0)) 35 := by rw [← hW5]; exact ((((HR.out.set 0 _).set 1 _).set 2 _).set 3 _).set 4 _
        have hB5 : Below w1.heap.size w1 W5 := by rw [← hW5]; exact ((((hB3.setCell (p := ⟨w1.heap.size, 0, none⟩) (Nat.le_refl _) _).setCell (p := ⟨w1.heap.size, 1, none⟩) (Nat.le_refl _) _).setCell (p := ⟨w1.heap.size, 2, none⟩) (Nat.le_refl _) _).setCell (p := ⟨w1.heap.size, 3, none⟩) (Nat.le_refl _) _).setCell (p := ⟨w1.heap.size, 4, none⟩) (Nat.le_refl _) _
        rw [hW5]
        clear hW5
        have z0 := (hB5.cell (p := ⟨w.heap.size, 0, none⟩) hT1).trans e0
        have z1 := (hB5.cell (p := ⟨w.heap.size, 1, none⟩) hT1).trans e1
        refine hK.out _ _ ⟨z0, z1, hB5⟩ (fun hHeld => ?_)
        clear hK K
        refine wpAnyH_done (by kernel_rfl) ?_ _
        go_wp2_with fail
        go_meet
        exact ⟨w1.heap.size, rfl, Nat.le_refl _, hR5, Keeps.of_below hB5⟩
    case rest =>
      obtain ⟨R, rfl, hRl, hRc, hkx⟩ := hcut
      have HCT2 := Lib.hid (fun j => (hkx.cell (p := ⟨w.heap.size, j, none⟩) hT1 (fun h => h)).trans (HCT.out j))
      have HR82 := Lib.hid (HR8.out.keeps hkx (fun h => h))
      have HKX := Lib.hid hkx; clear hkx
      have HRc := Lib.hid hRc; clear hRc
      clear HCT HR8 HREF HTR e0 e1
      by_cases hr0 : st = 0
      case neg =>
        have bst : (st != 0) = true := by simp [hr0]
        have r0 := HRc.out.cell 0
        have r1 := HRc.out.cell 1
        have r2 := HRc.out.cell 2
        have r3 := HRc.out.cell 3
        have r4 := HRc.out.cell 4
        have c0 := HR82.out.cell 0
        have c1 := HR82.out.cell 1
        have c2 := HR82.out.cell 2
        have c3 := HR82.out.cell 3
        have c4 := HR82.out.cell 4
        have f0 := HR82.out.free 0
        have f1 := HR82.out.free 1
        have f2 := HR82.out.free 2
        have f3 := HR82.out.free 3
        have f4 := HR82.out.free 4
        simp only [replyCells, List.getElem?_toArray, List.getElem?_cons_zero, List.getElem?_cons_succ] at r0 r1 r2 r3 r4 c0 c1 c2 c3 c4
        go_wp2_with fail
        have hfin := do_store HR82.out t st 0 (.slice none 0 0)
        refine bodyPost_ret (v := .agg (replyCells t st 0 (.slice none 0 0))) (results_cell (b := w.heap.size + 1) (cs := (replyCells t st 0 (.slice none 0 0)).toList) rfl _ rfl hfin.1.range Try.underlying35 rfl (by kernel_rfl)) rfl ?_
        have hds : doS S t status done = (⟨t.cmd, t.tag, st, 0, []⟩, S) := by
          unfold doS
          simp only [← HBAD.out, ← HLOST.out, ← HST.out]
          rw [if_pos hr0]
        rw [hds]
        have hkf := (HKW.out.trans HKX.out (fun _ _ h => h)).mono (G := fun x => w.heap.size ≤ x) (fun _ _ h => h.elim) |>.trans hfin.2 (fun x hx e => by omega)
        have hkf2 : Keeps (fun _ => False) w _ := hkf.mono (fun x hx h => by omega)
        exact ⟨_, rv, ps, rfl, Owns.nil _ _, HM.out.keeps hkf2 (fun _ _ h => h) (fun _ _ _ h => h), hkf2.mono (fun _ _ h => h.elim), fun k hk => .inl hk⟩
      case pos =>
        subst hr0
        have r0 := HRc.out.cell 0
        have r1 := HRc.out.cell 1
        have r2 := HRc.out.cell 2
        have r3 := HRc.out.cell 3
        have r4 := HRc.out.cell 4
        simp only [replyCells, List.getElem?_toArray, List.getElem?_cons_zero, List.getElem?_cons_succ] at r0 r1 r2 r3 r4
        obtain ⟨blk, hblk⟩ : ∃ blk, blk = decide (t.op = 3 ∨ t.op = 5) := ⟨_, rfl⟩
        have HBL := Lib.hid hblk; clear hblk
        go_upto_region 6 with fail
        go_cut [42] from 35 to 42 (fun v wx => v = .bool blk ∧ wc = wx)
        case first =>
          clear r0 r1 r2 r3 r4
          have a2 := HCT2.out 2
          simp only [List.getElem?_toArray, List.getElem?_cons_zero, List.getElem?_cons_succ] at a2
          by_cases h3 : t.op = 3
          · have hl2 : blk = true := by rw [HBL.out]; simp [h3]
            rw [h3] at a2
            have HL2 := Lib.hid hl2; clear hl2
            go_wp2_with fail
            go_meet
            exact ⟨by rw [HL2.out], rfl⟩
          · have b3 : (t.op == 3) = false := by simp [h3]
            by_cases h5 : t.op = 5
            · have hl2 : blk = true := by rw [HBL.out]; simp [h5]
              rw [h5] at a2
              have HL2 := Lib.hid hl2; clear hl2
              go_wp2_with fail
              go_meet
              exact ⟨by rw [HL2.out], rfl⟩
            · have hl2 : blk = false := by rw [HBL.out]; simp [h3, h5]
              have b5 : (t.op == 5) = false := by simp [h5]
              have HL2 := Lib.hid hl2; clear hl2
              go_wp2_with fail
              go_meet
              exact ⟨by rw [HL2.out], rfl⟩
        obtain ⟨rfl, rfl⟩ := hcut
        go_upto_if 42 with fail
        go_cut [12] from 43 to 64 (fun v wx => ∃ (s k : Int) (rd : Value) (d : List Nat) (rv' : Value) (ps' : List (Nat × Nat)) (S' : Mo), CellsAt wx R (replyCells t s k rd) 35 ∧ CellsAt wx (w.heap.size + 1) #[.int .i64 0, .int .i64 0, .int .i64 0, .int .i64 0, .slice none 0 0] 35 ∧ Owns w.heap.size wx rd d ∧ ModelIs wx m rv' ps' S' ∧ Keeps (Own m rv ps) w wx ∧ (∀ k, Own m rv' ps' k → Own m rv ps k ∨ w.heap.size ≤ k) ∧ doS S t status done = (⟨t.cmd, t.tag, if bad = true ∧ s = 0 then status else s, k, if bad = true ∧ s = 0 then [] else d⟩, S'))
        case first =>
          have hkwc : Keeps (fun _ => False) w wc := HKW.out.trans HKX.out (fun _ _ h => h)
          have HKC := Lib.hid hkwc; clear hkwc
          clear r0 r1 r2 r3 r4
          by_cases h35 : t.op = 3 ∨ t.op = 5
          · have hl2 : blk = true := by rw [HBL.out]; simpa using h35
            subst hl2
            have hrf := refuse_blocks HST.out.symm (h35.elim (fun e => .inl e) (fun e => .inr (.inr e)))
            obtain ⟨i0, v0, hat0, n1, n8, l0, l1, l2⟩ := hrf
            obtain ⟨n, hn⟩ : ∃ n : Nat, (n : Int) = if lost then min (max done 0) t.cnt else t.cnt := ⟨(if lost then min (max done 0) t.cnt else t.cnt).toNat, by cases lost <;> simp <;> omega⟩
            have hn2 : (n : Int) ≤ t.cnt := by rw [hn]; cases lost <;> simp; omega
            have HBLK := Lib.hid (fun W (hW : Below w.heap.size w W) => block_any m rv ps S t da dc lost n W (HM.out.below hW) HG.out HST.out.symm h35 hn2 (by rw [← HDN.out]; exact HD.out.later hW) (by rw [← HDN.out]; exact hdc) (fun h3 x hx => Nat.lt_of_lt_of_le (HZ.out h3 x hx) hW.size))
            rw [← HDN.out] at HBLK
            obtain ⟨nI, hnI⟩ : ∃ nI : Int, nI = (n : Int) := ⟨_, rfl⟩
            rw [← hnI] at HBLK
            rw [← hnI] at hn
            have hc0 : ¬ t.cnt < 0 := by omega
            have HNI := Lib.hid hnI; clear hnI
            have HN := Lib.hid hn; clear hn
            have H35 := Lib.hid h35; clear h35
            clear hat0 n1 n8 l0 l1 l2 hn2
            have HBW : Hid (Below w.heap.size w wc) := Lib.hid (HKC.out.below (Nat.le_refl _) (fun _ _ h => h))
            have r2f := HRc.out.free 2
            have r3f := HRc.out.free 3
            have H35' := H35.out
            unfold Tk.cells at HBLK
            clear H35'
            have cT := HCT2.out
            cases lost with
            | false =>
              have hnv : nI = t.cnt := by have := HN.out; simpa using this
              rw [hnv] at HBLK
              clear hnv
              go_wp2_with fail
              refine (HBLK.out wc HBW.out).mono ?_
              rintro e w5 ⟨k, s, hbs, rfl, hm5, hk5⟩
              have hk5w : Keeps (Own m rv ps) w w5 := (HKC.out.mono (fun _ _ h => h.elim)).trans hk5 (fun _ _ h => h)
              have hRo : ¬ Own m rv ps R := fun ho => by have := HM.out.lt R ho; omega
              have h8o : ¬ Own m rv ps (w.heap.size + 1) := fun ho => by have := HM.out.lt _ ho; omega
              have hR5 := HRc.out.keeps hk5 hRo
              have h85 := HR82.out.keeps hk5 h8o
              have r3c := hR5.cell 3
              have r2c := hR5.cell 2
              have r3f' := hR5.free 3
              have r2f' := hR5.free 2
              simp only [replyCells, List.getElem?_toArray, List.getElem?_cons_zero, List.getElem?_cons_succ] at r3c r2c
              have HR5 := Lib.hid hR5; clear hR5
              have H85 := Lib.hid h85; clear h85
              have HK5 := Lib.hid hk5w; clear hk5 hk5w
              have HM5 := Lib.hid hm5; clear hm5
              have HBS := Lib.hid hbs; clear hbs
              go_wp2_with fail
              go_meet
              have hset : Keeps (fun x => x = R) w5 ((w5.setCell ⟨R, 3, none⟩ (.int .i64 (k : Int))).setCell ⟨R, 2, none⟩ (.int .i64 s)) := ((Keeps.refl (fun x => x = R) w5).setCell (p := ⟨R, 3, none⟩) (fun _ => rfl) _).setCell (p := ⟨R, 2, none⟩) (fun _ => rfl) _
              refine ⟨s, k, .slice none 0 0, [], rv, ps, _, ?_, H85.out.keeps hset (by show ¬ _ = R; omega), Owns.nil _ _, HM5.out.keeps hset (fun x hx e => hRo (e ▸ hx)) ?_, HK5.out.trans hset (fun x hx e => by omega), fun k hk => .inl hk, ?_⟩
              · have := (HR5.out.set 3 (.int .i64 (k : Int))).set 2 (.int .i64 s)
                exact this
              · rintro g cur hc rfl
                have := HR5.out; unfold CellsAt at this; rw [this] at hc; simp at hc
              · exact doS_blocks H35.out HBAD.out HLOST.out HST.out (by rw [← HNI.out]; exact HN.out) HBS.out
            | true =>
              by_cases hd0 : done < 0
              · have hnv : nI = 0 := by have := HN.out; simp at this; omega
                rw [hnv] at HBLK
                clear hnv
                go_wp2_with fail
                refine (HBLK.out wc HBW.out).mono ?_
                rintro e w5 ⟨k, s, hbs, rfl, hm5, hk5⟩
                have hk5w : Keeps (Own m rv ps) w w5 := (HKC.out.mono (fun _ _ h => h.elim)).trans hk5 (fun _ _ h => h)
                have hRo : ¬ Own m rv ps R := fun ho => by have := HM.out.lt R ho; omega
                have h8o : ¬ Own m rv ps (w.heap.size + 1) := fun ho => by have := HM.out.lt _ ho; omega
                have hR5 := HRc.out.keeps hk5 hRo
                have h85 := HR82.out.keeps hk5 h8o
                have r3c := hR5.cell 3
                have r2c := hR5.cell 2
                have r3f' := hR5.free 3
                have r2f' := hR5.free 2
                simp only [replyCells, List.getElem?_toArray, List.getElem?_cons_zero, List.getElem?_cons_succ] at r3c r2c
                have HR5 := Lib.hid hR5; clear hR5
                have H85 := Lib.hid h85; clear h85
                have HK5 := Lib.hid hk5w; clear hk5 hk5w
                have HM5 := Lib.hid hm5; clear hm5
                have HBS := Lib.hid hbs; clear hbs
                go_wp2_with fail
                go_meet
                have hset : Keeps (fun x => x = R) w5 ((w5.setCell ⟨R, 3, none⟩ (.int .i64 (k : Int))).setCell ⟨R, 2, none⟩ (.int .i64 s)) := ((Keeps.refl (fun x => x = R) w5).setCell (p := ⟨R, 3, none⟩) (fun _ => rfl) _).setCell (p := ⟨R, 2, none⟩) (fun _ => rfl) _
                refine ⟨s, k, .slice none 0 0, [], rv, ps, _, ?_, H85.out.keeps hset (by show ¬ _ = R; omega), Owns.nil _ _, HM5.out.keeps hset (fun x hx e => hRo (e ▸ hx)) ?_, HK5.out.trans hset (fun x hx e => by omega), fun k hk => .inl hk, ?_⟩
                · have := (HR5.out.set 3 (.int .i64 (k : Int))).set 2 (.int .i64 s)
                  exact this
                · rintro g cur hc rfl
                  have := HR5.out; unfold CellsAt at this; rw [this] at hc; simp at hc
                · exact doS_blocks H35.out HBAD.out HLOST.out HST.out (by rw [← HNI.out]; exact HN.out) HBS.out
              · by_cases hd1 : t.cnt < done
                · have hnv : nI = t.cnt := by have := HN.out; simp at this; omega
                  rw [hnv] at HBLK
                  clear hnv
                  go_wp2_with fail
                  refine (HBLK.out wc HBW.out).mono ?_
                  rintro e w5 ⟨k, s, hbs, rfl, hm5, hk5⟩
                  have hk5w : Keeps (Own m rv ps) w w5 := (HKC.out.mono (fun _ _ h => h.elim)).trans hk5 (fun _ _ h => h)
                  have hRo : ¬ Own m rv ps R := fun ho => by have := HM.out.lt R ho; omega
                  have h8o : ¬ Own m rv ps (w.heap.size + 1) := fun ho => by have := HM.out.lt _ ho; omega
                  have hR5 := HRc.out.keeps hk5 hRo
                  have h85 := HR82.out.keeps hk5 h8o
                  have r3c := hR5.cell 3
                  have r2c := hR5.cell 2
                  have r3f' := hR5.free 3
                  have r2f' := hR5.free 2
                  simp only [replyCells, List.getElem?_toArray, List.getElem?_cons_zero, List.getElem?_cons_succ] at r3c r2c
                  have HR5 := Lib.hid hR5; clear hR5
                  have H85 := Lib.hid h85; clear h85
                  have HK5 := Lib.hid hk5w; clear hk5 hk5w
                  have HM5 := Lib.hid hm5; clear hm5
                  have HBS := Lib.hid hbs; clear hbs
                  go_wp2_with fail
                  go_meet
                  have hset : Keeps (fun x => x = R) w5 ((w5.setCell ⟨R, 3, none⟩ (.int .i64 (k : Int))).setCell ⟨R, 2, none⟩ (.int .i64 s)) := ((Keeps.refl (fun x => x = R) w5).setCell (p := ⟨R, 3, none⟩) (fun _ => rfl) _).setCell (p := ⟨R, 2, none⟩) (fun _ => rfl) _
                  refine ⟨s, k, .slice none 0 0, [], rv, ps, _, ?_, H85.out.keeps hset (by show ¬ _ = R; omega), Owns.nil _ _, HM5.out.keeps hset (fun x hx e => hRo (e ▸ hx)) ?_, HK5.out.trans hset (fun x hx e => by omega), fun k hk => .inl hk, ?_⟩
                  · have := (HR5.out.set 3 (.int .i64 (k : Int))).set 2 (.int .i64 s)
                    exact this
                  · rintro g cur hc rfl
                    have := HR5.out; unfold CellsAt at this; rw [this] at hc; simp at hc
                  · exact doS_blocks H35.out HBAD.out HLOST.out HST.out (by rw [← HNI.out]; exact HN.out) HBS.out
                · have hnv : nI = done := by have := HN.out; simp at this; omega
                  rw [hnv] at HBLK
                  clear hnv
                  go_wp2_with fail
                  refine (HBLK.out wc HBW.out).mono ?_
                  rintro e w5 ⟨k, s, hbs, rfl, hm5, hk5⟩
                  have hk5w : Keeps (Own m rv ps) w w5 := (HKC.out.mono (fun _ _ h => h.elim)).trans hk5 (fun _ _ h => h)
                  have hRo : ¬ Own m rv ps R := fun ho => by have := HM.out.lt R ho; omega
                  have h8o : ¬ Own m rv ps (w.heap.size + 1) := fun ho => by have := HM.out.lt _ ho; omega
                  have hR5 := HRc.out.keeps hk5 hRo
                  have h85 := HR82.out.keeps hk5 h8o
                  have r3c := hR5.cell 3
                  have r2c := hR5.cell 2
                  have r3f' := hR5.free 3
                  have r2f' := hR5.free 2
                  simp only [replyCells, List.getElem?_toArray, List.getElem?_cons_zero, List.getElem?_cons_succ] at r3c r2c
                  have HR5 := Lib.hid hR5; clear hR5
                  have H85 := Lib.hid h85; clear h85
                  have HK5 := Lib.hid hk5w; clear hk5 hk5w
                  have HM5 := Lib.hid hm5; clear hm5
                  have HBS := Lib.hid hbs; clear hbs
                  go_wp2_with fail
                  go_meet
                  have hset : Keeps (fun x => x = R) w5 ((w5.setCell ⟨R, 3, none⟩ (.int .i64 (k : Int))).setCell ⟨R, 2, none⟩ (.int .i64 s)) := ((Keeps.refl (fun x => x = R) w5).setCell (p := ⟨R, 3, none⟩) (fun _ => rfl) _).setCell (p := ⟨R, 2, none⟩) (fun _ => rfl) _
                  refine ⟨s, k, .slice none 0 0, [], rv, ps, _, ?_, H85.out.keeps hset (by show ¬ _ = R; omega), Owns.nil _ _, HM5.out.keeps hset (fun x hx e => hRo (e ▸ hx)) ?_, HK5.out.trans hset (fun x hx e => by omega), fun k hk => .inl hk, ?_⟩
                  · have := (HR5.out.set 3 (.int .i64 (k : Int))).set 2 (.int .i64 s)
                    exact this
                  · rintro g cur hc rfl
                    have := HR5.out; unfold CellsAt at this; rw [this] at hc; simp at hc
                  · exact doS_blocks H35.out HBAD.out HLOST.out HST.out (by rw [← HNI.out]; exact HN.out) HBS.out
          · have hl2 : blk = false := by rw [HBL.out]; simpa using h35
            subst hl2
            have cT := HCT2.out
            have H35 := Lib.hid h35; clear h35
            have HBW : Hid (Below w.heap.size w wc) := Lib.hid (HKC.out.below (Nat.le_refl _) (fun _ _ h => h))
            have hRl2 : R < wc.heap.size := HRc.out.lt
            cases lost with
            | true =>
              go_wp2_with fail
              go_meet
              exact ⟨0, 0, .slice none 0 0, [], rv, ps, S, HRc.out, HR82.out, Owns.nil _ _, HM.out.keeps HKC.out (fun _ _ h => h) (fun _ _ _ h => h), HKC.out.mono (fun _ _ h => h.elim), fun k hk => .inl hk, doS_lost H35.out HBAD.out HLOST.out HST.out⟩
            | false =>
              have HCH := Lib.hid (change_any m rv ps S t (.slice da dn dc) false wc (HM.out.keeps HKC.out (fun _ _ h => h) (fun _ _ _ h => h)) HG.out HST.out.symm H35.out)
              unfold Tk.cells at HCH
              go_wp2_with fail
              refine HCH.out.mono ?_
              rintro e w5 ⟨r, rv', ps', rfl, hown, hm5, hk5, hnew⟩
              obtain ⟨ra, rn, rc, rfl⟩ : ∃ a n c, r = .slice a n c := by obtain ⟨a, c, e, _⟩ := hown.bytes.form; exact ⟨_, _, _, e⟩
              have hk5w : Keeps (Own m rv ps) w w5 := (HKC.out.mono (fun _ _ h => h.elim)).trans hk5 (fun _ _ h => h)
              have hRo : ¬ Own m rv ps R := fun ho => by have := HM.out.lt R ho; omega
              have h8o : ¬ Own m rv ps (w.heap.size + 1) := fun ho => by have := HM.out.lt _ ho; omega
              have hR5 := HRc.out.keeps hk5 hRo
              have h85 := HR82.out.keeps hk5 h8o
              have r4c := hR5.cell 4
              have r4f' := hR5.free 4
              simp only [replyCells, List.getElem?_toArray, List.getElem?_cons_zero, List.getElem?_cons_succ] at r4c
              have hRn : ¬ Own m rv' ps' R := fun ho => (hnew R ho).elim hRo (fun h => by omega)
              have HR5 := Lib.hid hR5; clear hR5
              have H85 := Lib.hid h85; clear h85
              have HK5 := Lib.hid hk5w; clear hk5 hk5w
              have HM5 := Lib.hid hm5; clear hm5
              have HNW := Lib.hid hnew; clear hnew
              have HO5 := Lib.hid hown; clear hown
              go_wp2_with fail
              go_meet
              have hset : Keeps (fun x => x = R) w5 (w5.setCell ⟨R, 4, none⟩ (.slice ra rn rc)) := (Keeps.refl (fun x => x = R) w5).setCell (p := ⟨R, 4, none⟩) (fun _ => rfl) _
              refine ⟨0, 0, .slice ra rn rc, (changeS S t).1, rv', ps', (changeS S t).2, HR5.out.set 4 _, H85.out.keeps hset (by show ¬ _ = R; omega), hset.owns (Owns.mono HO5.out HBW.out.size) (fun x hx e => ?_), HM5.out.keeps hset (fun x hx e => hRn (e ▸ hx)) ?_, HK5.out.trans hset (fun x hx e => by omega), fun k hk => (HNW.out k hk).imp id (fun h => Nat.le_trans HBW.out.size h), doS_change H35.out HBAD.out HLOST.out HST.out⟩
              · have := (HO5.out.from x hx).1; omega
              · rintro g cur hc rfl
                have := HR5.out; unfold CellsAt at this; rw [this] at hc; simp at hc
        case rest =>
          obtain ⟨s, k, rd, d, rv', ps', S', hR, h8, hown, hm, hk, hnew, hds⟩ := hcut
          obtain ⟨ra, rn, rc, rfl⟩ : ∃ a n c, rd = .slice a n c := by obtain ⟨a, c, e, _⟩ := hown.bytes.form; exact ⟨_, _, _, e⟩
          clear r0 r1 r2 r3 r4
          have HEND := Lib.hid (fun W' (a1 : Keeps (fun x => x = R) wc W') (a2 : CellsAt W' (w.heap.size + 1) #[.int .i64 0, .int .i64 0, .int .i64 0, .int .i64 0, .slice none 0 0] 35) s' k' rd' d' a3 a4 => do_end (t := t) hm hR h8 hk hnew (by omega) a1 a2 (q := doS S t status done) (s' := s') (k' := k') (rd' := rd') (d' := d') a3 a4)
          have r0 := hR.cell 0
          have r1 := hR.cell 1
          have r2 := hR.cell 2
          have r3 := hR.cell 3
          have r4 := hR.cell 4
          have r2f := hR.free 2
          have r4f := hR.free 4
          have c0 := h8.cell 0
          have c1 := h8.cell 1
          have c2 := h8.cell 2
          have c3 := h8.cell 3
          have c4 := h8.cell 4
          have f0 := h8.free 0
          have f1 := h8.free 1
          have f2 := h8.free 2
          have f3 := h8.free 3
          have f4 := h8.free 4
          simp only [replyCells, List.getElem?_toArray, List.getElem?_cons_zero, List.getElem?_cons_succ] at r0 r1 r2 r3 r4 c0 c1 c2 c3 c4
          have hR8n : w.heap.size + 1 ≠ R := by omega
          have H8 := Lib.hid h8; clear h8
          have HDS := Lib.hid hds; clear hds
          have HOW := Lib.hid hown; clear hown
          clear hR hm hk hnew HRc HR82 HKX
          have hcase : (bad = true ∧ s = 0) ∨ (bad = false ∨ (bad = true ∧ (s == 0) = false)) := by
            cases bad
            · exact .inr (.inl rfl)
            · by_cases h : s = 0
              · exact .inl ⟨rfl, h⟩
              · exact .inr (.inr ⟨rfl, by simp [h]⟩)
          rcases hcase with ⟨rfl, rfl⟩ | hcase
          · go_wp2_with fail
            have hset : Keeps (fun x => x = R) wc ((wc.setCell ⟨R, 2, none⟩ (.int .i64 status)).setCell ⟨R, 4, none⟩ (.slice none 0 0)) := ((Keeps.refl (fun x => x = R) wc).setCell (p := ⟨R, 2, none⟩) (fun _ => rfl) _).setCell (p := ⟨R, 4, none⟩) (fun _ => rfl) _
            have h82 := H8.out.keeps hset hR8n
            have hfin := do_store h82 t status k (.slice none 0 0)
            refine bodyPost_ret (v := .agg (replyCells t status k (.slice none 0 0))) (results_cell (b := w.heap.size + 1) (cs := (replyCells t status k (.slice none 0 0)).toList) rfl _ rfl hfin.1.range Try.underlying35 rfl (by kernel_rfl)) rfl ?_
            exact HEND.out _ hset h82 status k _ [] (Owns.nil _ _) (by rw [HDS.out]; simp)
          · have hne : ¬ (bad = true ∧ s = 0) := by rcases hcase with e | ⟨_, e⟩ <;> simp_all
            have HNE := Lib.hid hne; clear hne
            rcases hcase with rfl | ⟨rfl, e0⟩
            all_goals
              go_wp2_with fail
              have hfin := do_store H8.out t s k (.slice ra rn rc)
              refine bodyPost_ret (v := .agg (replyCells t s k (.slice ra rn rc))) (results_cell (b := w.heap.size + 1) (cs := (replyCells t s k (.slice ra rn rc)).toList) rfl _ rfl hfin.1.range Try.underlying35 rfl (by kernel_rfl)) rfl ?_
              exact HEND.out _ (Keeps.refl _ _) H8.out s k _ d HOW.out (by rw [HDS.out, if_neg HNE.out, if_neg HNE.out])
end Go.Proofs.Ytmanldcohbegkaa
