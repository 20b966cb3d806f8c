/-
  The model: refusal: a resize that looks for blocks beyond. (Written by gen_mdrefusez.py.)
-/
import Derived.Test.YtmanldcohbegkaaMdRefuseB
import Derived.Maps.RangeRun
namespace Go.Proofs.Ytmanldcohbegkaa
open Go.RowKit
set_option linter.unusedVariables false
set_option linter.unusedSimpArgs false
open Go.ChangeMaps (setBlock)

theorem setBlock_below {w : World} {B r : Nat} (o : Obj) (hr : B ≤ r) : Below B w (setBlock w r o) := ⟨rfl, rfl, rfl, by simp [setBlock], fun k hk => by
  show (w.heap.setIfInBounds r o)[k]? = _
  rw [Array.getElem?_setIfInBounds_ne (by omega)]⟩
theorem setBlock_at {w : World} {r : Nat} (o : Obj) (hr : r < w.heap.size) : (setBlock w r o).heap[r]? = some o := by
  show (w.heap.setIfInBounds r o)[r]? = _
  rw [Array.getElem?_setIfInBounds_self]; simp [hr]

set_option maxRecDepth 100000 in
set_option maxHeartbeats 6400000 in
theorem rf_z_loop [Zs] (m : Nat) (rv : Value) (ps : List (Nat × Nat)) (S : Mo) (t : Tk) (da : Option Addr) (dn dc : Nat) (lost : Bool) (w : World) (h : ModelIs w m rv ps S) (hlen : ps.length ≤ 8) (hop : t.op = 9) (hsz : sizedB t.siz = true) (i p b : Nat) (v : Vo) (hat : S.at t.vol = some (i, v)) (hp : ps[i]? = some (p, b)) (KK : Int) (hKK : KK = if inUseB v t.siz = true then 33 else 0) :
    Calls Try.prog 23 #[.pointer (some ⟨m, 0, none⟩), .agg (t.cells (.slice da dn dc)), .bool false] w fun e w' => e = .returned (.int .i64 KK) ∧ Below w.heap.size w w' := by
  have hb1 : Below w.heap.size w (w.alloc (.cells (t.cells (.slice da dn dc)) 30)) := allocBelow w _
  have HF := Lib.hid (find_any m rv ps S t.vol _ (h.below hb1) hlen)
  have hml := h.head.lt
  have hptr : ptrOf ps (S.find t.vol) = some ⟨p, 0, none⟩ := by rw [(Mo.at_some hat).1]; simp [ptrOf, hp]
  rw [hptr] at HF
  have hvp : VolAt w p b v := h.vol i _ _ hp (Mo.at_some hat).2
  have hpl := hvp.str.lt
  have HV := Lib.hid hvp; clear hvp
  have HKK := Lib.hid hKK; clear hKK
  have c0 := fun j => (CellsAt.new w (t.cells (.slice da dn dc)) 30).cell j
  have HC0 := Lib.hid c0
  have HM := Lib.hid h
  clear h c0
  unfold Tk.cells at HC0 HF ⊢
  rw [hop] at HC0 HF ⊢
  go_enter Try.func23, Try.ntmps23
  go_wp2_with fail
  refine HF.out.mono ?_
  rintro e w1 ⟨rfl, hb2⟩
  have hT1 : w.heap.size < w1.heap.size := by have := hb2.size; simp at this; omega
  have hk1 : Keeps (fun _ => False) w w1 := ((Keeps.refl _ w).alloc _).trans (Keeps.of_below hb2) (fun _ _ h => h)
  have c1 := fun j => (hb2.cell (p := ⟨w.heap.size, j, none⟩) (by simp)).trans (HC0.out j)
  have HM1 := Lib.hid (HM.out.keeps hk1 (fun _ _ h => h) (fun _ _ _ h => h))
  have HB1 := Lib.hid (hk1.below (B := w.heap.size) (Nat.le_refl _) (fun _ _ h => h)); clear hb2
  have HK1 := Lib.hid hk1; clear hk1
  have e2 := c1 2
  have e6 := c1 6
  have e7 := c1 7
  have e8 := c1 8
  have e9 := c1 9
  have e10 := c1 10
  simp only [List.getElem?_toArray, List.getElem?_cons_zero, List.getElem?_cons_succ] at e2 e6 e7 e8 e9 e10
  clear c1
  go_wp2_with fail
  refine (sized_any t.siz w1).mono ?_
  rintro r w2 ⟨rfl, rfl⟩
  rw [hsz]
  obtain ⟨es, hml, hbe, hda⟩ := HV.out.map
  obtain ⟨es0, clock, hb0, he0, hst⟩ := hml.raw
  have hbl : b < w.heap.size := HV.out.map.lt
  have hk1 : ∀ x ∈ es0.toList, ∃ k : Int, x.key = .int .i64 k ∧ ∃ q ∈ v.bl, q.1 = k := by
    intro x hx
    have h1 : (x.key, x.val) ∈ es0.toList.map (fun e => (e.key, e.val)) := List.mem_map.2 ⟨x, hx, rfl⟩
    rw [he0, List.map_map] at h1
    obtain ⟨q, hq, e⟩ := List.mem_map.1 h1
    simp only [Function.comp, Prod.mk.injEq] at e
    refine ⟨q.1, e.1.symm, (q.1, q.2.2), ?_, rfl⟩
    rw [hbe]; exact List.mem_map.2 ⟨q, hq, rfl⟩
  have hk2 : ∀ q ∈ v.bl, ∃ x ∈ es0.toList, x.key = .int .i64 q.1 := by
    intro q hq
    rw [hbe] at hq
    obtain ⟨z, hz, rfl⟩ := List.mem_map.1 hq
    have h1 : (Value.int .i64 z.1, z.2.1) ∈ (es.map fun e => (e.1, e.2.1)).map fun p => (Value.int .i64 p.1, p.2) := by
      rw [List.map_map]; exact List.mem_map.2 ⟨z, hz, rfl⟩
    rw [← he0] at h1
    obtain ⟨x, hx, e⟩ := List.mem_map.1 h1
    simp only [Prod.mk.injEq] at e
    exact ⟨x, hx, e.1⟩
  have HK2 := Lib.hid hk2; clear hk2
  have HKk := Lib.hid hk1; clear hk1
  have HST := Lib.hid hst; clear hst
  have HDA := Lib.hid hda; clear hda
  clear hml hbe he0
  go_wp2_with fail
  go_quiet (fail)
  obtain ⟨W, hW⟩ : ∃ W, W = w2.drewN nq := ⟨_, rfl⟩
  rw [← hW]
  have hBW : Below w.heap.size w W := by rw [hW]; exact below_drewN HB1.out _
  have hszW : w.heap.size < W.heap.size := by rw [hW, drewN_eq]; exact hT1
  have f8 : W.cell? ⟨w.heap.size, 8, none⟩ = some (.int .i64 t.siz) := by rw [hW, drewN_eq]; exact e8
  have c3 : W.cell? ⟨p, 3, none⟩ = some (.map (some b)) := by
    have h3 := HV.out.str.cell 3
    simp only [Vo.cells, List.getElem?_toArray, List.getElem?_cons_zero, List.getElem?_cons_succ] at h3
    exact (hBW.cell (p := ⟨p, 3, none⟩) hpl).trans h3
  have hbW : W.heap[b]? = some (.map es0 clock) := (hBW.block b hbl).trans hb0
  have hrg := run_range_map (P := Try.prog) W 64 3 28 b es0 clock Try.underlying64 hbW
  have HBW := Lib.hid hBW; clear hBW
  clear hW e2 e6 e7 e8 e9 e10 hb0
  go_wp2_with fail
  go_loopw [] (fun wr => ∃ (seen : Array Nat) (c0 : Nat), clock ≤ c0 ∧ wr.heap[W.heap.size]? = some (.mapIter (some b) clock seen c0) ∧ Below W.heap.size W wr ∧ ∀ x ∈ es0.toList, seen.contains x.born = true → ∀ k : Int, x.key = .int .i64 k → ¬ t.siz ≤ k) (fun wr => (leftOf es0 (wr.iterSeen W.heap.size)).size)
  case atStart => exact ⟨#[], clock, Nat.le_refl _, heap_at rfl, allocBelow _ _, fun x _ h => by simp at h⟩
  case round =>
    obtain ⟨seen, c0, hc0, hit, hbel, hno⟩ := hrel
    have hWr := hbel.size
    have hbr : wr.heap[b]? = some (.map es0 clock) := (hbel.block b (by omega)).trans hbW
    have g8 : wr.cell? ⟨w.heap.size, 8, none⟩ = some (.int .i64 t.siz) := (hbel.cell (p := ⟨w.heap.size, 8, none⟩) hszW).trans f8
    have law := run_next_at (P := Try.prog) wr 0 W.heap.size b clock c0 seen es0 clock hit hbr HST.out.1 hc0
    have HNo := Lib.hid hno; clear hno
    have HB := Lib.hid hbel; clear hbel
    have his : wr.iterSeen W.heap.size = seen := by unfold World.iterSeen; rw [hit]
    rcases law with ⟨h0, hrun⟩ | ⟨e, he, w3, hal, hrun⟩
    · have hnx : ∀ ty, (Instr.next (.pointer (some ⟨W.heap.size, 0, none⟩)) false ty).run Try.prog wr = _ := fun _ => hrun
      have hin : inUseB v t.siz = false := by
        unfold inUseB
        rw [List.any_eq_false]
        intro q hq
        obtain ⟨x, hx, hxk⟩ := HK2.out q hq
        have := HNo.out x hx (all_seen es0 seen h0 x hx) q.1 hxk
        simpa using this
      have HI := Lib.hid hin; clear hin h0 hrun his
      go_wp2
      go_ret
      exact ⟨by rw [HKK.out, HI.out]; rfl, HBW.out.trans (HB.out.mono (by omega))⟩
    · obtain ⟨kk, hkk, hkq⟩ := HKk.out e (mem_left he).1
      rw [hkk] at hrun
      have hnx : ∀ ty, (Instr.next (.pointer (some ⟨W.heap.size, 0, none⟩)) false ty).run Try.prog wr = _ := fun _ => hrun
      have hb3 : Below W.heap.size W w3 := by
        rcases hal with rfl | rfl
        · exact HB.out
        · exact HB.out.drew
      have hs3 : W.heap.size < w3.heap.size := by
        have h1 : W.heap.size < wr.heap.size := (Array.getElem?_eq_some_iff.1 hit).1
        rcases hal with rfl | rfl
        · exact h1
        · exact h1
      obtain ⟨w4, hw4⟩ : ∃ w4, w4 = setBlock w3 W.heap.size (.mapIter (some b) clock (seen.push e.born) clock) := ⟨_, rfl⟩
      have hb4 : Below W.heap.size W w4 := by rw [hw4]; exact hb3.trans (setBlock_below _ (Nat.le_refl _))
      have hit4 : w4.heap[W.heap.size]? = some (.mapIter (some b) clock (seen.push e.born) clock) := by rw [hw4]; exact setBlock_at _ hs3
      have hbr4 : w4.heap[b]? = some (.map es0 clock) := (hb4.block b (by omega)).trans hbW
      have g84 : w4.cell? ⟨w.heap.size, 8, none⟩ = some (.int .i64 t.siz) := (hb4.cell (p := ⟨w.heap.size, 8, none⟩) hszW).trans f8
      have hen := run_entry_at (P := Try.prog) w4 W.heap.size b clock seen es0 clock e hit4 hbr4 (mem_left he).1 HST.out.2
      rw [hkk] at hen
      rw [← hw4] at hrun hnx
      have his4 : w4.iterSeen W.heap.size = seen.push e.born := by unfold World.iterSeen; rw [hit4]
      have HE := Lib.hid he; clear he
      have HB4 := Lib.hid hb4; clear hb4
      have HW4 := Lib.hid hit4; clear hit4
      clear hw4 hb3 hal hrun
      by_cases hge : t.siz ≤ kk
      · have hge2 : decide (t.siz ≤ kk) = true := by simp [hge]
        have hin : inUseB v t.siz = true := by
          unfold inUseB
          rw [List.any_eq_true]
          obtain ⟨q, hq, rfl⟩ := hkq
          exact ⟨q, hq, by simpa using hge⟩
        have HI := Lib.hid hin; clear hin his his4
        go_wp2
        go_ret
        exact ⟨by rw [HKK.out, HI.out]; rfl, HBW.out.trans (HB4.out.mono (by omega))⟩
      · have hge2 : decide (t.siz ≤ kk) = false := by simp; omega
        have HIS := Lib.hid his; clear his
        have HIS4 := Lib.hid his4; clear his4
        go_wp2
        go_roundw
        case rel =>
          refine ⟨seen.push e.born, clock, Nat.le_refl _, HW4.out, HB4.out, fun x hx hc k hk => ?_⟩
          rw [contains_push] at hc
          rcases Bool.or_eq_true _ _ ▸ hc with h1 | h1
          · exact HNo.out x hx h1 k hk
          · have : x = e := born_inj HST.out.2 hx (mem_left HE.out).1 (beq_iff_eq.1 h1)
            subst this
            rw [hkk] at hk
            injection hk with _ hk
            rw [← hk]; exact hge
        case measure =>
          rw [HIS4.out, HIS.out]
          exact left_shrinks es0 seen e HE.out
end Go.Proofs.Ytmanldcohbegkaa
