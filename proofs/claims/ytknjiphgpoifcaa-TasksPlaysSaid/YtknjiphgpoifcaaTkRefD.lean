/-
  The document's queue: Put.
-/
import Derived.Test.YtknjiphgpoifcaaTkRefA
import Derived.Test.YtknjiphgpoifcaaTkPut
import Derived.Test.YtknjiphgpoifcaaTkSame
namespace Go.Proofs.Ytknjiphgpoifcaa
open Go.RowKit

theorem Try.info_oneR : (Try.prog.info? 65).map (fun i => (i.zero, i.size, i.bytes)) = some (some (.agg #[.int .i64 0, .int .i64 0, .int .i64 0, .bool false, .bool false, .int .i64 0, .int .i64 0, .int .i64 0, .int .i64 0, .int .i64 0, .slice none 0 0, .bool false]), 12, 104) := by kernel_rfl

def RPut (q room : Nat) (l : List El) (F : Nat → Prop) (t : Tk) (w : World) (e : Ending) (w' : World) : Prop :=
      ((l.any fun x => x.t.cmd == t.cmd) = true ∧ e = .returned (.int .i64 46) ∧ Below w.heap.size w w') ∨
      ((l.any fun x => x.t.cmd == t.cmd) = false ∧ room ≤ l.length ∧ e = .returned (.int .i64 15) ∧ Below w.heap.size w w') ∨
      ((l.any fun x => x.t.cmd == t.cmd) = false ∧ l.length < room ∧ e = .returned (.int .i64 0) ∧ ∃ dv', QAt 65 w' q room (l ++ [⟨t, dv', false⟩]) (fun k => F k ∨ (w.heap.size ≤ k ∧ k < w'.heap.size)) ∧ Keeps F w w')

set_option maxRecDepth 100000 in
set_option maxHeartbeats 6400000 in
theorem rput_any (q room : Nat) (l : List El) (F : Nat → Prop) (t : Tk) (dv : Value) (w : World) (h : QAt 65 w q room l F) (hd : BytesAt w dv t.data) (hdl : t.data.length ≤ 140737488355328) (hr8 : room ≤ 8) :
    Calls Try.prog 14 #[.pointer (some ⟨q, 0, none⟩), .agg (t.cells dv)] w (RPut q room l F t w) := by
  obtain ⟨av, hav, hrow⟩ := h.row
  have hle := h.le
  have hq := block_lt hav
  simp only at hq
  obtain ⟨ao, cap, rfl⟩ := hrow.shape
  obtain ⟨da, dc, rfl, _⟩ := hd.form
  have HR := Lib.hid hrow; clear hrow
  have HM := Lib.hid h.room
  have HD := Lib.hid hd; clear hd
  have HQ := Lib.hid h; clear h
  obtain ⟨W, hW⟩ : ∃ W, W = w.alloc (.cells (t.cells (.slice da t.data.length dc)) 32) := ⟨_, rfl⟩
  have HBW := Lib.hid (show Below w.heap.size w W by rw [hW]; exact allocBelow w _)
  have hsW : W.heap.size = w.heap.size + 1 := by rw [hW]; simp
  have c1 : ∀ j, W.cell? ⟨w.heap.size, j, none⟩ = (t.cells (.slice da t.data.length dc))[j]? := fun j => by rw [hW]; exact World.cell?_alloc_new _ _ _ _
  have f1 : ∀ j, W.frozen? ⟨w.heap.size, j, none⟩ = false := fun j => by rw [hW]; exact World.frozen?_alloc_new _ _ _ _
  have HRW0 := Lib.hid (HR.out.keeps (G := fun _ => False) (Keeps.of_below HBW.out) (fun _ _ h => h))
  have x1 : W.cell? ⟨q, 1, none⟩ = some (.slice ao l.length cap) := (HBW.out.cell (p := ⟨q, 1, none⟩) hq).trans hav
  have x0 : W.cell? ⟨q, 0, none⟩ = some (.int .i64 (room : Int)) := (HBW.out.cell (p := ⟨q, 0, none⟩) hq).trans HM.out
  clear hav
  have C1 := Lib.hid c1
  have F1 := Lib.hid f1
  unfold Tk.cells at c1
  unfold Tk.cells
  go_enter Try.func14, Try.ntmps14
  go_upto_region 1 with fail
  change Code.wp _ _ _ _ (w.alloc (.cells (t.cells (.slice da t.data.length dc)) 32))
  rw [← hW]
  clear hW
  go_wp2_with fail
  go_loopg [5] l.length (fun g s5 wx => ∃ (i m : Nat), s5 = .int .i64 i ∧ i + g = l.length ∧ wx = W.drewN m ∧ ∀ j x, j < i → l[j]? = some x → (x.t.cmd == t.cmd) = false)
  case atStart => exact ⟨0, 0, rfl, by omega, rfl, fun j x hj => by omega⟩
  case round =>
    obtain ⟨i, m, rfl, hig, rfl, hall⟩ := hrel
    have HA := Lib.hid hall; clear hall
    by_cases hi : i < l.length
    case pos =>
      obtain ⟨e, he⟩ : ∃ e, l[i]? = some e := ⟨l[i], List.getElem?_eq_getElem hi⟩
      obtain ⟨g, cap', e1⟩ := HRW0.out.form (by omega)
      injection e1 with e1 _ e2
      subst e1; subst e2
      have xc := HRW0.out.cell i e he 0 (by omega)
      simp only [El.cells, List.getElem?_cons_zero, Nat.add_zero] at xc
      have HE := Lib.hid he; clear he
      by_cases hc : e.t.cmd = t.cmd
      · have hb : (e.t.cmd == t.cmd) = true := by simp [hc]
        have HAny := Lib.hid (show (l.any fun x => x.t.cmd == t.cmd) = true from List.any_eq_true.2 ⟨e, List.mem_of_getElem? HE.out, hb⟩)
        clear hc
        go_wp2_with fail
        go_quiet (fail)
        go_wp2_with fail
        go_ret
        refine Or.inl ⟨HAny.out, rfl, ?_⟩
        simp only [drewN_eq]
        exact ⟨HBW.out.os, HBW.out.tape, HBW.out.output, HBW.out.size, HBW.out.block⟩
      · have hb : (e.t.cmd == t.cmd) = false := by rw [beq_eq_false_iff_ne]; exact hc
        have HBb := Lib.hid hb
        clear hc
        go_wp2_with fail
        go_quiet (fail)
        go_wp2_with fail
        go_roundg (gk - 1)
        case measure => omega
        case rel =>
          refine ⟨i + 1, _, by go_num, by omega, rfl, fun j x hj hx => ?_⟩
          rcases Nat.lt_or_eq_of_le (Nat.lt_succ_iff.1 hj) with h | h
          · exact HA.out j x h hx
          · subst h
            have := hx.symm.trans HE.out
            injection this with this
            rw [this]; exact HBb.out
    case neg =>
      have HNo := Lib.hid (show (l.any fun x => x.t.cmd == t.cmd) = false from by
        rw [List.any_eq_false]
        intro x hx
        obtain ⟨j, hj, hjx⟩ := List.mem_iff_getElem.1 hx
        have := HA.out j x (by omega) (by rw [← hjx]; exact List.getElem?_eq_getElem hj)
        simp [this])
      by_cases hr : room ≤ l.length
      · have tr : decide ((room : Int) ≤ (l.length : Int)) = true := by simp; omega
        go_wp2_with fail
        go_quiet (fail)
        go_wp2_with fail
        go_ret
        refine Or.inr (Or.inl ⟨HNo.out, hr, rfl, ?_⟩)
        simp only [drewN_eq]
        exact ⟨HBW.out.os, HBW.out.tape, HBW.out.output, HBW.out.size, HBW.out.block⟩
      · have tr : decide ((room : Int) ≤ (l.length : Int)) = false := by simp; omega
        go_wp2_with fail
        go_quiet (fail)
        have HB2 := Lib.hid (show Below w.heap.size w ((W.drewN m).drewN nq) by simp only [drewN_eq]; exact ⟨HBW.out.os, HBW.out.tape, HBW.out.output, HBW.out.size, HBW.out.block⟩)
        have hs2 : ((W.drewN m).drewN nq).heap.size = w.heap.size + 1 := by simp only [drewN_eq]; exact hsW
        have C2 := Lib.hid (show ∀ j, ((W.drewN m).drewN nq).cell? ⟨w.heap.size, j, none⟩ = (t.cells (.slice da t.data.length dc))[j]? from fun j => by simp only [drewN_eq]; exact C1.out j)
        have F2 := Lib.hid (show ∀ j, ((W.drewN m).drewN nq).frozen? ⟨w.heap.size, j, none⟩ = false from fun j => by simp only [drewN_eq]; exact F1.out j)
        have x2 : ((W.drewN m).drewN nq).cell? ⟨q, 1, none⟩ = some (.slice ao l.length cap) := by simp only [drewN_eq]; exact x1
        generalize (W.drewN m).drewN nq = W2 at *
        clear C1 F1 x1 x0 c1 f1 HA tr HRW0 HBW hsW
        have HC2 := C2.out
        unfold Tk.cells at HC2
        go_upto_region 10 with (at_builtin; refine wpList_append_bytes rfl (.tmp 38) (.tmp 40) rfl W2.heap.size (.slice none 0 0) [] rfl (Owns.nil _ _) (.slice da t.data.length dc) t.data rfl (HD.out.later HB2.out) (by simp; omega) (Nat.le_refl _) ?_; intro v' w3 hown hgrow; rw [List.nil_append] at hown; obtain ⟨ea, ec, rfl, _⟩ := (Owns.bytes hown).form)
        have hb3 : Below W2.heap.size W2 w3 := (Below.refl _ _).grown hgrow (Nat.le_refl _) (fun k hk => by simp [Value.ownBlock] at hk)
        have hsz3 := hb3.size
        have c3 : ∀ j, w3.cell? ⟨w.heap.size, j, none⟩ = (t.cells (.slice da t.data.length dc))[j]? := fun j => (hb3.cell (p := ⟨w.heap.size, j, none⟩) (by simp; omega)).trans (C2.out j)
        have f3 : ∀ j, w3.frozen? ⟨w.heap.size, j, none⟩ = false := fun j => (hb3.frozen (p := ⟨w.heap.size, j, none⟩) (by simp; omega)).trans (F2.out j)
        have x3 : w3.cell? ⟨q, 1, none⟩ = some (.slice ao l.length cap) := (hb3.cell (p := ⟨q, 1, none⟩) (by simp; omega)).trans x2
        have HO := Lib.hid hown; clear hown
        have HB3 := Lib.hid (HB2.out.trans (hb3.mono (by omega))); clear hb3
        have f3q : w3.frozen? ⟨q, 1, none⟩ = false := (HB3.out.frozen (p := ⟨q, 1, none⟩) hq).trans (HQ.out.free 1)
        have cB : ∀ j, (w3.setCell ⟨w.heap.size, 10, none⟩ (.slice ea t.data.length ec)).cell? ⟨w.heap.size, j, none⟩ = (t.cells (.slice ea t.data.length ec))[j]? := fun j => by
          by_cases hj : j = 10
          · subst hj
            rw [World.cell?_setCell_same _ _ _ (c3 10)]; rfl
          · rw [World.cell?_setCell_other _ _ _ _ (by simp <;> omega), c3 j]
            unfold Tk.cells
            match j, hj with
            | 0, _ | 1, _ | 2, _ | 3, _ | 4, _ | 5, _ | 6, _ | 7, _ | 8, _ | 9, _ => rfl
            | j + 11, _ => rfl
        have xq : (w3.setCell ⟨w.heap.size, 10, none⟩ (.slice ea t.data.length ec)).cell? ⟨q, 1, none⟩ = some (.slice ao l.length cap) := (World.cell?_setCell_other _ _ _ _ (by simp <;> omega)).trans x3
        have fq : (w3.setCell ⟨w.heap.size, 10, none⟩ (.slice ea t.data.length ec)).frozen? ⟨q, 1, none⟩ = false := by simpa using f3q
        have HBW := Lib.hid (HB3.out.setCell (p := ⟨w.heap.size, 10, none⟩) (Nat.le_refl _) (.slice ea t.data.length ec))
        have HOW := Lib.hid (show Owns W2.heap.size (w3.setCell ⟨w.heap.size, 10, none⟩ (.slice ea t.data.length ec)) _ _ from ownsRow_setCell_below HO.out (by simp <;> omega) _)
        have HRW := Lib.hid (HR.out.keeps (G := fun _ => False) (Keeps.of_below HBW.out) (fun _ _ h => h))
        have hszW : W2.heap.size ≤ (w3.setCell ⟨w.heap.size, 10, none⟩ (.slice ea t.data.length ec)).heap.size := by simpa [World.setCell] using hsz3
        unfold Tk.cells at c3
        go_upto_region 11 with fail
        clear c3 f3 x3 f3q x2 HC2
        generalize w3.setCell ⟨w.heap.size, 10, none⟩ (.slice ea t.data.length ec) = V at *
        obtain ⟨i0, hi0, hz0, hz1, hz2⟩ := info_parts Try.info_oneR
        have HI := Lib.hid hi0; clear hi0
        have HZ0 := Lib.hid hz0; clear hz0
        have HZ1 := Lib.hid hz1; clear hz1
        have HZ2 := Lib.hid hz2; clear hz2
        have nq1 : some (⟨q, 1, none⟩ : Addr).block ≠ (Value.slice ao l.length cap).ownBlock := fun e => (HR.out.blk q e.symm).2 rfl
        unfold Tk.cells at cB
        have vV : ∀ o, (V.alloc o).cell? ⟨q, 1, none⟩ = some (.slice ao l.length cap) := fun o => (World.cell?_alloc_lt V o ⟨q, 1, none⟩ (by simp; omega)).trans xq
        go_region_law (refine step_append_lies _ (by rfl) (.tmp 48) (.tmp 51) 47 (by rfl) 0 65 i0 _ 12 104 Try.underlying47 HI.out HZ0.out HZ1.out HZ2.out rfl (by omega) (.slice ao l.length cap) l.length (flat l) (by rfl) ((World.ownsRow.alloc HRW.out.own _).drew) ⟨V.heap.size, 0, none⟩ 1 1 (El.cells ⟨t, .slice ea t.data.length ec, false⟩) (by rfl) (by rfl) (World.news_of_block (cs := (El.cells ⟨t, .slice ea t.data.length ec, false⟩).toArray) (t := 65) (fr := (0, 0)) (heap_alloc_new V _)) (by simp [El.cells, Value.oneCell']) (by omega) (by unfold maxLen; omega) (by omega) (by simp) (V.heap.size + 1) (by simp) ?_; intro g cap4 w4 hown4 hgrow hat hlt4; have y1 : w4.cell? ⟨q, 1, none⟩ = some (.slice ao l.length cap) := (hgrow.cell_far ⟨q, 1, none⟩ (by simp; omega) nq1).trans ((World.cell?_alloc_lt V _ ⟨q, 1, none⟩ (by simp; omega)).trans xq); have y2 : w4.frozen? ⟨q, 1, none⟩ = false := (hgrow.frozen_far ⟨q, 1, none⟩ (by simp; omega) nq1).trans ((World.frozen?_alloc_old V _ ⟨q, 1, none⟩ (by simp; omega)).trans fq))
        all_goals
          go_wp2
          go_ret
          have hfin := put_final (el := ⟨t, .slice ea t.data.length ec, false⟩) HQ.out HRW.out HBW.out HOW.out.bytes hdl (HOW.out.lies.mono fun k hk => ⟨by omega, hk.2⟩) (by omega) rfl hgrow hown4 hat hlt4 (by rw [y1]; rfl)
          exact Or.inr (Or.inr ⟨HNo.out, by omega, rfl, _, hfin.1, hfin.2⟩)
end Go.Proofs.Ytknjiphgpoifcaa
