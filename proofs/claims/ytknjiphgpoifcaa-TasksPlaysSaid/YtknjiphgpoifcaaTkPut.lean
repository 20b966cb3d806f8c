/-
  New, Len, Put.
-/
import Derived.Test.YtknjiphgpoifcaaTkIndex
import Derived.Deep.RegionHeld3
import Derived.Deep.RegionLaw
import Derived.Deep.RegionLawGrows
import Derived.Deep.QuietTactic
import Derived.BigQuiet
namespace Go.Proofs.Ytknjiphgpoifcaa
open Go.RowKit

theorem Try.info_one : (Try.prog.info? 58).map (fun i => (i.zero, i.size, i.bytes)) = some (some (.agg #[.int .i64 0, .int .i64 0, .int .i64 0, .bool false, .bool false, .int .i64 0, .int .i64 0, .int .i64 0, .int .i64 0, .int .i64 0, .slice none 0 0, .bool false]), 12, 104) := by kernel_rfl

theorem newQ_yes (room : Nat) (w : World) (h1 : 1 ≤ room) (h2 : room ≤ 8) :
    Calls Try.prog 6 #[.int .i64 (room : Int)] w fun e w' => e = .returned (.pointer (some ⟨w.heap.size, 0, none⟩)) ∧ QAt 58 w' w.heap.size room [] (· = w.heap.size) ∧ Below w.heap.size w w' ∧ w'.heap.size = w.heap.size + 1 := by
  have t1 : decide ((room : Int) < 1) = false := by simp; omega
  have t2 : decide ((8 : Int) < (room : Int)) = false := by simp; omega
  go_enter Try.func6, Try.ntmps6
  go_wp2
  go_ret
  refine ⟨rfl, ⟨rfl, fun k hk => by rw [hk]; simp, by simp, fun j => by simp, by simp, .slice none 0 0, by simp, World.ownsRow_nil _ _ _ _, fun g hg => by simp [Value.ownBlock] at hg, fun e he => by simp at he⟩, (Below.refl _ _).alloc (Nat.le_refl _) _, by simp⟩
theorem newQ_no (room : Int) (w : World) (h : room < 1 ∨ 8 < room) :
    Calls Try.prog 6 #[.int .i64 room] w fun e w' => e = .returned (.pointer none) ∧ w = w' := by
  by_cases h1 : room < 1
  · have t1 : decide (room < 1) = true := by simp [h1]
    clear h
    go_enter Try.func6, Try.ntmps6
    go_wp2
    go_ret
    exact ⟨rfl, rfl⟩
  · have t1 : decide (room < 1) = false := by simp; omega
    have t2 : decide (8 < room) = true := by simp; omega
    clear h
    go_enter Try.func6, Try.ntmps6
    go_wp2
    go_ret
    exact ⟨rfl, rfl⟩

theorem len_any (T q room : Nat) (l : List El) (F : Nat → Prop) (w : World) (h : QAt T w q room l F) :
    Calls Try.prog 10 #[.pointer (some ⟨q, 0, none⟩)] w fun e w' => e = .returned (.int .i64 l.length) ∧ w = w' := by
  obtain ⟨av, hav, hrow⟩ := h.row
  obtain ⟨ao, cap, rfl⟩ := hrow.shape
  clear h hrow
  go_enter Try.func10, Try.ntmps10
  go_wp2
  go_ret
  exact ⟨rfl, rfl⟩

set_option maxRecDepth 100000 in
set_option maxHeartbeats 1600000 in
theorem contains_any (T q : Nat) (av : Value) (l : List El) (F : Nat → Prop) (cb : Nat) (n : Int) (w : World) (h : RowAt T w q av l F) (hle : l.length ≤ 8) (hF : ∀ k, F k → k < w.heap.size) (hc : w.cell? ⟨cb, 0, none⟩ = some (.int .i64 n)) :
    Calls Try.prog 22 #[av, .func (.func 23) #[] #[.pointer (some ⟨cb, 0, none⟩)]] w fun r w' => r = .returned (.bool (decide (0 ≤ findI (p_put n) l))) ∧ Below w.heap.size w w' := by
  have H := Lib.hid (index_put T q av l F cb n w h hle hF hc)
  clear h hc
  go_enter Try.func22, Try.ntmps22
  go_wp2_with (go_at_call 32; refine H.out.mono ?_; rintro r w1 ⟨rfl, hb⟩)
  go_ret
  exact ⟨rfl, hb⟩

set_option maxRecDepth 100000 in
set_option maxHeartbeats 3200000 in
theorem put_found (q room : Nat) (l : List El) (F : Nat → Prop) (t : Tk) (dv : Value) (w : World) (h : QAt 58 w q room l F) (hf : 0 ≤ findI (p_put t.cmd) l) :
    Calls Try.prog 8 #[.pointer (some ⟨q, 0, none⟩), .agg (t.cells dv)] w fun e w' => e = .returned (.int .i64 46) ∧ Below w.heap.size w w' := by
  obtain ⟨av, hav, hrow⟩ := h.row
  have hle := h.le
  have hq := block_lt hav
  simp only at hq
  have HR := Lib.hid hrow; clear hrow
  have HQ := Lib.hid h; clear h
  have Hf := Lib.hid hf; clear hf
  unfold Tk.cells
  have hmf : ∀ (fn : Fn) (first cap : Array Value) (w : World), (Instr.makeFunc fn first cap).run Try.prog w = .ok (.func fn first cap) w := fun _ _ _ _ => rfl
  go_enter Try.func8, Try.ntmps8
  go_wp2_with fail
  refine (contains_any 58 q av l F w.heap.size t.cmd _ (HR.out.keeps (G := fun _ => False) ((Keeps.refl _ _).alloc _) (fun _ _ h => h)) hle (fun k hk => by have := HQ.out.lt k hk; simp; omega) (by simp)).mono ?_
  rintro r w1 ⟨rfl, hb⟩
  have ht := decide_eq_true Hf.out
  have HB := Lib.hid hb; clear hb
  go_wp2
  go_ret
  exact ⟨rfl, ((Below.refl _ _).alloc (Nat.le_refl _) _).trans (HB.out.mono (by simp))⟩

theorem allocBelow (w : World) (o : Obj) : Below w.heap.size w (w.alloc o) := (Below.refl _ _).alloc (Nat.le_refl _) _

set_option maxRecDepth 100000 in
set_option maxHeartbeats 3200000 in
theorem put_full (q room : Nat) (l : List El) (F : Nat → Prop) (t : Tk) (dv : Value) (w : World) (h : QAt 58 w q room l F) (hf : findI (p_put t.cmd) l < 0) (hr : room ≤ l.length) :
    Calls Try.prog 8 #[.pointer (some ⟨q, 0, none⟩), .agg (t.cells dv)] w fun e w' => e = .returned (.int .i64 15) ∧ Below w.heap.size w w' := by
  obtain ⟨av, hav, hrow⟩ := h.row
  have hle := h.le
  have hq := block_lt hav
  simp only at hq
  obtain ⟨ao, cap, rfl⟩ := hrow.shape
  have HR := Lib.hid hrow; clear hrow
  have HV := Lib.hid hav; clear hav
  have HM := Lib.hid h.room
  have HQ := Lib.hid h; clear h
  have hmf : ∀ (fn : Fn) (first cap : Array Value) (w : World), (Instr.makeFunc fn first cap).run Try.prog w = .ok (.func fn first cap) w := fun _ _ _ _ => rfl
  have v0 : ∀ o, (w.alloc o).cell? ⟨q, 1, none⟩ = some (.slice ao l.length cap) := fun o => (World.cell?_alloc_lt w o ⟨q, 1, none⟩ hq).trans HV.out
  have hfi : decide (0 ≤ findI (p_put t.cmd) l) = false := by simp; omega
  have Hf := Lib.hid hf; clear hf
  unfold Tk.cells
  go_enter Try.func8, Try.ntmps8
  go_wp2_with fail
  refine (contains_any 58 q _ l F w.heap.size t.cmd _ (HR.out.keeps (G := fun _ => False) ((Keeps.refl _ _).alloc _) (fun _ _ h => h)) hle (fun k hk => by have := HQ.out.lt k hk; simp; omega) (by simp)).mono ?_
  rintro r w1 ⟨rfl, hb⟩
  rw [hfi]
  have x1 : w1.cell? ⟨q, 1, none⟩ = some (.slice ao l.length cap) := (hb.cell (p := ⟨q, 1, none⟩) (by simp; omega)).trans (v0 _)
  have x0 : w1.cell? ⟨q, 0, none⟩ = some (.int .i64 (room : Int)) := (hb.cell (p := ⟨q, 0, none⟩) (by simp; omega)).trans ((World.cell?_alloc_lt w _ ⟨q, 0, none⟩ hq).trans HM.out)
  have HB := Lib.hid ((allocBelow w _).trans (hb.mono (by simp))); clear hb v0
  have tr : decide ((room : Int) ≤ (l.length : Int)) = true := by simp; omega
  go_wp2_with fail
  go_quiet (fail)
  go_wp2
  go_ret
  exact ⟨rfl, by rw [drewN_eq]; exact ⟨HB.out.os, HB.out.tape, HB.out.output, HB.out.size, HB.out.block⟩⟩

set_option maxRecDepth 100000 in
set_option maxHeartbeats 6400000 in
theorem put_ok (q room : Nat) (l : List El) (F : Nat → Prop) (t : Tk) (dv : Value) (w : World) (h : QAt 58 w q room l F) (hd : BytesAt w dv t.data) (hdl : t.data.length ≤ 140737488355328) (hf : findI (p_put t.cmd) l < 0) (hr : l.length < room) (hr8 : room ≤ 8) :
    Calls Try.prog 8 #[.pointer (some ⟨q, 0, none⟩), .agg (t.cells dv)] w fun e w' => e = .returned (.int .i64 0) ∧ ∃ dv', QAt 58 w' q room (l ++ [⟨t, dv', false⟩]) (fun k => F k ∨ (w.heap.size ≤ k ∧ k < w'.heap.size)) ∧ Keeps F w w' := by
  obtain ⟨av, hav, hrow⟩ := h.row
  have hle := h.le
  have hq := block_lt hav
  simp only at hq
  obtain ⟨ao, cap, rfl⟩ := hrow.shape
  have HR := Lib.hid hrow; clear hrow
  have HV := Lib.hid hav; clear hav
  have HM := Lib.hid h.room
  have HD := Lib.hid hd; clear hd
  have HQ := Lib.hid h; clear h
  have hmf : ∀ (fn : Fn) (first cap : Array Value) (w : World), (Instr.makeFunc fn first cap).run Try.prog w = .ok (.func fn first cap) w := fun _ _ _ _ => rfl
  have v0 : ∀ o, (w.alloc o).cell? ⟨q, 1, none⟩ = some (.slice ao l.length cap) := fun o => (World.cell?_alloc_lt w o ⟨q, 1, none⟩ hq).trans HV.out
  have hfi : decide (0 ≤ findI (p_put t.cmd) l) = false := by simp; omega
  have Hf := Lib.hid hf; clear hf
  unfold Tk.cells
  go_enter Try.func8, Try.ntmps8
  go_wp2_with fail
  refine (contains_any 58 q _ l F w.heap.size t.cmd _ (HR.out.keeps (G := fun _ => False) ((Keeps.refl _ _).alloc _) (fun _ _ h => h)) hle (fun k hk => by have := HQ.out.lt k hk; simp; omega) (by simp)).mono ?_
  rintro r w1 ⟨rfl, hb⟩
  rw [hfi]
  have hsz1 := hb.size
  simp only [World.size_alloc] at hsz1
  have HB := Lib.hid ((allocBelow w _).trans (hb.mono (by simp)))
  have c1 : ∀ j, w1.cell? ⟨w.heap.size, j, none⟩ = (t.cells dv)[j]? := fun j => (hb.cell (p := ⟨w.heap.size, j, none⟩) (by simp)).trans (World.cell?_alloc_new w _ _ j)
  have f1 : ∀ j, w1.frozen? ⟨w.heap.size, j, none⟩ = false := fun j => (hb.frozen (p := ⟨w.heap.size, j, none⟩) (by simp)).trans (World.frozen?_alloc_new w _ _ j)
  clear hb v0
  have x1 : w1.cell? ⟨q, 1, none⟩ = some (.slice ao l.length cap) := (HB.out.cell (p := ⟨q, 1, none⟩) hq).trans HV.out
  have x0 : w1.cell? ⟨q, 0, none⟩ = some (.int .i64 (room : Int)) := (HB.out.cell (p := ⟨q, 0, none⟩) hq).trans HM.out
  have tr : decide ((room : Int) ≤ (l.length : Int)) = false := by simp; omega
  unfold Tk.cells at c1
  go_wp2_with fail
  go_quiet (fail)
  have HBq : Hid (Below w.heap.size w (w1.drewN nq)) := by rw [drewN_eq]; exact ⟨HB.out.os, HB.out.tape, HB.out.output, HB.out.size, HB.out.block⟩
  go_wp2_with fail
  refine (clone_any dv t.data _ (HD.out.later HBq.out) hdl).mono ?_
  rintro e w3 ⟨dv', rfl, hown, hb3⟩
  obtain ⟨da, dc, rfl, _⟩ := hown.bytes.form
  have hsz3 := hb3.size
  have e1 : (w1.drewN nq).heap.size = w1.heap.size := by rw [drewN_eq]
  rw [e1] at hsz3 hb3 hown
  have c3 : ∀ j, w3.cell? ⟨w.heap.size, j, none⟩ = (t.cells dv)[j]? := fun j => (hb3.cell (p := ⟨w.heap.size, j, none⟩) (by simp; omega)).trans (by rw [drewN_eq]; exact c1 j)
  have f3 : ∀ j, w3.frozen? ⟨w.heap.size, j, none⟩ = false := fun j => (hb3.frozen (p := ⟨w.heap.size, j, none⟩) (by simp; omega)).trans (by rw [drewN_eq]; exact f1 j)
  have x3 : w3.cell? ⟨q, 1, none⟩ = some (.slice ao l.length cap) := (hb3.cell (p := ⟨q, 1, none⟩) (by simp; omega)).trans (by rw [drewN_eq]; exact x1)
  clear c1 f1 x1 x0
  have HO := Lib.hid hown; clear hown
  have HB3 := Lib.hid (HBq.out.trans (hb3.mono (by omega))); clear hb3
  have f3q : w3.frozen? ⟨q, 1, none⟩ = false := (HB3.out.frozen (p := ⟨q, 1, none⟩) hq).trans (HQ.out.free 1)
  have cB : ∀ j, (w3.setCell ⟨w.heap.size, 10, none⟩ (.slice da t.data.length dc)).cell? ⟨w.heap.size, j, none⟩ = (t.cells (.slice da t.data.length dc))[j]? := fun j => by
    by_cases hj : j = 10
    · subst hj
      rw [World.cell?_setCell_same _ _ _ (c3 10)]; rfl
    · rw [World.cell?_setCell_other _ _ _ _ (by simp <;> omega), c3 j]
      unfold Tk.cells
      match j, hj with
      | 0, _ | 1, _ | 2, _ | 3, _ | 4, _ | 5, _ | 6, _ | 7, _ | 8, _ | 9, _ => rfl
      | j + 11, _ => rfl
  have xq : (w3.setCell ⟨w.heap.size, 10, none⟩ (.slice da t.data.length dc)).cell? ⟨q, 1, none⟩ = some (.slice ao l.length cap) := (World.cell?_setCell_other _ _ _ _ (by simp <;> omega)).trans x3
  have fq : (w3.setCell ⟨w.heap.size, 10, none⟩ (.slice da t.data.length dc)).frozen? ⟨q, 1, none⟩ = false := by simpa using f3q
  have HBW := Lib.hid (HB3.out.setCell (p := ⟨w.heap.size, 10, none⟩) (Nat.le_refl _) (.slice da t.data.length dc))
  have HOW := Lib.hid (show Owns w1.heap.size (w3.setCell ⟨w.heap.size, 10, none⟩ (.slice da t.data.length dc)) _ _ from ownsRow_setCell_below HO.out (by simp <;> omega) _)
  have HRW := Lib.hid (HR.out.keeps (G := fun _ => False) (Keeps.of_below HBW.out) (fun _ _ h => h))
  have hszW : w1.heap.size ≤ (w3.setCell ⟨w.heap.size, 10, none⟩ (.slice da t.data.length dc)).heap.size := by simpa [World.setCell] using hsz3
  unfold Tk.cells at c3
  go_wp2_with fail
  clear c3 f3 x3 f3q
  generalize w3.setCell ⟨w.heap.size, 10, none⟩ (.slice da t.data.length dc) = W at *
  obtain ⟨i0, hi, hz0, hz1, hz2⟩ := info_parts Try.info_one
  have HI := Lib.hid hi; clear hi
  have HZ0 := Lib.hid hz0; clear hz0
  have HZ1 := Lib.hid hz1; clear hz1
  have HZ2 := Lib.hid hz2; clear hz2
  have vW : ∀ o, (W.alloc o).cell? ⟨q, 1, none⟩ = some (.slice ao l.length cap) := fun o => (World.cell?_alloc_lt W o ⟨q, 1, none⟩ (by simp; omega)).trans xq
  have nq1 : some (⟨q, 1, none⟩ : Addr).block ≠ (Value.slice ao l.length cap).ownBlock := fun e => (HR.out.blk q e.symm).2 rfl
  unfold Tk.cells at cB
  go_region_law (refine step_append_lies _ (by rfl) (.tmp 29) (.tmp 32) 53 (by rfl) 0 58 i0 _ 12 104 Try.underlying53 HI.out HZ0.out HZ1.out HZ2.out rfl (by omega) (.slice ao l.length cap) l.length (flat l) (by rfl) ((World.ownsRow.alloc HRW.out.own _).drew) ⟨W.heap.size, 0, none⟩ 1 1 (El.cells ⟨t, .slice da t.data.length dc, false⟩) (by rfl) (by rfl) (World.news_of_block (cs := (El.cells ⟨t, .slice da t.data.length dc, false⟩).toArray) (t := 58) (fr := (0, 0)) (heap_alloc_new W _)) (by simp [El.cells, Value.oneCell']) (by omega) (by unfold maxLen; omega) (by omega) (by simp) (W.heap.size + 1) (by simp) ?_; intro g cap4 w4 hown4 hgrow hat hlt4; have y1 : w4.cell? ⟨q, 1, none⟩ = some (.slice ao l.length cap) := (hgrow.cell_far ⟨q, 1, none⟩ (by simp; omega) nq1).trans ((World.cell?_alloc_lt W _ ⟨q, 1, none⟩ (by simp; omega)).trans xq); have y2 : w4.frozen? ⟨q, 1, none⟩ = false := (hgrow.frozen_far ⟨q, 1, none⟩ (by simp; omega) nq1).trans ((World.frozen?_alloc_old W _ ⟨q, 1, none⟩ (by simp; omega)).trans fq))
  all_goals
    go_wp2
    go_ret
    have hfin := put_final (el := ⟨t, .slice da t.data.length dc, false⟩) HQ.out HRW.out HBW.out HOW.out.bytes hdl (HOW.out.lies.mono fun k hk => ⟨by omega, hk.2⟩) (by omega) rfl hgrow hown4 hat hlt4 (by rw [y1]; rfl)
    exact ⟨rfl, ⟨_, hfin.1⟩, hfin.2⟩
end Go.Proofs.Ytknjiphgpoifcaa
