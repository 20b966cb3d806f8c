/-
  drop, Done, Abort.
-/
import Derived.Test.YtknjiphgpoifcaaTkDelete
namespace Go.Proofs.Ytknjiphgpoifcaa
open Go.RowKit

theorem findI_cases (p : El → Bool) (l : List El) : (findI p l = -1 ∧ l.findIdx? p = none) ∨ ∃ i : Nat, findI p l = (i : Int) ∧ l.findIdx? p = some i ∧ i < l.length := by
  unfold findI
  cases h : l.findIdx? p with
  | none => exact .inl ⟨rfl, rfl⟩
  | some i => exact .inr ⟨i, rfl, rfl, (List.findIdx?_eq_some_iff_getElem.1 h).1⟩
theorem QAt.shrunk {T : TypeId} {w W V : World} {q room g n cap i : Nat} {l : List El} {F : Nat → Prop} (h : QAt T w q room l F) (hi : i < l.length) (hb : Below w.heap.size w W) (hr : RowAt T V q (.slice (some ⟨g, 0, none⟩) n cap) (l.eraseIdx i) F) (hg : F g) (hgq : g ≠ q) (hk : Keeps (· = g) W V) :
    QAt T (V.setCell ⟨q, 1, none⟩ (.slice (some ⟨g, 0, none⟩) n cap)) q room (l.eraseIdx i) F ∧ Keeps F w (V.setCell ⟨q, 1, none⟩ (.slice (some ⟨g, 0, none⟩) n cap)) := by
  have hq := h.lt q h.fq
  have s1 := hb.size
  have s2 := hk.size
  have K1 : Keeps F w V := (Keeps.of_below (F := F) hb).trans hk fun k _ e => e ▸ hg
  have K2 : Keeps (· = q) V (V.setCell ⟨q, 1, none⟩ (.slice (some ⟨g, 0, none⟩) n cap)) := Keeps.setCell (Keeps.refl (· = q) V) (p := ⟨q, 1, none⟩) (fun _ => rfl) _
  have K : Keeps F w (V.setCell ⟨q, 1, none⟩ (.slice (some ⟨g, 0, none⟩) n cap)) := K1.trans K2 fun k _ e => e ▸ h.fq
  have cV : ∀ j, V.cell? ⟨q, j, none⟩ = w.cell? ⟨q, j, none⟩ := fun j => (hk.cell (p := ⟨q, j, none⟩) (by simp; omega) (fun e => hgq e.symm)).trans (hb.cell (p := ⟨q, j, none⟩) hq)
  have fV : ∀ j, V.frozen? ⟨q, j, none⟩ = w.frozen? ⟨q, j, none⟩ := fun j => (hk.frozen (p := ⟨q, j, none⟩) (by simp; omega) (fun e => hgq e.symm)).trans (hb.frozen (p := ⟨q, j, none⟩) hq)
  obtain ⟨av, hav, _⟩ := h.row
  refine ⟨⟨h.fq, fun k hk' => by have := h.lt k hk'; have := K.size; omega, ?_, fun j => ?_, ?_, _, World.cell?_setCell_same _ _ _ (by rw [cV, hav]), ?_⟩, K⟩
  · rw [World.cell?_setCell_other _ _ _ _ (by simp), cV]; exact h.room
  · rw [World.frozen?_setCell, fV]; exact h.free j
  · have := h.le; rw [List.length_eraseIdx]; split <;> omega
  · exact ⟨K2.owns hr.own (fun g' e => by
      simp only [Value.ownBlock, Option.some.injEq] at e; subst e; exact hgq), hr.blk, fun e he => by
      obtain ⟨h1, h2, h3⟩ := hr.data e he
      exact ⟨h1.keeps K2 (h3.mono fun k hk' => hk'.2.1), h2, h3⟩⟩

set_option maxRecDepth 100000 in
set_option maxHeartbeats 3200000 in
theorem drop_no (q room : Nat) (l : List El) (F : Nat → Prop) (fv : Value) (p : El → Bool) (w : World) (h : QAt 58 w q room l F) (hp : l.findIdx? p = none)
    (hidx : ∀ av, RowAt 58 w q av l F → Calls Try.prog 32 #[av, fv] w fun r w' => r = .returned (.int .i64 (findI p l)) ∧ Below w.heap.size w w') :
    Calls Try.prog 27 #[.pointer (some ⟨q, 0, none⟩), fv] w fun r w' => r = .returned (.bool false) ∧ Below w.heap.size w w' := by
  obtain ⟨av, hav, hrow⟩ := h.row
  have HI := Lib.hid (hidx av hrow)
  have hf : findI p l = -1 := by unfold findI; rw [hp]
  rw [hf] at HI
  obtain ⟨ao, cap, rfl⟩ := hrow.shape
  clear hidx h hrow
  go_enter Try.func27, Try.ntmps27
  go_wp2_with fail
  refine HI.out.mono ?_
  rintro r w1 ⟨rfl, hb⟩
  have HB := Lib.hid hb; clear hb
  go_wp2_with fail
  go_ret
  exact ⟨rfl, HB.out⟩

set_option maxRecDepth 100000 in
set_option maxHeartbeats 3200000 in
theorem drop_yes (q room i : Nat) (l : List El) (F : Nat → Prop) (fv : Value) (p : El → Bool) (w : World) (h : QAt 58 w q room l F) (hp : l.findIdx? p = some i)
    (hidx : ∀ av, RowAt 58 w q av l F → Calls Try.prog 32 #[av, fv] w fun r w' => r = .returned (.int .i64 (findI p l)) ∧ Below w.heap.size w w') :
    Calls Try.prog 27 #[.pointer (some ⟨q, 0, none⟩), fv] w fun r w' => r = .returned (.bool true) ∧ QAt 58 w' q room (l.eraseIdx i) F ∧ Keeps F w w' := by
  have hi : i < l.length := (List.findIdx?_eq_some_iff_getElem.1 hp).1
  have hle := h.le
  obtain ⟨av, hav, hrow⟩ := h.row
  have HI := Lib.hid (hidx av hrow)
  have hf : findI p l = (i : Int) := by unfold findI; rw [hp]
  rw [hf] at HI
  obtain ⟨g, cap, rfl⟩ := hrow.form (by omega)
  have HR := Lib.hid hrow; clear hrow
  have hq := h.lt q h.fq
  have hfr := h.free 1
  have HQ := Lib.hid h; clear h
  have t0 : decide ((i : Int) < 0) = false := by simp
  have hw0 : IntKind.i64.wrap ((i : Int) + 1) = (i : Int) + 1 := IntWalk.i64_in _ (by omega)
  clear hidx
  go_enter Try.func27, Try.ntmps27
  go_wp2_with fail
  refine HI.out.mono ?_
  rintro r w1 ⟨rfl, hb⟩
  have y1 : w1.cell? ⟨q, 1, none⟩ = some (.slice (some ⟨g, 0, none⟩) l.length cap) := (hb.cell (p := ⟨q, 1, none⟩) hq).trans hav
  have HR1 := Lib.hid (HR.out.keeps (G := fun _ => False) (Keeps.of_below hb) (fun _ _ h => h))
  have HB := Lib.hid hb; clear hb
  go_wp2_with fail
  refine (delete_any q g l.length cap i l F w1 HR1.out hi hle).mono ?_
  rintro r w2 ⟨rfl, hr2, hk2⟩
  have hgq := (HR.out.blk g rfl).2
  have hs1 := HB.out.size
  have y2 : w2.cell? ⟨q, 1, none⟩ = some (.slice (some ⟨g, 0, none⟩) l.length cap) := (hk2.cell (p := ⟨q, 1, none⟩) (by simp; omega) (fun e => hgq e.symm)).trans y1
  have f2 : w2.frozen? ⟨q, 1, none⟩ = false := (hk2.frozen (p := ⟨q, 1, none⟩) (by simp; omega) (fun e => hgq e.symm)).trans ((HB.out.frozen (p := ⟨q, 1, none⟩) hq).trans hfr)
  have HF := Lib.hid (HQ.out.shrunk hi HB.out hr2 (HR.out.blk g rfl).1 hgq hk2)
  clear hr2 hk2
  go_wp2_with fail
  go_ret
  exact ⟨rfl, HF.out⟩

theorem allocCell (w : World) (k : Int) (t : TypeId) : (w.alloc (.cells #[.int .i64 k] t)).cell? ⟨w.heap.size, 0, none⟩ = some (.int .i64 k) := by
  rw [World.cell?_alloc_new]; rfl

set_option maxRecDepth 100000 in
set_option maxHeartbeats 3200000 in
theorem done_no (q room : Nat) (l : List El) (F : Nat → Prop) (n : Int) (w : World) (h : QAt 58 w q room l F) (hp : l.findIdx? (p_done n) = none) :
    Calls Try.prog 11 #[.pointer (some ⟨q, 0, none⟩), .int .i64 n] w fun r w' => r = .returned (.int .i64 46) ∧ Below w.heap.size w w' := by
  have HQ := Lib.hid (h.below (allocBelow w (.cells #[.int .i64 n] 3)))
  have HI := Lib.hid (fun av (hr : RowAt 58 (w.alloc (.cells #[.int .i64 n] 3)) q av l F) => index_done _ q av l F w.heap.size n _ hr h.le HQ.out.lt (allocCell w n _))
  clear h
  have HD := Lib.hid (drop_no q room l F _ (p_done n) _ HQ.out hp HI.out)
  clear HI hp
  go_enter Try.func11, Try.ntmps11
  go_wp2_with fail
  refine HD.out.mono ?_
  rintro r w1 ⟨rfl, hb⟩
  have HB := Lib.hid ((allocBelow w _).trans (hb.mono (by simp))); clear hb
  go_wp2_with fail
  go_ret
  exact ⟨rfl, HB.out⟩

set_option maxRecDepth 100000 in
set_option maxHeartbeats 3200000 in
theorem done_yes (q room i : Nat) (l : List El) (F : Nat → Prop) (n : Int) (w : World) (h : QAt 58 w q room l F) (hp : l.findIdx? (p_done n) = some i) :
    Calls Try.prog 11 #[.pointer (some ⟨q, 0, none⟩), .int .i64 n] w fun r w' => r = .returned (.int .i64 0) ∧ QAt 58 w' q room (l.eraseIdx i) F ∧ Keeps F w w' := by
  have HQ := Lib.hid (h.below (allocBelow w (.cells #[.int .i64 n] 3)))
  have HI := Lib.hid (fun av (hr : RowAt 58 (w.alloc (.cells #[.int .i64 n] 3)) q av l F) => index_done _ q av l F w.heap.size n _ hr h.le HQ.out.lt (allocCell w n _))
  clear h
  have HD := Lib.hid (drop_yes q room i l F _ (p_done n) _ HQ.out hp HI.out)
  clear HI hp
  go_enter Try.func11, Try.ntmps11
  go_wp2_with fail
  refine HD.out.mono ?_
  rintro r w1 ⟨rfl, hq1, hb⟩
  have HB := Lib.hid (Keeps.trans (F := F) (Keeps.of_below (allocBelow w (.cells #[.int .i64 n] 3))) hb fun _ _ h => h); clear hb
  have HQ1 := Lib.hid hq1; clear hq1
  go_wp2_with fail
  go_ret
  exact ⟨rfl, HQ1.out, HB.out⟩

set_option maxRecDepth 100000 in
set_option maxHeartbeats 3200000 in
theorem abort_no (q room : Nat) (l : List El) (F : Nat → Prop) (n : Int) (w : World) (h : QAt 58 w q room l F) (hp : l.findIdx? (p_abort n) = none) :
    Calls Try.prog 18 #[.pointer (some ⟨q, 0, none⟩), .int .i64 n] w fun r w' => r = .returned (.bool false) ∧ Below w.heap.size w w' := by
  have HQ := Lib.hid (h.below (allocBelow w (.cells #[.int .i64 n] 3)))
  have HI := Lib.hid (fun av (hr : RowAt 58 (w.alloc (.cells #[.int .i64 n] 3)) q av l F) => index_abort _ q av l F w.heap.size n _ hr h.le HQ.out.lt (allocCell w n _))
  clear h
  have HD := Lib.hid (drop_no q room l F _ (p_abort n) _ HQ.out hp HI.out)
  clear HI hp
  go_enter Try.func18, Try.ntmps18
  go_wp2_with fail
  refine HD.out.mono ?_
  rintro r w1 ⟨rfl, hb⟩
  have HB := Lib.hid ((allocBelow w _).trans (hb.mono (by simp))); clear hb
  go_wp2_with fail
  go_ret
  exact ⟨rfl, HB.out⟩

set_option maxRecDepth 100000 in
set_option maxHeartbeats 3200000 in
theorem abort_yes (q room i : Nat) (l : List El) (F : Nat → Prop) (n : Int) (w : World) (h : QAt 58 w q room l F) (hp : l.findIdx? (p_abort n) = some i) :
    Calls Try.prog 18 #[.pointer (some ⟨q, 0, none⟩), .int .i64 n] w fun r w' => r = .returned (.bool true) ∧ QAt 58 w' q room (l.eraseIdx i) F ∧ Keeps F w w' := by
  have HQ := Lib.hid (h.below (allocBelow w (.cells #[.int .i64 n] 3)))
  have HI := Lib.hid (fun av (hr : RowAt 58 (w.alloc (.cells #[.int .i64 n] 3)) q av l F) => index_abort _ q av l F w.heap.size n _ hr h.le HQ.out.lt (allocCell w n _))
  clear h
  have HD := Lib.hid (drop_yes q room i l F _ (p_abort n) _ HQ.out hp HI.out)
  clear HI hp
  go_enter Try.func18, Try.ntmps18
  go_wp2_with fail
  refine HD.out.mono ?_
  rintro r w1 ⟨rfl, hq1, hb⟩
  have HB := Lib.hid (Keeps.trans (F := F) (Keeps.of_below (allocBelow w (.cells #[.int .i64 n] 3))) hb fun _ _ h => h); clear hb
  have HQ1 := Lib.hid hq1; clear hq1
  go_wp2_with fail
  go_ret
  exact ⟨rfl, HQ1.out, HB.out⟩

end Go.Proofs.Ytknjiphgpoifcaa
