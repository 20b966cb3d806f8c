/-
  Take.
-/
import Derived.Test.YtknjiphgpoifcaaTkReady
import Derived.StillTailTactics
namespace Go.Proofs.Ytknjiphgpoifcaa
open Go.RowKit

theorem still_tail {P : Program} {id : Nat} {Q : Exit → Act → World → Prop} {a : Act} {w : World} {l : List Oper} (n : Nat) (hm : P.follows .mixedOrders = true) (hB : Region.lexTailB .any l.toArray n = true) (W : World) (hW : W = w.drew)
    (h : wpStill P l.toArray W (fun a' => wpList P l.toArray Q (l.drop n) a' W) (l.take n) a) : (Code.region id l.toArray true).wp P Q a w := by
  subst hW
  exact wp_region_still_tail n hm hB h

set_option maxRecDepth 100000 in
set_option maxHeartbeats 3200000 in
theorem take_no (q room : Nat) (l : List El) (F : Nat → Prop) (k : Int) (w : World) (h : QAt 58 w q room l F) (hk : k < 0 ∨ (placesOf l).length ≤ k) :
    Calls Try.prog 12 #[.pointer (some ⟨q, 0, none⟩), .int .i64 k] w fun e w' => e = .returned (.tuple #[.agg taskZero, .int .i64 46]) ∧ Below w.heap.size w w' := by
  have hlt := h.lt q h.fq
  have HP := Lib.hid (places_any q room l F _ (h.below ((Below.refl _ _).alloc (Nat.le_refl _) (.cells taskZero 32))))
  unfold taskZero at HP
  have fin : ∀ w1, Below (w.alloc (.cells taskZero 32)).heap.size (w.alloc (.cells taskZero 32)) w1 → (∀ j, w1.cell? ⟨w.heap.size, j, none⟩ = taskZero[j]?) ∧ (∀ j, w1.frozen? ⟨w.heap.size, j, none⟩ = false) ∧ Below w.heap.size w w1 := fun w1 hb =>
    ⟨fun j => (hb.cell (p := ⟨w.heap.size, j, none⟩) (by simp)).trans (World.cell?_alloc_new w _ _ j), fun j => (hb.frozen (p := ⟨w.heap.size, j, none⟩) (by simp)).trans (World.frozen?_alloc_new w _ _ j), (allocBelow w _).trans (hb.mono (by simp))⟩
  have FIN := Lib.hid fin; clear fin
  unfold taskZero at FIN
  clear h
  by_cases h0 : k < 0
  · have t0 : decide (k < 0) = true := by simp [h0]
    clear hk
    go_enter Try.func12, Try.ntmps12
    go_wp2_with fail
    refine HP.out.mono ?_
    rintro e w1 ⟨pv, rfl, hown, hb⟩
    obtain ⟨pa, pc, rfl⟩ := hown.shape
    obtain ⟨c1, f1, b1⟩ := FIN.out w1 hb
    clear hown hb
    have HB := Lib.hid b1; clear b1
    go_wp2
    refine bodyPost_ret (v := .tuple #[.agg taskZero, .int .i64 46]) (by simp [results, Try.results12, go_sem, c1, taskZero]) rfl ⟨rfl, ?_⟩
    repeat (refine Below.setCell ?_ (by simp) _)
    exact HB.out
  · have t0 : decide (k < 0) = false := by simp; omega
    have t1 : decide (((placesOf l).length : Int) ≤ k) = true := by simp; omega
    clear hk
    go_enter Try.func12, Try.ntmps12
    go_wp2_with fail
    refine HP.out.mono ?_
    rintro e w1 ⟨pv, rfl, hown, hb⟩
    obtain ⟨pa, pc, rfl⟩ := hown.shape
    obtain ⟨c1, f1, b1⟩ := FIN.out w1 hb
    clear hown hb
    have HB := Lib.hid b1; clear b1
    go_wp2
    refine bodyPost_ret (v := .tuple #[.agg taskZero, .int .i64 46]) (by simp [results, Try.results12, go_sem, c1, taskZero]) rfl ⟨rfl, ?_⟩
    repeat (refine Below.setCell ?_ (by simp) _)
    exact HB.out

theorem flat_setU (l : List El) : ∀ (i : Nat) (e : El), l[i]? = some e → flat (l.set i { e with u := true }) = (flat l).set (i * 12 + 11) (.bool true) := by
  induction l with
  | nil => intro i e h; simp at h
  | cons x l ih =>
    intro i e h
    cases i with
    | zero =>
      simp at h
      subst h
      show El.cells _ ++ flat l = (x.cells ++ flat l).set 11 _
      rw [List.set_append_left _ _ (by rw [El.cells_length]; omega)]
      rfl
    | succ i =>
      show x.cells ++ flat (l.set i _) = (x.cells ++ flat l).set ((i + 1) * 12 + 11) _
      rw [List.set_append_right _ _ (by rw [El.cells_length]; omega), El.cells_length]
      have : (i + 1) * 12 + 11 - 12 = i * 12 + 11 := by omega
      rw [this, ih i e (by simpa using h)]
/-- The row behind the store by which a task is under way. -/
theorem RowAt.setU {T : TypeId} {w : World} {q g cap n i : Nat} {l : List El} {e : El} {F : Nat → Prop} (h : RowAt T w q (.slice (some ⟨g, 0, none⟩) n cap) l F) (he : l[i]? = some e) :
    RowAt T (w.setCell ⟨g, i * 12 + 11, none⟩ (.bool true)) q (.slice (some ⟨g, 0, none⟩) n cap) (l.set i { e with u := true }) F := by
  have hn : n = l.length := by
    rcases h.own.2 with ⟨e, h0⟩ | ⟨g', cap', cur, e, _⟩
    · simp at e
    · injection e
  have K : Keeps (· = g) w (w.setCell ⟨g, i * 12 + 11, none⟩ (.bool true)) := Keeps.setCell (Keeps.refl (· = g) w) (p := ⟨g, i * 12 + 11, none⟩) (fun _ => rfl) _
  refine ⟨?_, h.blk, fun x hx => ?_⟩
  · subst hn
    rw [List.length_set, flat_setU l i e he]
    exact (World.ownsRow.stored h.own _ _).1
  · rcases List.mem_or_eq_of_mem_set hx with hx | hx
    · obtain ⟨h1, h2, h3⟩ := h.data x hx
      exact ⟨h1.keeps K (h3.mono fun k hk e => hk.2.2 (by simp [Value.ownBlock, e])), h2, h3⟩
    · subst hx
      obtain ⟨h1, h2, h3⟩ := h.data e (List.mem_of_getElem? he)
      exact ⟨h1.keeps K (h3.mono fun k hk e => hk.2.2 (by simp [Value.ownBlock, e])), h2, h3⟩

theorem take_final {T q room g cap n : Nat} {l l' : List El} {F : Nat → Prop} {w W V V' : World} {B : Nat} (HQ : QAt T w q room l F) (HR : RowAt T V q (.slice (some ⟨g, 0, none⟩) n cap) l' F) (hgq : g ≠ q)
    (h1 : Keeps F w W) (h2 : Keeps (· = g) W V) (h3 : Keeps (· = B) V V') (hB : w.heap.size ≤ B) (hlen : l'.length = l.length) (hq1 : W.cell? ⟨q, 1, none⟩ = some (.slice (some ⟨g, 0, none⟩) n cap)) (h1' : Below w.heap.size w W) :
    QAt T V' q room l' F := by
  have hq := HQ.lt q HQ.fq
  have s1 := h1.size
  have s2 := h2.size
  have s3 := h3.size
  have cq : ∀ j, V'.cell? ⟨q, j, none⟩ = W.cell? ⟨q, j, none⟩ := fun j => (h3.cell (p := ⟨q, j, none⟩) (by simp; omega) (by simp; omega)).trans (h2.cell (p := ⟨q, j, none⟩) (by simp; omega) (by simp; omega))
  have fq : ∀ j, V'.frozen? ⟨q, j, none⟩ = W.frozen? ⟨q, j, none⟩ := fun j => (h3.frozen (p := ⟨q, j, none⟩) (by simp; omega) (by simp; omega)).trans (h2.frozen (p := ⟨q, j, none⟩) (by simp; omega) (by simp; omega))
  refine ⟨HQ.fq, fun k hk => by have := HQ.lt k hk; omega, ?_, fun j => ?_, by rw [hlen]; exact HQ.le, _, (cq 1).trans hq1, HR.keeps h3 (fun k hk e => by have := HQ.lt k hk; omega)⟩
  · rw [cq, h1'.cell (p := ⟨q, 0, none⟩) hq]; exact HQ.room
  · rw [fq, h1'.frozen (p := ⟨q, j, none⟩) hq]; exact HQ.free j

set_option maxRecDepth 100000 in
set_option maxHeartbeats 6400000 in
theorem take_yes (q room : Nat) (l : List El) (F : Nat → Prop) (k i : Nat) (e : El) (w : World) (h : QAt 58 w q room l F) (hi : (placesOf l)[k]? = some i) (he : l[i]? = some e) :
    Calls Try.prog 12 #[.pointer (some ⟨q, 0, none⟩), .int .i64 (k : Int)] w fun r w' => ∃ dv', r = .returned (.tuple #[.agg (e.t.cells dv'), .int .i64 0]) ∧ Owns w.heap.size w' dv' e.t.data ∧ QAt 58 w' q room (l.set i { e with u := true }) F ∧ Keeps F w w' := by
  have hlt := h.lt q h.fq
  have hle := h.le
  obtain ⟨av, hav, hrow⟩ := h.row
  have hil : i < l.length := (List.getElem?_eq_some_iff.1 he).1
  have hkl : k < (placesOf l).length := (List.getElem?_eq_some_iff.1 hi).1
  obtain ⟨g, cap, rfl⟩ := hrow.form (by omega)
  have HV := Lib.hid hav; clear hav
  have HP := Lib.hid (places_any q room l F _ (h.below ((Below.refl _ _).alloc (Nat.le_refl _) (.cells taskZero 32))))
  unfold taskZero at HP
  have fin : ∀ w1, Below (w.alloc (.cells taskZero 32)).heap.size (w.alloc (.cells taskZero 32)) w1 → (∀ j, w1.cell? ⟨w.heap.size, j, none⟩ = taskZero[j]?) ∧ (∀ j, w1.frozen? ⟨w.heap.size, j, none⟩ = false) ∧ Below w.heap.size w w1 ∧ w.heap.size + 1 ≤ w1.heap.size := fun w1 hb =>
    ⟨fun j => (hb.cell (p := ⟨w.heap.size, j, none⟩) (by simp)).trans (World.cell?_alloc_new w _ _ j), fun j => (hb.frozen (p := ⟨w.heap.size, j, none⟩) (by simp)).trans (World.frozen?_alloc_new w _ _ j), (allocBelow w _).trans (hb.mono (by simp)), by have := hb.size; simpa using this⟩
  have FIN := Lib.hid fin; clear fin
  unfold taskZero at FIN
  have HR := Lib.hid hrow; clear hrow
  have HQ := Lib.hid h; clear h
  have t0 : decide ((k : Int) < 0) = false := by simp
  have t1 : decide (((placesOf l).length : Int) ≤ (k : Int)) = false := by simp; omega
  go_enter Try.func12, Try.ntmps12
  go_wp2_with fail
  refine HP.out.mono ?_
  rintro r w1 ⟨pv, rfl, hown, hb⟩
  obtain ⟨pa, pc, rfl⟩ := hown.shape
  obtain ⟨pg, rfl, hpg1, hpg2, xp⟩ := hown.at k i hi
  obtain ⟨c1, f1, b1, hsz1⟩ := FIN.out w1 hb
  have hpg3 : w.heap.size + 1 ≤ pg := by have h := hpg1; simp only [World.size_alloc] at h; exact h
  clear hown hb hpg1
  have HB := Lib.hid b1; clear b1
  have hgl := HQ.out.lt g (HR.out.blk g rfl).1
  have hgq := (HR.out.blk g rfl).2
  go_wp2_with fail
  obtain ⟨W, hW⟩ : ∃ W, W = w1.drew := ⟨_, rfl⟩
  have xq : W.cell? ⟨q, 1, none⟩ = some (.slice (some ⟨g, 0, none⟩) l.length cap) := by rw [hW]; exact (HB.out.cell (p := ⟨q, 1, none⟩) hlt).trans HV.out
  have xpW : W.cell? ⟨pg, k, none⟩ = some (.int .i64 (i : Int)) := by rw [hW]; exact xp
  have HRW := Lib.hid (show RowAt 58 W q (.slice (some ⟨g, 0, none⟩) l.length cap) l F by rw [hW]; exact HR.out.keeps (G := fun _ => False) (Keeps.of_below HB.out).drew (fun _ _ h => h))
  have HBW := Lib.hid (show Below w.heap.size w W by rw [hW]; exact HB.out.drew)
  have c1W : ∀ j, W.cell? ⟨w.heap.size, j, none⟩ = taskZero[j]? := by rw [hW]; exact c1
  have f1W : ∀ j, W.frozen? ⟨w.heap.size, j, none⟩ = false := by rw [hW]; exact f1
  have hszW : w1.heap.size = W.heap.size := by rw [hW]; rfl
  refine still_tail 10 (by kernel_rfl) (by kernel_rfl) W hW ?_
  clear c1 f1 xp hW
  rw [hszW] at hpg2 hsz1
  clear hszW
  have xu := HRW.out.cell i e he 11 (by omega)
  have fu := HRW.out.frozen (i * 12 + 11)
  simp only [El.cells, List.getElem?_cons_zero, List.getElem?_cons_succ] at xu
  simp only [List.take_succ_cons, List.take_zero, List.drop_succ_cons, List.drop_zero]
  repeat still_step
  refine wpStill_nil ?_
  go_wp2_with fail
  obtain ⟨V, hV⟩ : ∃ V, V = (W.setCell ⟨g, i * 12 + 11, none⟩ (.bool true)).drew := ⟨_, rfl⟩
  have K : Keeps (· = g) W (W.setCell ⟨g, i * 12 + 11, none⟩ (.bool true)) := Keeps.setCell (Keeps.refl (· = g) W) (p := ⟨g, i * 12 + 11, none⟩) (fun _ => rfl) _
  have hszV : V.heap.size = W.heap.size := by rw [hV]; simp [World.setCell]
  have KV := Lib.hid (show Keeps (· = g) W V by rw [hV]; exact K.drew); clear K
  have yq : V.cell? ⟨q, 1, none⟩ = some (.slice (some ⟨g, 0, none⟩) l.length cap) := (KV.out.cell (p := ⟨q, 1, none⟩) (by simp; omega) (fun e => hgq e.symm)).trans xq
  have yp : V.cell? ⟨pg, k, none⟩ = some (.int .i64 (i : Int)) := (KV.out.cell (p := ⟨pg, k, none⟩) hpg2 (by simp; omega)).trans xpW
  have c1V : ∀ j, V.cell? ⟨w.heap.size, j, none⟩ = taskZero[j]? := fun j => (KV.out.cell (p := ⟨w.heap.size, j, none⟩) (by simp; omega) (by simp; omega)).trans (c1W j)
  have f1V : ∀ j, V.frozen? ⟨w.heap.size, j, none⟩ = false := fun j => (KV.out.frozen (p := ⟨w.heap.size, j, none⟩) (by simp; omega) (by simp; omega)).trans (f1W j)
  have HRV := Lib.hid (show RowAt 58 V q (.slice (some ⟨g, 0, none⟩) l.length cap) (l.set i { e with u := true }) F by rw [hV]; exact (HRW.out.setU he).keeps (G := fun _ => False) (Keeps.refl _ _).drew (fun _ _ h => h))
  have he' : (l.set i { e with u := true })[i]? = some { e with u := true } := by simp [hil]
  have hc : ∀ j, j < 12 → V.cell? ⟨g, i * 12 + j, none⟩ = (El.cells { e with u := true })[j]? := fun j hj => HRV.out.cell i _ he' j hj
  have q0 := hc 0 (by omega)
  have q1 := hc 1 (by omega)
  have q2 := hc 2 (by omega)
  have q3 := hc 3 (by omega)
  have q4 := hc 4 (by omega)
  have q5 := hc 5 (by omega)
  have q6 := hc 6 (by omega)
  have q7 := hc 7 (by omega)
  have q8 := hc 8 (by omega)
  have q9 := hc 9 (by omega)
  have q10 := hc 10 (by omega)
  obtain ⟨d1, d2, d3⟩ := HRV.out.data _ (List.mem_of_getElem? he')
  dsimp only at d1 d2 d3
  have HD := Lib.hid (own_any e.t e.dv V d1 d2)
  clear hc d1 d3
  refine still_tail 11 (by kernel_rfl) (by kernel_rfl) V hV ?_
  simp only [El.cells, List.getElem?_cons_zero, List.getElem?_cons_succ, Nat.add_zero] at q0 q1 q2 q3 q4 q5 q6 q7 q8 q9 q10
  unfold Tk.cells at HD
  unfold taskZero at c1V
  have HXQ := Lib.hid xq
  clear xq xpW xu fu c1W f1W hV he'
  have HI := Lib.hid hi; clear hi
  have HE := Lib.hid he; clear he
  simp only [List.take_succ_cons, List.take_zero, List.drop_succ_cons, List.drop_zero]
  repeat still_step
  refine wpStill_nil ?_
  go_wp2_with fail
  refine HD.out.mono ?_
  rintro r w2 ⟨dv', rfl, hown2, hb2⟩
  obtain ⟨da, dc, rfl, _⟩ := hown2.bytes.form
  have HO2 := Lib.hid hown2; clear hown2
  have c2 : ∀ j, w2.cell? ⟨w.heap.size, j, none⟩ = taskZero[j]? := fun j => (hb2.cell (p := ⟨w.heap.size, j, none⟩) (by simp; omega)).trans (c1V j)
  have f2 : ∀ j, w2.frozen? ⟨w.heap.size, j, none⟩ = false := fun j => (hb2.frozen (p := ⟨w.heap.size, j, none⟩) (by simp; omega)).trans (f1V j)
  have HB2 := Lib.hid hb2; clear hb2
  unfold taskZero at c2
  clear c1V f1V q0 q1 q2 q3 q4 q5 q6 q7 q8 q9 q10 yq yp
  go_wp2
  refine bodyPost_ret (v := .tuple #[.agg (e.t.cells (.slice da e.t.data.length dc)), .int .i64 0]) (by simp [results, Try.results12, go_sem, c2, Tk.cells]) rfl ⟨_, rfl, ?_, ?_, ?_⟩
  · refine Owns.mono (base := V.heap.size) ?_ (by omega)
    unfold Owns
    repeat (refine ownsRow_setCell_below ?_ (by simp; omega) _)
    exact HO2.out
  · refine take_final (V := V) (W := W) (B := w.heap.size) HQ.out HRV.out hgq (Keeps.of_below HBW.out) KV.out ?_ (Nat.le_refl _) (by simp) HXQ.out HBW.out
    iterate 11 (with_reducible refine Keeps.setCell (F := (· = w.heap.size)) ?_ (fun _ => rfl) _)
    exact Keeps.of_below HB2.out
  · have hsz2 := HB2.out.size
    iterate 11 (with_reducible refine Keeps.setCell (F := F) ?_ (fun h => absurd h (Nat.lt_irrefl _)) _)
    refine ((Keeps.of_below (F := F) HBW.out).trans KV.out (fun x _ hx => by rw [hx]; exact (HR.out.blk g rfl).1)).trans (Keeps.of_below HB2.out) (fun _ _ h => h)
end Go.Proofs.Ytknjiphgpoifcaa
