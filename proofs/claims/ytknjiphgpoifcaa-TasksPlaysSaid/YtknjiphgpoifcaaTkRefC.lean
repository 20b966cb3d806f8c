/-
  The document's queue: Take.
-/
import Derived.Test.YtknjiphgpoifcaaTkRefB
import Derived.Test.YtknjiphgpoifcaaTkTake
namespace Go.Proofs.Ytknjiphgpoifcaa
open Go.RowKit

def cntR (l : List El) (i : Nat) : Nat := ((List.range i).filter (readyAt l)).length
theorem cntR_succ (l : List El) (i : Nat) : cntR l (i + 1) = cntR l i + if readyAt l i = true then 1 else 0 := by
  unfold cntR
  rw [List.range_succ, List.filter_append, List.length_append]
  congr 1
  by_cases hr : readyAt l i = true
  · rw [if_pos hr]; simp [hr]
  · rw [if_neg hr]; simp [hr]
theorem cntR_le (l : List El) : ∀ i, cntR l i ≤ i := by
  intro i
  have h2 := List.length_filter_le (readyAt l) (List.range i)
  rw [List.length_range] at h2
  exact h2
theorem cntR_all (l : List El) : cntR l l.length = (placesOf l).length := by unfold cntR; rw [places_filter]
theorem cntR_at (l : List El) (i : Nat) (hi : i < l.length) (hr : readyAt l i = true) : (placesOf l)[cntR l i]? = some i := by
  rw [← places_filter]
  have e : List.range l.length = List.range i ++ i :: (List.range (l.length - (i + 1))).map (· + (i + 1)) := by
    apply List.ext_getElem?
    intro m
    rcases Nat.lt_trichotomy m i with h | h | h
    · rw [List.getElem?_append_left (by simpa using h), List.getElem?_range h, List.getElem?_range (by omega)]
    · subst h
      rw [List.getElem?_append_right (by simp), List.getElem?_range hi]
      simp
    · rw [List.getElem?_append_right (by simp; omega), List.length_range]
      obtain ⟨d, rfl⟩ : ∃ d, m = i + 1 + d := ⟨m - (i + 1), by omega⟩
      have e2 : i + 1 + d - i = d + 1 := by omega
      rw [e2, List.getElem?_cons_succ, List.getElem?_map]
      rcases Nat.lt_or_ge (i + 1 + d) l.length with h2 | h2
      · rw [List.getElem?_range h2, List.getElem?_range (by omega)]
        simp; omega
      · rw [List.getElem?_eq_none (by simpa using h2), List.getElem?_eq_none (by simp; omega)]
        rfl
  rw [e, List.filter_append, List.filter_cons, if_pos hr]
  unfold cntR
  simp

set_option maxRecDepth 100000 in
set_option maxHeartbeats 6400000 in
theorem rtake_any (q room : Nat) (l : List El) (F : Nat → Prop) (k : Int) (w : World) (h : QAt 65 w q room l F) (hk : -9223372036854775808 ≤ k ∧ k ≤ 9223372036854775807) :
    Calls Try.prog 15 #[.pointer (some ⟨q, 0, none⟩), .int .i64 k] w fun r w' =>
      (∃ (n i : Nat) (e : El), k = n ∧ (placesOf l)[n]? = some i ∧ l[i]? = some e ∧ r = .returned (.tuple #[.agg (e.t.cells e.dv), .int .i64 0]) ∧ QAt 65 w' q room (l.set i { e with u := true }) F ∧ Keeps F w w') ∨
      ((k < 0 ∨ (placesOf l).length ≤ k) ∧ r = .returned (.tuple #[.agg taskZero, .int .i64 46]) ∧ Below w.heap.size w w') := by
  obtain ⟨av, hav, hrow⟩ := h.row
  have hle := h.le
  obtain ⟨ao, cap, rfl⟩ := hrow.shape
  have HR := Lib.hid hrow; clear hrow
  have hqlt := block_lt hav
  simp only at hqlt
  have HV := Lib.hid hav; clear hav
  have HQ := Lib.hid h; clear h
  obtain ⟨W, hW⟩ : ∃ W, W = w.alloc (.cells taskZero 32) := ⟨_, rfl⟩
  have HBW := Lib.hid (show Below w.heap.size w W by rw [hW]; exact allocBelow w _)
  have hsW : W.heap.size = w.heap.size + 1 := by rw [hW]; simp
  have HC := Lib.hid (show ∀ j, W.cell? ⟨w.heap.size, j, none⟩ = taskZero[j]? from fun j => by rw [hW]; exact World.cell?_alloc_new _ _ _ _)
  have HF := Lib.hid (show ∀ j, W.frozen? ⟨w.heap.size, j, none⟩ = false from fun j => by rw [hW]; exact World.frozen?_alloc_new _ _ _ _)
  have HRW := Lib.hid (HR.out.keeps (G := fun _ => False) (Keeps.of_below HBW.out) (fun _ _ h => h))
  have xq : W.cell? ⟨q, 1, none⟩ = some (.slice ao l.length cap) := (HBW.out.cell (p := ⟨q, 1, none⟩) hqlt).trans HV.out
  go_enter Try.func15, Try.ntmps15
  go_upto_region 1 with fail
  change Code.wp _ _ _ _ (w.alloc (.cells taskZero 32))
  rw [← hW]
  clear hW
  go_wp2_with fail
  go_loopg [1, 6] l.length (fun g s1 s6 wx => wx = W ∧ ∃ (i : Nat) (k' : Int), s1 = .int .i64 k' ∧ s6 = .int .i64 i ∧ i + g = l.length ∧ ((0 ≤ k ∧ k' = k - cntR l i ∧ (cntR l i : Int) ≤ k) ∨ (k < 0 ∧ ((k' < 0 ∧ -9223372036854775808 ≤ k') ∨ (4611686018427387904 - (i : Int) < k' ∧ k' ≤ 9223372036854775807)))))
  case atStart =>
    refine ⟨rfl, 0, k, rfl, rfl, by omega, ?_⟩
    have : cntR l 0 = 0 := rfl
    rw [this]
    omega
  case round =>
    obtain ⟨hw, i, k', rfl, rfl, hig, hinv⟩ := hrel
    have hw2 := hw.symm
    clear hw
    subst hw2
    by_cases hi : i < l.length
    case neg =>
      obtain rfl : i = l.length := by omega
      have hno : k < 0 ∨ ((placesOf l).length : Int) ≤ k := by rw [← cntR_all]; omega
      have HNo := Lib.hid hno; clear hno hinv
      have c2 := HC.out
      have f2 := HF.out
      unfold taskZero at c2
      go_wp2
      refine bodyPost_ret (v := .tuple #[.agg taskZero, .int .i64 46]) (by simp [results, Try.results15, go_sem, c2, taskZero]) rfl (.inr ⟨HNo.out, rfl, ?_⟩)
      repeat (refine Below.setCell ?_ (by simp) _)
      exact HBW.out
    case pos =>
      obtain ⟨e, he⟩ : ∃ e, l[i]? = some e := ⟨l[i], List.getElem?_eq_getElem hi⟩
      obtain ⟨g, cap', e1⟩ := HRW.out.form (by omega)
      injection e1 with e1 _ e2
      subst e1; subst e2
      have hgl := HQ.out.lt g (HR.out.blk g rfl).1
      have hgq := (HR.out.blk g rfl).2
      have HRD := Lib.hid (rready_any q room l F i e W (HQ.out.below HBW.out) he)
      have HS := Lib.hid (cntR_succ l i)
      have hcl := cntR_le l i
      go_wp2_with fail
      refine HRD.out.mono ?_
      rintro r w2 ⟨rfl, rfl⟩
      by_cases hr : readyAt l i = true
      case neg =>
        rw [Bool.not_eq_true] at hr
        rw [hr]
        rw [hr, if_neg (by simp), Nat.add_zero] at HS
        clear HRD
        go_wp2_with fail
        go_roundg (gk - 1)
        case measure => omega
        case rel => exact ⟨rfl, i + 1, k', rfl, by go_num, by omega, by rw [HS.out]; omega⟩
      case pos =>
        have HPL := Lib.hid (cntR_at l i hi hr)
        rw [hr]
        rw [if_pos hr] at HS
        clear HRD
        by_cases h0 : k' = 0
        case neg =>
          have b0 : (k' == 0) = false := by rw [beq_eq_false_iff_ne]; exact h0
          obtain ⟨k2, hk2⟩ : ∃ k2, IntKind.i64.wrap (k' - 1) = k2 := ⟨_, rfl⟩
          have hinv2 : ((0 ≤ k ∧ k2 = k - cntR l (i + 1) ∧ (cntR l (i + 1) : Int) ≤ k) ∨ (k < 0 ∧ ((k2 < 0 ∧ -9223372036854775808 ≤ k2) ∨ (4611686018427387904 - ((i + 1 : Nat) : Int) < k2 ∧ k2 ≤ 9223372036854775807)))) := by
            rw [HS.out]
            by_cases hm : k' = -9223372036854775808
            · have : k2 = 9223372036854775807 := by rw [← hk2, hm]; rfl
              omega
            · have : k2 = k' - 1 := by rw [← hk2]; exact IntWalk.i64_in _ (by omega)
              omega
          have HI2 := Lib.hid hinv2; clear hinv2 hinv
          go_wp2_with fail
          go_roundg (gk - 1)
          case measure => omega
          case rel => exact ⟨rfl, i + 1, k2, rfl, by go_num, by omega, HI2.out⟩
        case pos =>
          subst h0
          have hkn : k = (cntR l i : Nat) := by omega
          have xu := HRW.out.cell i e he 11 (by omega)
          have fu := HRW.out.frozen (i * 12 + 11)
          simp only [El.cells, List.getElem?_cons_zero, List.getElem?_cons_succ] at xu
          obtain ⟨V, hV⟩ : ∃ V, V = W.setCell ⟨g, i * 12 + 11, none⟩ (.bool true) := ⟨_, rfl⟩
          have KV := Lib.hid (show Keeps (· = g) W V by rw [hV]; exact Keeps.setCell (Keeps.refl (· = g) W) (p := ⟨g, i * 12 + 11, none⟩) (fun _ => rfl) _)
          have hszV : V.heap.size = W.heap.size := by rw [hV]; simp [World.setCell]
          have yq : V.cell? ⟨q, 1, none⟩ = some (.slice (some ⟨g, 0, none⟩) l.length cap) := (KV.out.cell (p := ⟨q, 1, none⟩) (by simp; omega) (fun e => hgq e.symm)).trans xq
          have c1V : ∀ j, V.cell? ⟨w.heap.size, j, none⟩ = taskZero[j]? := fun j => (KV.out.cell (p := ⟨w.heap.size, j, none⟩) (by simp; omega) (by simp; omega)).trans (HC.out j)
          have f1V : ∀ j, V.frozen? ⟨w.heap.size, j, none⟩ = false := fun j => (KV.out.frozen (p := ⟨w.heap.size, j, none⟩) (by simp; omega) (by simp; omega)).trans (HF.out j)
          have HRV := Lib.hid (show RowAt 65 V q (.slice (some ⟨g, 0, none⟩) l.length cap) (l.set i { e with u := true }) F by rw [hV]; exact HRW.out.setU he)
          have he' : (l.set i { e with u := true })[i]? = some { e with u := true } := by simp [hi]
          have hc : ∀ j, j < 12 → V.cell? ⟨g, i * 12 + j, none⟩ = (El.cells { e with u := true })[j]? := fun j hj => HRV.out.cell i _ he' j hj
          have q0 := hc 0 (by omega)
          have q1 := hc 1 (by omega)
          have q2 := hc 2 (by omega)
          have q3 := hc 3 (by omega)
          have q4 := hc 4 (by omega)
          have q5 := hc 5 (by omega)
          have q6 := hc 6 (by omega)
          have q7 := hc 7 (by omega)
          have q8 := hc 8 (by omega)
          have q9 := hc 9 (by omega)
          have q10 := hc 10 (by omega)
          simp only [El.cells, List.getElem?_cons_zero, List.getElem?_cons_succ, Nat.add_zero] at q0 q1 q2 q3 q4 q5 q6 q7 q8 q9 q10
          have HE := Lib.hid he; clear he he' hc
          have HD1 := Lib.hid (HR.out.data e (List.mem_of_getElem? HE.out)).1
          obtain ⟨t, dv, u⟩ := e
          obtain ⟨da, dc, hdv, _⟩ := HD1.out.form
          dsimp only at hdv q10
          rw [hdv] at q10
          have HDV := Lib.hid hdv; clear hdv HD1
          unfold taskZero at c1V
          clear hinv
          go_upto_region 7 with fail
          rw [← hV]
          clear hV xu fu
          go_wp2
          refine bodyPost_ret (v := .tuple #[.agg (t.cells (.slice da t.data.length dc)), .int .i64 0]) (by simp [results, Try.results15, go_sem, c1V, Tk.cells]) rfl (.inl ⟨_, i, _, hkn, HPL.out, HE.out, ?_, ?_, ?_⟩)
          · rw [HDV.out]
          · refine take_final (V := V) (W := W) (B := w.heap.size) HQ.out HRV.out hgq (Keeps.of_below HBW.out) KV.out ?_ (Nat.le_refl _) (by simp) xq HBW.out
            iterate 11 (with_reducible refine Keeps.setCell (F := (· = w.heap.size)) ?_ (fun _ => rfl) _)
            exact Keeps.refl _ _
          · iterate 11 (with_reducible refine Keeps.setCell (F := F) ?_ (fun h => absurd h (Nat.lt_irrefl _)) _)
            exact (Keeps.of_below (F := F) HBW.out).trans KV.out (fun x _ hx => by rw [hx]; exact (HR.out.blk g rfl).1)
end Go.Proofs.Ytknjiphgpoifcaa
