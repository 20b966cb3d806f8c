/-
  slices.Delete of one element of a queue's row.
-/
import Derived.Test.YtknjiphgpoifcaaTkTake
import Derived.Laws.IdiomCopy
import Derived.Lib.SmallJoins
namespace Go.Proofs.Ytknjiphgpoifcaa
open Go.RowKit

theorem heap_setCell_any {T : TypeId} {fr : Nat × Nat} {g o : Nat} {w : World} {cur : Array Value} (h : w.heap[g]? = some (.cells cur T fr)) (v : Value) : (w.setCell ⟨g, o, none⟩ v).heap[g]? = some (.cells (cur.setIfInBounds o v) T fr) := by
  simp only [World.setCell, Array.getElem?_modify, h, if_true, Option.map_some]; rfl
theorem setCells_heap (T : TypeId) (fr : Nat × Nat) (g : Nat) (vs : List Value) : ∀ (o : Nat) (w : World) (cur : Array Value), w.heap[g]? = some (.cells cur T fr) → ∃ cur', (w.setCells g o vs).heap[g]? = some (.cells cur' T fr) ∧ cur'.size = cur.size := by
  induction vs with
  | nil => intro o w cur h; exact ⟨cur, h, rfl⟩
  | cons v vs ih =>
    intro o w cur h
    obtain ⟨cur', h2, h3⟩ := ih (o + 1) _ _ (heap_setCell_any h v)
    exact ⟨cur', h2, by rw [h3]; simp⟩
theorem keeps_setCells {F : Nat → Prop} {a : World} (g : Nat) (vs : List Value) (hF : g < a.heap.size → F g) : ∀ (o : Nat) (b : World), Keeps F a b → Keeps F a (b.setCells g o vs) := by
  induction vs with
  | nil => intro o b h; exact h
  | cons v vs ih => intro o b h; exact ih (o + 1) _ (Keeps.setCell (F := F) h (p := ⟨g, o, none⟩) hF v)
/-- A row that reads so, cell by cell. -/
theorem ownsRow_of_cells {w : World} {base g n cap size : Nat} {T : TypeId} {cur : Array Value} {xs : List Value} (hg : w.heap[g]? = some (.cells cur T (0, 0))) (hb : base ≤ g) (hn : n ≤ cap) (hc : cap ≤ maxLen) (hs : cur.size = cap * size) (hl : xs.length = n * size)
    (h : ∀ j, j < n * size → w.cell? ⟨g, j, none⟩ = xs[j]?) : w.ownsRow base T size (.slice (some ⟨g, 0, none⟩) n cap) n xs := by
  refine ⟨hl, .inr ⟨g, cap, cur, rfl, hb, hg, hn, hc, hs, ?_⟩⟩
  apply List.ext_getElem?
  intro j
  rw [List.getElem?_take]
  by_cases hj : j < n * size
  · rw [if_pos hj, ← h j hj]
    simp [World.cell?, hg]
  · rw [if_neg hj, List.getElem?_eq_none (by omega)]

def oneZero : List Value := [.int .i64 0, .int .i64 0, .int .i64 0, .bool false, .bool false, .int .i64 0, .int .i64 0, .int .i64 0, .int .i64 0, .int .i64 0, .slice none 0 0, .bool false]
theorem zero_one (w : World) : (zeroValue 58).run Try.prog w = .ok (.agg oneZero.toArray) w := by kernel_rfl
theorem clear_run (w : World) (ty : TypeId) (g o c : Nat) (h : ∀ j, j < 12 → (w.cell? ⟨g, o + j, none⟩).isSome = true) (hf : ∀ j, j < 12 → w.frozen? ⟨g, o + j, none⟩ = false) :
    (Builtin.clear_ #[53] ty #[.slice (some ⟨g, o, none⟩) 1 c]).run Try.prog w = .ok (.tuple #[]) (w.setCells g o oneZero) := by
  have hz : (Builtin.zeroCells #[.int .i64 0, .int .i64 0, .int .i64 0, .bool false, .bool false, .int .i64 0, .int .i64 0, .int .i64 0, .int .i64 0, .int .i64 0, .slice none 0 0, .bool false] 1).toList = oneZero := by kernel_rfl
  have hu : Try.prog.underlying 53 = some (.slice 58) := by kernel_rfl
  have hs := run_storeCells_cells (P := Try.prog) g o oneZero 0 w (fun j hj => by simpa using h j hj) (fun j hj => by simpa using hf j hj) (by simp [oneZero, Value.oneCell'])
  simp only [Nat.add_zero] at hs
  simp [Builtin.clear_, run_underlying hu, Result.andThen, Value.cells, hz, hs]

theorem flat_eraseIdx (l : List El) : ∀ i, i < l.length → flat (l.eraseIdx i) = (flat l).take (i * 12) ++ (flat l).drop ((i + 1) * 12) := by
  induction l with
  | nil => intro i h; simp at h
  | cons x l ih =>
    intro i h
    cases i with
    | zero =>
      show flat l = ((x.cells ++ flat l).take (0 * 12)) ++ (x.cells ++ flat l).drop ((0 + 1) * 12)
      rw [Nat.zero_mul, List.take_zero, List.nil_append, List.drop_left' (by rw [El.cells_length])]
    | succ i =>
      show x.cells ++ flat (l.eraseIdx i) = (x.cells ++ flat l).take ((i + 1) * 12) ++ (x.cells ++ flat l).drop ((i + 1 + 1) * 12)
      rw [ih i (by simpa using h), List.take_append, List.drop_append, El.cells_length, List.take_of_length_le (l := x.cells) (by rw [El.cells_length]; omega), List.drop_eq_nil_of_le (show x.cells.length ≤ (i + 1 + 1) * 12 by rw [El.cells_length]; omega), List.nil_append,
        show (i + 1) * 12 - 12 = i * 12 by omega, show (i + 1 + 1) * 12 - 12 = (i + 1) * 12 by omega, List.append_assoc]

set_option maxRecDepth 100000 in
set_option maxHeartbeats 3200000 in
theorem delete_any (q g n cap i : Nat) (l : List El) (F : Nat → Prop) (w : World) (h : RowAt 58 w q (.slice (some ⟨g, 0, none⟩) n cap) l F) (hi : i < n) (hn8 : n ≤ 8) :
    Calls Try.prog 33 #[.slice (some ⟨g, 0, none⟩) n cap, .int .i64 (i : Int), .int .i64 ((i : Int) + 1)] w fun r w' => r = .returned (.slice (some ⟨g, 0, none⟩) (n - 1) cap) ∧
      RowAt 58 w' q (.slice (some ⟨g, 0, none⟩) (n - 1) cap) (l.eraseIdx i) F ∧ Keeps (· = g) w w' := by
  obtain ⟨hlen, hcap, hmax, cur, hcur, hcsz⟩ : n = l.length ∧ n ≤ cap ∧ cap ≤ maxLen ∧ ∃ cur, w.heap[g]? = some (.cells cur 58 (0, 0)) ∧ cur.size = cap * 12 := by
    rcases h.own.2 with ⟨e, h0⟩ | ⟨g', cap', cur, e, a1, a2, a3, a4, a5, a6⟩
    · simp at e
    · injection e with e1 e2 e3
      injection e1 with e1
      injection e1 with e1
      subst e1 e3
      exact ⟨e2, e2 ▸ a3, a4, cur, a2, a5⟩
  obtain ⟨news, hnews⟩ : ∃ news, news = (flat l).drop ((i + 1) * 12) := ⟨_, rfl⟩
  have hnl : news.length = (n - (i + 1)) * 12 := by rw [hnews, List.length_drop, flat_length]; omega
  have hrd : ∀ j, j < n * 12 → w.cell? ⟨g, j, none⟩ = (flat l)[j]? := fun j hj => by
    subst hlen
    exact World.ownsRow.cellAt h.own j (by omega)
  have hfz : ∀ j, w.frozen? ⟨g, j, none⟩ = false := fun j => h.frozen j
  obtain ⟨A, hA, hsrc⟩ : ∃ A : Addr, (if cap = i + 1 then (some ⟨g, 0, none⟩ : Option Addr) else some ⟨g, (i + 1) * 12, none⟩) = some A ∧ Hid (∀ t u, news[t]? = some u → w.drew.cell? (A.add t) = some u) := by
    by_cases h' : cap = i + 1
    · refine ⟨⟨g, 0, none⟩, by simp [h'], Lib.hid fun t u hu => ?_⟩
      have h0 : news.length = 0 := by rw [hnl]; omega
      rw [List.length_eq_zero_iff.1 h0] at hu
      simp at hu
    · refine ⟨⟨g, (i + 1) * 12, none⟩, by simp [h'], Lib.hid fun t u hu => ?_⟩
      have ht : t < (n - (i + 1)) * 12 := by
        have := (List.getElem?_eq_some_iff.1 hu).1
        rwa [hnl] at this
      rw [Addr.add_lit]
      show w.cell? _ = _
      rw [hrd _ (by omega), ← hu, hnews, List.getElem?_drop]
  have hone : Hid (∀ u ∈ news, u.oneCell' = true) := by
    refine Lib.hid fun u hu => ?_
    rw [hnews] at hu
    obtain ⟨e, he, hu⟩ := List.mem_flatMap.1 (List.mem_of_mem_drop hu)
    obtain ⟨da, dc, ed⟩ := (h.data e he).1.form
    simp only [El.cells, ed, List.mem_cons, List.not_mem_nil, or_false] at hu
    rcases hu with rfl | rfl | rfl | rfl | rfl | rfl | rfl | rfl | rfl | rfl | rfl | rfl <;> rfl
  have hex : ∀ j, j < cap * 12 → (w.cell? ⟨g, j, none⟩).isSome = true := fun j hj => by
    simp [World.cell?, hcur, hcsz, hj]
  have s3 : Hid (∀ t, t < news.length → (w.drew.cell? ⟨g, 0 + i * 12 + t, none⟩).isSome = true ∧ w.drew.frozen? ⟨g, 0 + i * 12 + t, none⟩ = false) := Lib.hid fun t ht => by
    rw [hnl] at ht
    exact ⟨hex _ (by omega), hfz _⟩
  obtain ⟨W1, hW1⟩ : ∃ W1, W1 = w.drew.setCells g (0 + i * 12) news := ⟨_, rfl⟩
  have hex1 : ∀ j, j < cap * 12 → (W1.cell? ⟨g, j, none⟩).isSome = true := fun j hj => by
    obtain ⟨cur', c1, c2⟩ := setCells_heap 58 (0, 0) g news (0 + i * 12) w.drew cur hcur
    rw [Nat.zero_add] at c1
    rw [hW1]
    simp [World.cell?, c1, c2, hcsz, hj]
  have hfz1 : ∀ j, W1.frozen? ⟨g, j, none⟩ = false := fun j => by
    rw [hW1, World.frozen?_setCells]; exact hfz j
  have hcl := Lib.hid (fun ty => clear_run W1 ty g ((n - 1) * 12) (cap - (n - 1)) (fun j hj => hex1 _ (by omega)) (fun j hj => hfz1 _))
  have hfin : RowAt 58 (W1.setCells g ((n - 1) * 12) oneZero) q (.slice (some ⟨g, 0, none⟩) (n - 1) cap) (l.eraseIdx i) F ∧ Keeps (· = g) w (W1.setCells g ((n - 1) * 12) oneZero) := by
    have K : Keeps (· = g) w (W1.setCells g ((n - 1) * 12) oneZero) := by
      rw [hW1]
      exact keeps_setCells (F := (· = g)) g _ (fun _ => rfl) _ _ (keeps_setCells (F := (· = g)) g _ (fun _ => rfl) _ _ (Keeps.refl (· = g) w).drew)
    refine ⟨⟨?_, h.blk, fun e he => ?_⟩, K⟩
    · have hl' : (l.eraseIdx i).length = n - 1 := by rw [List.length_eraseIdx, hlen]; simp; omega
      obtain ⟨cur1, c1, c2⟩ := setCells_heap 58 (0, 0) g news (0 + i * 12) w.drew cur hcur
      obtain ⟨cur2, d1, d2⟩ := setCells_heap 58 (0, 0) g oneZero ((n - 1) * 12) W1 cur1 (hW1 ▸ c1)
      rw [hl']
      refine ownsRow_of_cells d1 (Nat.zero_le _) (by omega) hmax (by rw [d2, c2, hcsz]) (by rw [flat_length, hl']) fun j hj => ?_
      rw [World.cell?_setCells_out g _ _ _ _ (by intro _ _; left; exact hj), hW1, flat_eraseIdx l i (by omega)]
      by_cases hj' : j < i * 12
      · rw [World.cell?_setCells_out g _ _ _ _ (by intro _ _; left; show j < _; omega), List.getElem?_append_left (by rw [List.length_take, flat_length]; omega), List.getElem?_take, if_pos hj']
        exact hrd j (by omega)
      · have hjn : j - i * 12 < news.length := by rw [hnl]; omega
        have e1 := World.cell?_setCells_in g news (0 + i * 12) w.drew (fun t ht => (s3.out t ht).1) (j - i * 12) hjn
        rw [show 0 + i * 12 + (j - i * 12) = j by omega] at e1
        rw [e1, List.getElem?_append_right (by rw [List.length_take, flat_length]; omega), List.length_take, flat_length, Nat.min_eq_left (by omega), ← hnews, List.getElem?_eq_getElem hjn]
    · obtain ⟨h1, h2, h3⟩ := h.data e (List.mem_of_mem_eraseIdx he)
      exact ⟨h1.keeps K (h3.mono fun k hk e => hk.2.2 (by simp [Value.ownBlock, e])), h2, h3⟩
  have HF := Lib.hid hfin; clear hfin
  have HW := Lib.hid hW1; clear hW1
  have hnm : maxLen = 9223372036854775807 := rfl
  obtain ⟨i0, hI⟩ : ∃ i0, Try.prog.info? 58 = some i0 ∧ i0.size = 12 := ⟨_, rfl, rfl⟩
  have HI := Lib.hid hI; clear hI
  have S1 := Lib.hid hnl
  have t1 : decide ((i : Int) = (i : Int) + 1) = false := by simp; omega
  have t2 : i + (n - (i + 1)) = n - 1 := by omega
  have t3 : ¬ (cap = n - 1) := by omega
  have hic : i ≤ cap := by omega
  have hjc : i + 1 ≤ cap := by omega
  have t4 : 0 ≤ (i : Int) + 1 ∧ (i : Int) + 1 ≤ (n : Int) := by omega
  clear hlen h hcur hcsz hex hfz hex1 hfz1 hrd hnews hnl
  go_enter Try.func33, Try.ntmps33
  go_wp2_with fail
  go_region_law (refine step_append_room (by rfl) (.tmp 22) (.tmp 25) 53 (by rfl) 58 i0 12 Try.underlying53 HI.out.1 HI.out.2 g 0 i cap (by rfl) A (n - (i + 1)) (cap - (i + 1)) news (by rfl) S1.out hsrc.out hone.out (by omega) s3.out ?_; rw [← HW.out])
  clear hsrc hone s3 HW S1 HI t1 t2 t4 hic hjc hA
  have t5 : n - (n - 1) = 1 := by omega
  have t6 : n - 1 ≤ n := by omega
  have hcl := hcl.out
  go_wp2
  go_ret
  exact ⟨rfl, HF.out⟩
end Go.Proofs.Ytknjiphgpoifcaa
