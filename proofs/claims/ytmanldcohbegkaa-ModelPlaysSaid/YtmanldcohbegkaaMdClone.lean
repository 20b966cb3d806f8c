/-
  The model: a map's clone; a volume's copy. (Written by gen_mdclone.py.)
-/
import Derived.Test.YtmanldcohbegkaaMdBlock
import Derived.Shelf.SlMaps.Clone
namespace Go.Proofs.Ytmanldcohbegkaa
open Go.RowKit
set_option linter.unusedVariables false
set_option linter.unusedSimpArgs false

set_option maxRecDepth 100000 in
set_option maxHeartbeats 2000000 in
theorem mclone_any (b : Nat) (es : Array MapEntry) (clock : Nat) (w : World) (hb : w.heap[b]? = some (.map es clock)) :
    Calls Try.prog 51 #[.map (some b)] w fun e w' => e = .returned (.map (some w.heap.size)) ∧ w' = w.alloc (.map es clock) := by
  have hq := fun w => run_eql_map_nil_sl (P := Try.prog) w 64 _ _ (some b) Try.underlying64
  go_enter Try.func51, Try.ntmps51
  go_wp2
  rw [run_callFunc_extern Try.func57 (by kernel_rfl) (by kernel_rfl) (by kernel_rfl) (e := Extern.MapsClone.clone) (by kernel_rfl), run_maps_clone_sl w 64 hb]
  simp only [Result.andThen]
  rw [Oper.upon_value]
  go_wp2
  rw [run_typeAssert_map_sl _ 64 20 _ _ _ Try.underlying64]
  simp only [Result.andThen]
  rw [Oper.upon_value]
  go_wp2
  go_ret
  exact ⟨rfl, rfl⟩
theorem MapIs.raw {w : World} {b : Nat} {l : List (Int × Value)} (h : MapIs w b l) : ∃ es clock, w.heap[b]? = some (.map es clock) ∧ ((es.toList.map (fun e => (e.key, e.val)) = l.map fun p => (Value.int .i64 p.1, p.2)) ∧ Stamps es clock) := h
theorem copied_at [Zs] {w : World} {p b : Nat} {v : Vo} (h : VolAt w p b v) {es0 : Array MapEntry} {clock : Nat} (hb : w.heap[b]? = some (.map es0 clock)) (id : Int) (es : List (Int × (Value × List Nat))) (hbe : v.bl = es.map fun e => (e.1, e.2.2)) (hes : ((es0.toList.map (fun e => (e.key, e.val)) = (es.map fun e => (e.1, e.2.1)).map fun p => (Value.int .i64 p.1, p.2)) ∧ Stamps es0 clock) ∧ ∀ e ∈ es, DataAt w e.2.1 e.2.2) :
    VolAt ((w.drew.alloc (.map es0 clock)).alloc (.cells #[.int .i64 id, .int .i64 v.size, .int .i64 v.quota, .map (some w.heap.size)] 66)) (w.heap.size + 1) w.heap.size { v with id := id } := by
  have hk3 : Keeps (fun _ => False) w ((w.drew.alloc (.map es0 clock)).alloc (.cells #[.int .i64 id, .int .i64 v.size, .int .i64 v.quota, .map (some w.heap.size)] 66)) := ((Keeps.refl _ w).drew.alloc _).alloc _
  refine ⟨heap_at (by simp), es, ⟨es0, clock, ?_, hes.1⟩, hbe, fun e he => (hes.2 e he).keeps hk3 (fun _ _ _ h => h)⟩
  exact (Below.heap_alloc _ _ _ (by simp)).trans (heap_at (by simp))

set_option maxRecDepth 100000 in
set_option maxHeartbeats 6400000 in
theorem copied_any [Zs] (p b : Nat) (v : Vo) (id : Int) (w : World) (h : VolAt w p b v) :
    Calls Try.prog 30 #[.pointer (some ⟨p, 0, none⟩), .int .i64 id] w fun e w' => e = .returned (.pointer (some ⟨w.heap.size + 1, 0, none⟩)) ∧ VolAt w' (w.heap.size + 1) w.heap.size { v with id := id } ∧ Below w.heap.size w w' := by
  have hpl := h.str.lt
  obtain ⟨es, hml, hbe, hda⟩ := h.map
  obtain ⟨es0, clock, hb0, he0⟩ := hml.raw
  have hes := And.intro he0 hda
  have c1 := h.str.cell 1
  have c2 := h.str.cell 2
  have c3 := h.str.cell 3
  simp only [Vo.cells, List.getElem?_toArray, List.getElem?_cons_zero, List.getElem?_cons_succ] at c1 c2 c3
  have HV := Lib.hid h
  clear h hml hda he0
  go_enter Try.func30, Try.ntmps30
  go_upto_region 1 with fail
  refine wp_region_held_drew (S := fun V => V.cell? ⟨p, 1, none⟩ = some (.int .i64 v.size) ∧ V.cell? ⟨p, 2, none⟩ = some (.int .i64 v.quota) ∧ V.cell? ⟨p, 3, none⟩ = some (.map (some b))) (by kernel_rfl) ⟨c1, c2, c3⟩ (fun hHeld => ?_)
  refine wpAnyH_take (i := 0) (v := .int .i64 id) ops_at0 (by kernel_rfl) (by kernel_rfl) (by kernel_rfl) (fun _ _ _ h => h) (Or.inl ⟨by rfl, fun V hV => ?_⟩) hHeld ?_
  · go_simp
  simp only [Act.put, List.setIfInBounds_toArray, List.set_cons_zero, List.set_cons_succ]
  refine wpAnyH_take (i := 1) (v := (.pointer (some ⟨p, 0, none⟩))) ops_at1 (by kernel_rfl) (by kernel_rfl) (by kernel_rfl) (fun _ _ _ h => h) (Or.inl ⟨by rfl, fun V hV => ?_⟩) hHeld ?_
  · go_simp
  simp only [Act.put, List.setIfInBounds_toArray, List.set_cons_zero, List.set_cons_succ]
  refine wpAnyH_take (i := 2) (v := (.pointer (some ⟨p, 0, none⟩))) ops_at2 (by kernel_rfl) (by kernel_rfl) (by kernel_rfl) (fun _ _ _ h => h) (Or.inl ⟨by rfl, fun V hV => ?_⟩) hHeld ?_
  · go_simp
  simp only [Act.put, List.setIfInBounds_toArray, List.set_cons_zero, List.set_cons_succ]
  refine wpAnyH_take (i := 3) (v := .pointer (some ⟨p, 1, none⟩)) ops_at3 (by kernel_rfl) (by kernel_rfl) (by kernel_rfl) (fun _ _ _ h => h) (Or.inl ⟨by rfl, fun V hV => ?_⟩) hHeld ?_
  · go_simp
  simp only [Act.put, List.setIfInBounds_toArray, List.set_cons_zero, List.set_cons_succ]
  refine wpAnyH_take (i := 4) (v := .int .i64 v.size) ops_at4 (by kernel_rfl) (by kernel_rfl) (by kernel_rfl) (fun _ _ _ h => h) (Or.inl ⟨by rfl, fun V hV => ?_⟩) hHeld ?_
  · obtain ⟨q1, q2, q3⟩ := hV
    go_simp
  simp only [Act.put, List.setIfInBounds_toArray, List.set_cons_zero, List.set_cons_succ]
  refine wpAnyH_take (i := 5) (v := (.pointer (some ⟨p, 0, none⟩))) ops_at5 (by kernel_rfl) (by kernel_rfl) (by kernel_rfl) (fun _ _ _ h => h) (Or.inl ⟨by rfl, fun V hV => ?_⟩) hHeld ?_
  · go_simp
  simp only [Act.put, List.setIfInBounds_toArray, List.set_cons_zero, List.set_cons_succ]
  refine wpAnyH_take (i := 6) (v := (.pointer (some ⟨p, 0, none⟩))) ops_at6 (by kernel_rfl) (by kernel_rfl) (by kernel_rfl) (fun _ _ _ h => h) (Or.inl ⟨by rfl, fun V hV => ?_⟩) hHeld ?_
  · go_simp
  simp only [Act.put, List.setIfInBounds_toArray, List.set_cons_zero, List.set_cons_succ]
  refine wpAnyH_take (i := 7) (v := .pointer (some ⟨p, 2, none⟩)) ops_at7 (by kernel_rfl) (by kernel_rfl) (by kernel_rfl) (fun _ _ _ h => h) (Or.inl ⟨by rfl, fun V hV => ?_⟩) hHeld ?_
  · go_simp
  simp only [Act.put, List.setIfInBounds_toArray, List.set_cons_zero, List.set_cons_succ]
  refine wpAnyH_take (i := 8) (v := .int .i64 v.quota) ops_at8 (by kernel_rfl) (by kernel_rfl) (by kernel_rfl) (fun _ _ _ h => h) (Or.inl ⟨by rfl, fun V hV => ?_⟩) hHeld ?_
  · obtain ⟨q1, q2, q3⟩ := hV
    go_simp
  simp only [Act.put, List.setIfInBounds_toArray, List.set_cons_zero, List.set_cons_succ]
  refine wpAnyH_take (i := 9) (v := (.pointer (some ⟨p, 0, none⟩))) ops_at9 (by kernel_rfl) (by kernel_rfl) (by kernel_rfl) (fun _ _ _ h => h) (Or.inl ⟨by rfl, fun V hV => ?_⟩) hHeld ?_
  · go_simp
  simp only [Act.put, List.setIfInBounds_toArray, List.set_cons_zero, List.set_cons_succ]
  refine wpAnyH_take (i := 10) (v := (.pointer (some ⟨p, 0, none⟩))) ops_at10 (by kernel_rfl) (by kernel_rfl) (by kernel_rfl) (fun _ _ _ h => h) (Or.inl ⟨by rfl, fun V hV => ?_⟩) hHeld ?_
  · go_simp
  simp only [Act.put, List.setIfInBounds_toArray, List.set_cons_zero, List.set_cons_succ]
  refine wpAnyH_take (i := 11) (v := .pointer (some ⟨p, 3, none⟩)) ops_at11 (by kernel_rfl) (by kernel_rfl) (by kernel_rfl) (fun _ _ _ h => h) (Or.inl ⟨by rfl, fun V hV => ?_⟩) hHeld ?_
  · go_simp
  simp only [Act.put, List.setIfInBounds_toArray, List.set_cons_zero, List.set_cons_succ]
  refine wpAnyH_take (i := 12) (v := .map (some b)) ops_at12 (by kernel_rfl) (by kernel_rfl) (by kernel_rfl) (fun _ _ _ h => h) (Or.inl ⟨by rfl, fun V hV => ?_⟩) hHeld ?_
  · obtain ⟨q1, q2, q3⟩ := hV
    go_simp
  simp only [Act.put, List.setIfInBounds_toArray, List.set_cons_zero, List.set_cons_succ]
  refine wpAnyH_ready (rs := [13]) (by kernel_rfl) (by simp) ?_
  refine AllReadyH.cons ops_at13 (fun K hK => ?_) AllReadyH.nil
  rw [if_pos (by rfl)]
  go_simp
  refine (mclone_any b es0 clock w.drew hb0).mono ?_
  rintro e w2 ⟨rfl, rfl⟩
  go_wp2_with fail
  have hk2 : Keeps (fun _ => False) w (w.drew.alloc (.map es0 clock)) := (Keeps.refl _ w).drew.alloc _
  have d1 := (hk2.cell (p := ⟨p, 1, none⟩) hpl (fun h => h)).trans c1
  have d2 := (hk2.cell (p := ⟨p, 2, none⟩) hpl (fun h => h)).trans c2
  have d3 := (hk2.cell (p := ⟨p, 3, none⟩) hpl (fun h => h)).trans c3
  refine hK.out _ _ ⟨d1, d2, d3⟩ (fun hHeld2 => ?_)
  clear hK K
  refine wpAnyH_take (i := 14) (v := .agg #[.int .i64 id, .int .i64 v.size, .int .i64 v.quota, .map (some w.heap.size)]) ops_at14 (by kernel_rfl) (by kernel_rfl) (by kernel_rfl) (fun _ _ _ h => h) (Or.inl ⟨by rfl, fun V hV => ?_⟩) hHeld2 ?_
  · go_simp
  simp only [Act.put, List.setIfInBounds_toArray, List.set_cons_zero, List.set_cons_succ]
  refine wpAnyH_ready (rs := [15]) (by kernel_rfl) (by simp) ?_
  refine AllReadyH.cons ops_at15 (fun K hK => ?_) AllReadyH.nil
  rw [if_pos (by rfl)]
  go_simp
  have hk3 : Keeps (fun _ => False) w ((w.drew.alloc (.map es0 clock)).alloc (.cells #[.int .i64 id, .int .i64 v.size, .int .i64 v.quota, .map (some w.heap.size)] 66)) := hk2.alloc _
  have e1 := (hk3.cell (p := ⟨p, 1, none⟩) hpl (fun h => h)).trans c1
  have e2 := (hk3.cell (p := ⟨p, 2, none⟩) hpl (fun h => h)).trans c2
  have e3 := (hk3.cell (p := ⟨p, 3, none⟩) hpl (fun h => h)).trans c3
  refine hK.out _ _ ⟨e1, e2, e3⟩ (fun hHeld3 => ?_)
  clear hK K
  refine wpAnyH_take (i := 16) (v := .pointer (some ⟨w.heap.size + 1, 0, none⟩)) ops_at16 (by kernel_rfl) (by kernel_rfl) (by kernel_rfl) (fun _ _ _ h => h) (Or.inl ⟨by rfl, fun V hV => ?_⟩) hHeld3 ?_
  · go_simp
  simp only [Act.put, List.setIfInBounds_toArray, List.set_cons_zero, List.set_cons_succ]
  refine wpAnyH_done (by kernel_rfl) ?_ _
  go_wp2
  go_ret
  exact ⟨rfl, copied_at HV.out hb0 id es hbe hes, hk3.below (Nat.le_refl _) (fun _ _ h => h)⟩

end Go.Proofs.Ytmanldcohbegkaa
