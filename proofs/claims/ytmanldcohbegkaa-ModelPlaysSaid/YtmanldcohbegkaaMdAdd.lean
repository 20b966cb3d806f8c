/-
  The model: added.
-/
import Derived.Test.YtmanldcohbegkaaMdClone
import Derived.Maps.AppendAt
namespace Go.Proofs.Ytmanldcohbegkaa
open Go.RowKit

theorem Try.info_ptr : (Try.prog.info? 63).map (fun i => (i.zero, i.size, i.bytes)) = some (some (.pointer none), 1, 8) := by kernel_rfl
theorem Keeps.setModel {F : Nat → Prop} {w w' : World} {m : Nat} (h : Keeps F w w') (hm : F m) (j : Nat) (u : Value) : Keeps F w (w'.setCell ⟨m, j, none⟩ u) := h.setCell (fun _ => hm) u
theorem added_at [Zs] {w w1 : World} {m : Nat} {rv v2 : Value} {ps : List (Nat × Nat)} {S : Mo} {p b : Nat} {v : Vo} (h : ModelIs w m rv ps S) (hv : VolAt w p b v) (hp : ¬ Own m rv ps p) (hb : ¬ Own m rv ps b) (hk : Keeps (fun k => rv.ownBlock = some k) w w1)
    (hrow : w1.ownsRow 0 63 1 v2 (ps.length + 1) (ptrs ps ++ [.pointer (some ⟨p, 0, none⟩)])) (hblk : v2.ownBlock = rv.ownBlock ∨ ∃ g, v2.ownBlock = some g ∧ w.heap.size ≤ g) (x : Int) (hx : x = S.next + 1) :
    ModelIs ((w1.setCell ⟨m, 0, none⟩ v2).setCell ⟨m, 1, none⟩ (.int .i64 x)) m v2 (ps ++ [(p, b)]) (S.add v) ∧ Keeps (Own m rv ps) w ((w1.setCell ⟨m, 0, none⟩ v2).setCell ⟨m, 1, none⟩ (.int .i64 x)) ∧
    ∀ k, Own m v2 (ps ++ [(p, b)]) k → Own m rv ps k ∨ k = p ∨ k = b ∨ w.heap.size ≤ k := by
  subst hx
  have hml := h.head.lt
  have hOm : Own m rv ps m := .inl rfl
  have hkW : Keeps (Own m rv ps) w w1 := hk.mono (fun _ _ h => .inr (.inl h))
  have hkf := (hkW.setModel hOm 0 v2).setModel hOm 1 (.int .i64 (S.next + 1))
  have hset : Keeps (fun x => x = m) w1 ((w1.setCell ⟨m, 0, none⟩ v2).setCell ⟨m, 1, none⟩ (.int .i64 (S.next + 1))) := ((Keeps.refl (fun x => x = m) w1).setCell (p := ⟨m, 0, none⟩) (fun _ => rfl) _).setCell (p := ⟨m, 1, none⟩) (fun _ => rfl) _
  -- the row's block is none of the others
  have hrm : ¬ rv.ownBlock = some m := by
    intro e
    obtain ⟨cur, hc⟩ := rowBlock h.row e
    have := h.head; unfold CellsAt at this; rw [this] at hc; simp at hc
  have hm1 : CellsAt w1 m (S.cells rv) 53 := h.head.keeps hk hrm
  have hv2m : ∀ g, v2.ownBlock = some g → ¬ g = m := by
    rintro g hg rfl
    rcases hblk with e | ⟨g', e, hg'⟩
    · rw [e] at hg; exact hrm hg
    · rw [e] at hg; cases hg; omega
  have hk2 : Keeps (fun k => rv.ownBlock = some k ∨ k = m) w ((w1.setCell ⟨m, 0, none⟩ v2).setCell ⟨m, 1, none⟩ (.int .i64 (S.next + 1))) := (hk.mono (fun _ _ h => .inl h)).trans (hset.mono (fun _ _ h => .inr h)) (fun _ _ h => h)
  have h5 : ∀ g cur, w.heap[g]? = some (.cells cur 5 (0, 0)) → ¬ (rv.ownBlock = some g ∨ g = m) := fun g cur hc hor => h.noBytes g cur hc (hor.elim (fun e => .inr (.inl e)) (fun e => .inl e))
  refine ⟨⟨?_, hset.owns (by simpa [ptrs] using hrow) hv2m, by simp [Mo.add, h.len], ?_, ?_, ?_⟩, hkf, ?_⟩
  · exact (hm1.set 0 v2).set 1 (.int .i64 (S.next + 1))
  · intro i q u hq hu
    by_cases hi : i < ps.length
    · rw [List.getElem?_append_left hi] at hq
      have hu2 : S.vols[i]? = some u := by
        simp only [Mo.add] at hu
        rw [List.getElem?_append_left (by rw [← h.len]; exact hi)] at hu; exact hu
      have hvq := h.vol i q u hq hu2
      have hqm : q ∈ ps := List.mem_of_getElem? hq
      refine hvq.keeps hk2 ?_ ?_ h5
      · rintro (e | e)
        · obtain ⟨cur, hc⟩ := rowBlock h.row e
          have := hvq.str; unfold CellsAt at this; rw [this] at hc; simp at hc
        · have h1 := hvq.str; have h2 := h.head; unfold CellsAt at h1 h2; rw [e, h2] at h1; simp at h1
      · rintro (e | e)
        · obtain ⟨cur, hc⟩ := rowBlock h.row e
          exact hvq.map.notCells _ _ _ hc
        · have h2 := h.head; unfold CellsAt at h2; rw [← e] at h2; exact hvq.map.notCells _ _ _ h2
    · rw [List.getElem?_append_right (by omega)] at hq
      simp only [Mo.add] at hu
      rw [List.getElem?_append_right (by rw [← h.len]; omega), ← h.len] at hu
      have hz : i - ps.length = 0 := by
        rcases Nat.eq_zero_or_pos (i - ps.length) with e | e
        · exact e
        · rw [List.getElem?_eq_none (by simp; omega)] at hq; cases hq
      rw [hz] at hq hu
      simp at hq hu
      subst hq hu
      exact hv.keeps hk2 (fun e => hp (e.elim (fun e => .inr (.inl e)) (fun e => .inl e))) (fun e => hb (e.elim (fun e => .inr (.inl e)) (fun e => .inl e))) h5
  · rw [List.map_append, List.nodup_append]
    refine ⟨h.ap1, by simp, ?_⟩
    intro a ha c hc e
    simp at hc
    obtain ⟨q, hq, rfl⟩ := List.mem_map.1 ha
    exact hp (.inr (.inr ⟨q, hq, .inl (by rw [e, hc])⟩))
  · rw [List.map_append, List.nodup_append]
    refine ⟨h.ap2, by simp, ?_⟩
    intro a ha c hc e
    simp at hc
    obtain ⟨q, hq, rfl⟩ := List.mem_map.1 ha
    exact hb (.inr (.inr ⟨q, hq, .inr (by rw [e, hc])⟩))
  · rintro k (rfl | e | ⟨q, hq, hk⟩)
    · exact .inl (.inl rfl)
    · rcases hblk with e2 | ⟨g, e2, hg⟩
      · rw [e2] at e; exact .inl (.inr (.inl e))
      · rw [e2] at e; cases e; exact .inr (.inr (.inr hg))
    · rcases List.mem_append.1 hq with hq | hq
      · exact .inl (.inr (.inr ⟨q, hq, hk⟩))
      · simp at hq; subst hq; exact .inr (hk.elim .inl (fun e => .inr (.inl e)))

set_option maxRecDepth 100000 in
set_option maxHeartbeats 3200000 in
theorem added_any [Zs] (m : Nat) (rv : Value) (ps : List (Nat × Nat)) (S : Mo) (p b : Nat) (v : Vo) (w : World) (h : ModelIs w m rv ps S) (hv : VolAt w p b v) (hp : ¬ Own m rv ps p) (hb : ¬ Own m rv ps b) (hlen : ps.length ≤ 7) (hid : v.id = S.next) (h0 : 1 ≤ S.next) (h1 : S.next < 1073741824) :
    Calls Try.prog 36 #[.pointer (some ⟨m, 0, none⟩), .pointer (some ⟨p, 0, none⟩)] w fun e w' => ∃ r rv', e = .returned r ∧ Owns w.heap.size w' r (fourB S.next.toNat) ∧ ModelIs w' m rv' (ps ++ [(p, b)]) (S.add v) ∧ Keeps (Own m rv ps) w w' ∧ ∀ k, Own m rv' (ps ++ [(p, b)]) k → Own m rv ps k ∨ k = p ∨ k = b ∨ w.heap.size ≤ k := by
  obtain ⟨i0, hi, hz0, hz1, hz2⟩ := info_parts Try.info_ptr
  have hm0 := h.head.cell 0
  have hm1 := h.head.cell 1
  have hmf := h.head.free 0
  have hmf1 := h.head.free 1
  have hml := h.head.lt
  have hpl := hv.str.lt
  have hp0 := hv.str.cell 0
  simp only [Mo.cells, Vo.cells, List.getElem?_toArray, List.getElem?_cons_zero, List.getElem?_cons_succ] at hm0 hm1 hp0
  rw [hid] at hp0
  have hpm : p ≠ m := fun e => hp (.inl e)
  have hpr : ¬ rv.ownBlock = some p := fun e => hp (.inr (.inl e))
  have hrm : ¬ rv.ownBlock = some m := by
    intro e
    obtain ⟨cur, hc⟩ := rowBlock h.row e
    have := h.head; unfold CellsAt at this; rw [this] at hc; simp at hc
  have HI := Lib.hid hi; clear hi
  have HZ0 := Lib.hid hz0; clear hz0
  have HZ1 := Lib.hid hz1; clear hz1
  have HZ2 := Lib.hid hz2; clear hz2
  have hnn : (S.next.toNat : Int) = S.next := by omega
  have hwr : IntKind.i64.wrap (S.next + 1) = S.next + 1 := IntWalk.i64_in _ (by omega)
  obtain ⟨ao, cap, hrv⟩ : ∃ ao cap, rv = .slice ao ps.length cap := by
    rcases h.rowForm with ⟨e1, e2⟩ | ⟨g, cap, e, _⟩
    · exact ⟨none, 0, by rw [e1, e2]; rfl⟩
    · exact ⟨_, _, e⟩
  have hrow := h.row
  have HM := Lib.hid h; clear h
  have HV := Lib.hid hv; clear hv
  subst hrv
  have HR := Lib.hid hrow; clear hrow
  have x0 : ∀ o, (w.alloc o).cell? ⟨m, 0, none⟩ = some (.slice ao ps.length cap) := fun o => (World.cell?_alloc_lt w o ⟨m, 0, none⟩ hml).trans hm0
  go_enter Try.func36, Try.ntmps36
  go_wp2_with (at_builtin; refine wpList_append_own_at _ rfl (.tmp 9) (.tmp 11) 51 rfl 0 63 i0 _ 1 8 Try.underlying51 HI.out HZ0.out HZ1.out HZ2.out rfl (by decide) _ ps.length (ptrs ps) rfl (World.ownsRow.alloc HR.out _) ⟨w.heap.size, 0, none⟩ 1 1 [.pointer (some ⟨p, 0, none⟩)] rfl rfl (cell_one_new _ _ _) (by simp [Value.oneCell']) (by unfold maxLen; omega) (by omega) (by simp) ?_; intro v2 w1 hown hgrow _ hblk; have hk1 : Keeps (fun k => (Value.slice ao ps.length cap).ownBlock = some k) w w1 := ((Keeps.refl _ w).alloc _).trans (Keeps.of_grown hgrow (fun k hk => hk)) (fun _ _ h => h); have y1 := (hk1.cell (p := ⟨m, 1, none⟩) hml hrm).trans hm1; have y0 := (hk1.cell (p := ⟨m, 0, none⟩) hml hrm).trans hm0; have yf := (hk1.frozen (p := ⟨m, 0, none⟩) hml hrm).trans hmf; have yf1 := (hk1.frozen (p := ⟨m, 1, none⟩) hml hrm).trans hmf1; have yp := (hk1.cell (p := ⟨p, 0, none⟩) hpl hpr).trans hp0; have hz1 := hk1.size; obtain ⟨g', cap', rfl⟩ := ownsRow_succ hown; have HO := Lib.hid hown; clear hown; have HK1 := Lib.hid hk1; clear hk1 hgrow; have HB := Lib.hid hblk; clear hblk)
  obtain ⟨Wf, hWf⟩ : ∃ Wf, (w1.setCell { block := m, off := 0 } (Value.slice (some { block := g', off := 0 }) (ps.length + 1) cap')).setCell { block := m, off := 1 } (Value.int IntKind.i64 (S.next + 1)) = Wf := ⟨_, rfl⟩
  have hadd := added_at HM.out HV.out hp hb HK1.out HO.out (by
    rcases HB.out with e | e
    · exact .inl e
    · exact .inr ⟨_, e, by simp⟩) (S.next + 1) rfl
  rw [hWf] at hadd ⊢
  have hsz : w.heap.size ≤ Wf.heap.size := hadd.2.1.size
  have HA := Lib.hid hadd; clear hadd hWf
  rw [← hnn]
  refine (four_any w.heap.size (.slice none 0 0) [] S.next.toNat Wf (Owns.nil _ _) hsz (by simp) (by omega)).mono ?_
  rintro r w5 ⟨v5, rfl, hown5, hk5⟩
  rw [hnn]
  have H5 := Lib.hid hown5; clear hown5
  have hk6 : Keeps (fun _ => False) Wf w5 := hk5.mono (fun x _ hx => by simp [Value.ownBlock] at hx)
  have HK6 := Lib.hid hk6; clear hk5 hk6
  go_wp2
  go_ret
  exact ⟨_, _, rfl, H5.out, HA.out.1.keeps HK6.out (fun _ _ h => h) (fun _ _ _ h => h), HA.out.2.1.trans HK6.out (fun _ _ h => h.elim), HA.out.2.2⟩
end Go.Proofs.Ytmanldcohbegkaa
