/-
  The model: change. (Written by gen_mdchange.py.)
-/
import Derived.Test.YtmanldcohbegkaaMdDel
import Derived.Deep.RegionWith
import Derived.Deep.RegionHeld3
namespace Go.Proofs.Ytmanldcohbegkaa
open Go.RowKit

theorem frozen_alloc_lt (w : World) (o : Obj) (a : Addr) (h : a.block < w.heap.size) : (w.alloc o).frozen? a = w.frozen? a := ((Keeps.refl (fun _ => False) w).alloc o).frozen h (fun h => h)
/-- What change leaves. -/
def ChPost [Zs] (w : World) (m : Nat) (rv : Value) (ps : List (Nat × Nat)) (q : List Nat × Mo) (e : Ending) (w' : World) : Prop :=
  ∃ r rv' ps', e = .returned r ∧ Owns w.heap.size w' r q.1 ∧ ModelIs w' m rv' ps' q.2 ∧ Keeps (Own m rv ps) w w' ∧ ∀ k, Own m rv' ps' k → Own m rv ps k ∨ w.heap.size ≤ k

set_option maxRecDepth 100000 in
set_option maxHeartbeats 6400000 in
theorem change_none [Zs] (m : Nat) (rv : Value) (ps : List (Nat × Nat)) (S : Mo) (t : Tk) (dv : Value) (w : World) (h : ModelIs w m rv ps S) (hlen : ps.length ≤ 8) (k0 : Int) (hk0 : k0 = 1 ∨ k0 = 4) (hop : t.op = k0) :
    Calls Try.prog 25 #[.pointer (some ⟨m, 0, none⟩), .agg (t.cells dv)] w (ChPost w m rv ps (changeS S t)) := by
  rcases hk0 with rfl | rfl
  all_goals
    have hb1 : Below w.heap.size w (w.alloc (.cells (t.cells dv) 30)) := allocBelow w _
    have HF := Lib.hid (find_any m rv ps S t.vol _ (h.below hb1) hlen)
    have hml := h.head.lt
    obtain ⟨pv, hpv⟩ : ∃ pv, pv = ptrOf ps (S.find t.vol) := ⟨_, rfl⟩
    rw [← hpv] at HF
    clear hpv
    have c0 := fun j => (CellsAt.new w (t.cells dv) 30).cell j
    have HC0 := Lib.hid c0
    have HM := Lib.hid h
    clear h c0
    unfold Tk.cells at HC0 HF ⊢
    rw [hop] at HC0 HF ⊢
    go_enter Try.func25, Try.ntmps25
    go_wp2_with fail
    refine HF.out.mono ?_
    rintro e w1 ⟨rfl, hb2⟩
    have hz1 : w.heap.size + 1 ≤ w1.heap.size := by have := hb2.size; simpa using this
    have hk1 : Keeps (fun _ => False) w w1 := ((Keeps.refl _ w).alloc _).trans (Keeps.of_below hb2) (fun _ _ h => h)
    have c1 := fun j => (hb2.cell (p := ⟨w.heap.size, j, none⟩) (by simp)).trans (HC0.out j)
    have HM1 := Lib.hid (HM.out.keeps hk1 (fun _ _ h => h) (fun _ _ _ h => h))
    have HK1 := Lib.hid hk1; clear hk1 hb2
    have hT1 : w.heap.size < w1.heap.size := by omega
    have e2 := fun o => (World.cell?_alloc_lt w1 o ⟨w.heap.size, 2, none⟩ hT1).trans (c1 2)
    have e6 := fun o => (World.cell?_alloc_lt w1 o ⟨w.heap.size, 6, none⟩ hT1).trans (c1 6)
    have e7 := fun o => (World.cell?_alloc_lt w1 o ⟨w.heap.size, 7, none⟩ hT1).trans (c1 7)
    have e8 := fun o => (World.cell?_alloc_lt w1 o ⟨w.heap.size, 8, none⟩ hT1).trans (c1 8)
    have e9 := fun o => (World.cell?_alloc_lt w1 o ⟨w.heap.size, 9, none⟩ hT1).trans (c1 9)
    simp only [List.getElem?_toArray, List.getElem?_cons_zero, List.getElem?_cons_succ] at e2 e6 e7 e8 e9
    clear c1
    go_wp2_with fail
    go_ret
    refine ⟨_, rv, ps, rfl, by rw [show (changeS S t).1 = [] by simp [changeS, hop]]; exact Owns.nil _ _, ?_⟩
    rw [show (changeS S t).2 = S by simp [changeS, hop]]
    exact ⟨HM1.out.below ((Below.refl _ w1).alloc (Nat.le_refl _) _), (HK1.out.mono (fun _ _ h => h.elim)).alloc _, fun k hk => .inl hk⟩

set_option maxRecDepth 100000 in
set_option maxHeartbeats 6400000 in
theorem change_read [Zs] (m : Nat) (rv : Value) (ps : List (Nat × Nat)) (S : Mo) (t : Tk) (dv : Value) (w : World) (h : ModelIs w m rv ps S) (hlen : ps.length ≤ 8) (hop : t.op = 2) (i p b : Nat) (v : Vo) (hat : S.at t.vol = some (i, v)) (hp : ps[i]? = some (p, b)) (c : Nat) (hc : t.cnt = (c : Int)) (hc8 : c ≤ 8) (h0 : 0 ≤ t.lba) (h1 : t.lba ≤ 1048576) :
    Calls Try.prog 25 #[.pointer (some ⟨m, 0, none⟩), .agg (t.cells dv)] w (ChPost w m rv ps (changeS S t)) := by
  have hb1 : Below w.heap.size w (w.alloc (.cells (t.cells dv) 30)) := allocBelow w _
  have HF := Lib.hid (find_any m rv ps S t.vol _ (h.below hb1) hlen)
  have hml := h.head.lt
  have hptr : ptrOf ps (S.find t.vol) = some ⟨p, 0, none⟩ := by rw [(Mo.at_some hat).1]; simp [ptrOf, hp]
  rw [hptr] at HF
  have hvp : VolAt w p b v := h.vol i _ _ hp (Mo.at_some hat).2
  have hpl := hvp.str.lt
  have hbl := hvp.map.lt
  have HV := Lib.hid hvp; clear hvp
  have HCc := Lib.hid hc; clear hc
  have c0 := fun j => (CellsAt.new w (t.cells dv) 30).cell j
  have HC0 := Lib.hid c0
  have HM := Lib.hid h
  clear h c0
  unfold Tk.cells at HC0 HF ⊢
  rw [hop] at HC0 HF ⊢
  go_enter Try.func25, Try.ntmps25
  go_wp2_with fail
  refine HF.out.mono ?_
  rintro e w1 ⟨rfl, hb2⟩
  have hz1 : w.heap.size + 1 ≤ w1.heap.size := by have := hb2.size; simpa using this
  have hk1 : Keeps (fun _ => False) w w1 := ((Keeps.refl _ w).alloc _).trans (Keeps.of_below hb2) (fun _ _ h => h)
  have c1 := fun j => (hb2.cell (p := ⟨w.heap.size, j, none⟩) (by simp)).trans (HC0.out j)
  have HM1 := Lib.hid (HM.out.keeps hk1 (fun _ _ h => h) (fun _ _ _ h => h))
  have HK1 := Lib.hid hk1; clear hk1 hb2
  have hT1 : w.heap.size < w1.heap.size := by omega
  have e2 := fun o => (World.cell?_alloc_lt w1 o ⟨w.heap.size, 2, none⟩ hT1).trans (c1 2)
  have e6 := fun o => (World.cell?_alloc_lt w1 o ⟨w.heap.size, 6, none⟩ hT1).trans (c1 6)
  have e7 := fun o => (World.cell?_alloc_lt w1 o ⟨w.heap.size, 7, none⟩ hT1).trans (c1 7)
  have e8 := fun o => (World.cell?_alloc_lt w1 o ⟨w.heap.size, 8, none⟩ hT1).trans (c1 8)
  have e9 := fun o => (World.cell?_alloc_lt w1 o ⟨w.heap.size, 9, none⟩ hT1).trans (c1 9)
  simp only [List.getElem?_toArray, List.getElem?_cons_zero, List.getElem?_cons_succ] at e2 e6 e7 e8 e9
  clear c1
  rw [HCc.out] at e7
  go_wp2_with fail
  have hkk : Keeps (fun _ => False) w (w1.alloc (.cells #[.pointer (some ⟨p, 0, none⟩)] 63)) := HK1.out.alloc _
  refine (read_any p b v t.lba c _ (HV.out.keeps hkk (fun h => h) (fun h => h) (fun _ _ _ h => h)) h0 h1 hc8).mono ?_
  rintro r w2 ⟨r2, rfl, hown, hbel⟩
  have HO := Lib.hid (hown.mono (base' := w.heap.size) (by simp; omega)); clear hown
  have hk2 : Keeps (fun _ => False) w w2 := hkk.trans (Keeps.of_below hbel) (fun _ _ h => h)
  have HK2 := Lib.hid hk2; clear hbel hkk hk2
  obtain ⟨da, dc, rfl, _⟩ := HO.out.bytes.form
  go_wp2_with fail
  go_ret
  refine ⟨_, rv, ps, rfl, ?_, ?_⟩
  · rw [show (changeS S t).1 = readS v t.lba c by simp [changeS, hop, hat, HCc.out]]; exact HO.out
  · rw [show (changeS S t).2 = S by simp [changeS, hop]]
    exact ⟨HM.out.keeps HK2.out (fun _ _ h => h) (fun _ _ _ h => h), HK2.out.mono (fun _ _ h => h.elim), fun k hk => .inl hk⟩

set_option maxRecDepth 100000 in
set_option maxHeartbeats 6400000 in
theorem change_resize [Zs] (m : Nat) (rv : Value) (ps : List (Nat × Nat)) (S : Mo) (t : Tk) (dv : Value) (w : World) (h : ModelIs w m rv ps S) (hlen : ps.length ≤ 8) (hop : t.op = 9) (i p b : Nat) (v : Vo) (hat : S.at t.vol = some (i, v)) (hp : ps[i]? = some (p, b)) :
    Calls Try.prog 25 #[.pointer (some ⟨m, 0, none⟩), .agg (t.cells dv)] w (ChPost w m rv ps (changeS S t)) := by
  have hb1 : Below w.heap.size w (w.alloc (.cells (t.cells dv) 30)) := allocBelow w _
  have HF := Lib.hid (find_any m rv ps S t.vol _ (h.below hb1) hlen)
  have hml := h.head.lt
  have hptr : ptrOf ps (S.find t.vol) = some ⟨p, 0, none⟩ := by rw [(Mo.at_some hat).1]; simp [ptrOf, hp]
  rw [hptr] at HF
  have hvp : VolAt w p b v := h.vol i _ _ hp (Mo.at_some hat).2
  have hpl := hvp.str.lt
  have hbl := hvp.map.lt
  have HV := Lib.hid hvp; clear hvp
  have c0 := fun j => (CellsAt.new w (t.cells dv) 30).cell j
  have HC0 := Lib.hid c0
  have HM := Lib.hid h
  clear h c0
  unfold Tk.cells at HC0 HF ⊢
  rw [hop] at HC0 HF ⊢
  go_enter Try.func25, Try.ntmps25
  go_wp2_with fail
  refine HF.out.mono ?_
  rintro e w1 ⟨rfl, hb2⟩
  have hz1 : w.heap.size + 1 ≤ w1.heap.size := by have := hb2.size; simpa using this
  have hk1 : Keeps (fun _ => False) w w1 := ((Keeps.refl _ w).alloc _).trans (Keeps.of_below hb2) (fun _ _ h => h)
  have c1 := fun j => (hb2.cell (p := ⟨w.heap.size, j, none⟩) (by simp)).trans (HC0.out j)
  have HM1 := Lib.hid (HM.out.keeps hk1 (fun _ _ h => h) (fun _ _ _ h => h))
  have HK1 := Lib.hid hk1; clear hk1 hb2
  have hT1 : w.heap.size < w1.heap.size := by omega
  have e2 := fun o => (World.cell?_alloc_lt w1 o ⟨w.heap.size, 2, none⟩ hT1).trans (c1 2)
  have e6 := fun o => (World.cell?_alloc_lt w1 o ⟨w.heap.size, 6, none⟩ hT1).trans (c1 6)
  have e7 := fun o => (World.cell?_alloc_lt w1 o ⟨w.heap.size, 7, none⟩ hT1).trans (c1 7)
  have e8 := fun o => (World.cell?_alloc_lt w1 o ⟨w.heap.size, 8, none⟩ hT1).trans (c1 8)
  have e9 := fun o => (World.cell?_alloc_lt w1 o ⟨w.heap.size, 9, none⟩ hT1).trans (c1 9)
  simp only [List.getElem?_toArray, List.getElem?_cons_zero, List.getElem?_cons_succ] at e2 e6 e7 e8 e9
  clear c1
  have hv1 := (HV.out.keeps (F := fun _ => False) HK1.out (fun h => h) (fun h => h) (fun _ _ _ h => h))
  have hpl1 : p < w1.heap.size := by omega
  have p1 := fun o => (World.cell?_alloc_lt w1 o ⟨p, 1, none⟩ hpl1).trans (hv1.str.cell 1)
  have pf := fun o => (frozen_alloc_lt w1 o ⟨p, 1, none⟩ hpl1).trans (hv1.str.free 1)
  simp only [Vo.cells, List.getElem?_toArray, List.getElem?_cons_zero, List.getElem?_cons_succ] at p1
  have HV1 := Lib.hid hv1; clear hv1
  go_wp2_with fail
  go_ret
  have hvb := HV1.out
  have hks0 : Keeps (fun x => x = p) w1 (w1.setCell ⟨p, 1, none⟩ (.int .i64 t.siz)) := (Keeps.refl (fun x => x = p) _).setCell (p := ⟨p, 1, none⟩) (fun _ => rfl) _
  have hks : Keeps (fun x => x = p) w1 ((w1.setCell ⟨p, 1, none⟩ (.int .i64 t.siz)).alloc (.cells #[.pointer (some ⟨p, 0, none⟩)] 63)) := hks0.alloc _
  have hva : VolAt ((w1.setCell ⟨p, 1, none⟩ (.int .i64 t.siz)).alloc (.cells #[.pointer (some ⟨p, 0, none⟩)] 63)) p b { v with size := t.siz } := by
    refine ⟨?_, hvb.map.keeps hks ?_ ?_⟩
    · have := (hvb.str.set 1 (.int .i64 t.siz)).later (allocBelow _ (.cells #[.pointer (some ⟨p, 0, none⟩)] 63))
      simpa [Vo.cells] using this
    · rintro rfl; exact hvb.map.notCells _ _ _ hvb.str
    · rintro g cur hc rfl
      have := hvb.str; unfold CellsAt at this; rw [this] at hc; simp at hc
  have hkw : Keeps (fun x => x = p) w ((w1.setCell ⟨p, 1, none⟩ (.int .i64 t.siz)).alloc (.cells #[.pointer (some ⟨p, 0, none⟩)] 63)) := (HK1.out.mono (fun _ _ h => h.elim)).trans hks (fun _ _ h => h)
  refine ⟨_, rv, ps, rfl, by rw [show (changeS S t).1 = [] by simp [changeS, hop]]; exact Owns.nil _ _, ?_⟩
  rw [show (changeS S t).2 = S.setVol i { v with size := t.siz } by simp [changeS, hop, hat]]
  exact ⟨HM.out.setVol hp hva hkw (fun _ h => .inl h), hkw.mono (fun x _ h => .inr (.inr ⟨(p, b), List.mem_of_getElem? hp, .inl h⟩)), fun k hk => .inl hk⟩

theorem del_at [Zs] {w w2 : World} {m g cap i : Nat} {ps : List (Nat × Nat)} {S : Mo} {p : Nat × Nat} (h : ModelIs w m (.slice (some ⟨g, 0, none⟩) ps.length cap) ps S) (hp : ps[i]? = some p) (hk : Keeps (fun x => x = g) w w2) (hrow : w2.ownsRow 0 63 1 (.slice (some ⟨g, 0, none⟩) (ps.length - 1) cap) (ps.length - 1) (ptrs (ps.eraseIdx i))) :
    ModelIs (w2.setCell ⟨m, 0, none⟩ (.slice (some ⟨g, 0, none⟩) (ps.length - 1) cap)) m (.slice (some ⟨g, 0, none⟩) (ps.length - 1) cap) (ps.eraseIdx i) { S with vols := S.vols.eraseIdx i } ∧
    Keeps (Own m (.slice (some ⟨g, 0, none⟩) ps.length cap) ps) w (w2.setCell ⟨m, 0, none⟩ (.slice (some ⟨g, 0, none⟩) (ps.length - 1) cap)) ∧
    ∀ k, Own m (.slice (some ⟨g, 0, none⟩) (ps.length - 1) cap) (ps.eraseIdx i) k → Own m (.slice (some ⟨g, 0, none⟩) ps.length cap) ps k ∨ w.heap.size ≤ k := by
  have hi : i < ps.length := (List.getElem?_eq_some_iff.1 hp).1
  have hrb := rowBlock h.row (g := g) rfl
  have hmg : m ≠ g := by
    rintro rfl
    obtain ⟨cur, hc⟩ := hrb
    have := h.head; unfold CellsAt at this; rw [this] at hc; simp at hc
  have hkf : Keeps (fun x => x = g ∨ x = m) w (w2.setCell ⟨m, 0, none⟩ (.slice (some ⟨g, 0, none⟩) (ps.length - 1) cap)) := (hk.mono (fun _ _ h => .inl h)).setCell (fun _ => .inr rfl) _
  have hset : Keeps (fun x => x = m) w2 (w2.setCell ⟨m, 0, none⟩ (.slice (some ⟨g, 0, none⟩) (ps.length - 1) cap)) := (Keeps.refl (fun x => x = m) w2).setCell (p := ⟨m, 0, none⟩) (fun _ => rfl) _
  have hm2 : CellsAt w2 m (S.cells (.slice (some ⟨g, 0, none⟩) ps.length cap)) 53 := h.head.keeps hk hmg
  have h5 : ∀ x cur, w.heap[x]? = some (.cells cur 5 (0, 0)) → ¬ (x = g ∨ x = m) := fun x cur hc hor => h.noBytes x cur hc (hor.elim (fun e => .inr (.inl (by rw [e]; rfl))) (fun e => .inl e))
  have hel : (ps.eraseIdx i).length = ps.length - 1 := by rw [List.length_eraseIdx, if_pos hi]
  refine ⟨⟨?_, ?_, ?_, ?_, ?_, ?_⟩, hkf.mono (fun x _ hx => hx.elim (fun e => .inr (.inl (by rw [e]; rfl))) (fun e => .inl e)), ?_⟩
  · have := hm2.set 0 (.slice (some ⟨g, 0, none⟩) (ps.length - 1) cap)
    simpa [Mo.cells] using this
  · rw [hel]
    exact hset.owns hrow (fun k hk' e => by simp [Value.ownBlock] at hk'; omega)
  · rw [hel]; dsimp only; rw [List.length_eraseIdx, ← h.len, if_pos hi]
  · intro j q u hq hu
    dsimp only at hu
    rw [List.getElem?_eraseIdx] at hq hu
    have key : ∀ (j' : Nat), ps[j']? = some q → S.vols[j']? = some u → VolAt (w2.setCell ⟨m, 0, none⟩ (.slice (some ⟨g, 0, none⟩) (ps.length - 1) cap)) q.1 q.2 u := by
      intro j' hq hu
      have hvq := h.vol j' q u hq hu
      refine hvq.keeps hkf ?_ ?_ h5
      · rintro (e | e)
        · obtain ⟨cur, hc⟩ := hrb
          have := hvq.str; unfold CellsAt at this; rw [e, hc] at this; simp at this
        · have h1 := hvq.str; have h2 := h.head; unfold CellsAt at h1 h2; rw [e, h2] at h1; simp at h1
      · rintro (e | e)
        · obtain ⟨cur, hc⟩ := hrb
          rw [← e] at hc; exact hvq.map.notCells _ _ _ hc
        · have h2 := h.head; unfold CellsAt at h2; rw [← e] at h2; exact hvq.map.notCells _ _ _ h2
    split at hq
    · next hj => rw [if_pos hj] at hu; exact key j hq hu
    · next hj => rw [if_neg hj] at hu; exact key (j + 1) hq hu
  · exact ((List.eraseIdx_sublist _ _).map _).nodup h.ap1
  · exact ((List.eraseIdx_sublist _ _).map _).nodup h.ap2
  · rintro k (e | e | ⟨q, hq, e⟩)
    · exact .inl (.inl e)
    · exact .inl (.inr (.inl e))
    · exact .inl (.inr (.inr ⟨q, List.mem_of_mem_eraseIdx hq, e⟩))

set_option maxRecDepth 100000 in
set_option maxHeartbeats 6400000 in
theorem change_del [Zs] (m : Nat) (rv : Value) (ps : List (Nat × Nat)) (S : Mo) (t : Tk) (dv : Value) (w : World) (h : ModelIs w m rv ps S) (hlen : ps.length ≤ 8) (hop : t.op = 8) (i p b : Nat) (v : Vo) (hat : S.at t.vol = some (i, v)) (hp : ps[i]? = some (p, b)) :
    Calls Try.prog 25 #[.pointer (some ⟨m, 0, none⟩), .agg (t.cells dv)] w (ChPost w m rv ps (changeS S t)) := by
  have hb1 : Below w.heap.size w (w.alloc (.cells (t.cells dv) 30)) := allocBelow w _
  have HF := Lib.hid (find_any m rv ps S t.vol _ (h.below hb1) hlen)
  have hml := h.head.lt
  have hptr : ptrOf ps (S.find t.vol) = some ⟨p, 0, none⟩ := by rw [(Mo.at_some hat).1]; simp [ptrOf, hp]
  rw [hptr] at HF
  have hvp : VolAt w p b v := h.vol i _ _ hp (Mo.at_some hat).2
  have hpl := hvp.str.lt
  have hbl := hvp.map.lt
  have HV := Lib.hid hvp; clear hvp
  have c0 := fun j => (CellsAt.new w (t.cells dv) 30).cell j
  have HC0 := Lib.hid c0
  have HM := Lib.hid h
  clear h c0
  unfold Tk.cells at HC0 HF ⊢
  rw [hop] at HC0 HF ⊢
  go_enter Try.func25, Try.ntmps25
  go_wp2_with fail
  refine HF.out.mono ?_
  rintro e w1 ⟨rfl, hb2⟩
  have hz1 : w.heap.size + 1 ≤ w1.heap.size := by have := hb2.size; simpa using this
  have hk1 : Keeps (fun _ => False) w w1 := ((Keeps.refl _ w).alloc _).trans (Keeps.of_below hb2) (fun _ _ h => h)
  have c1 := fun j => (hb2.cell (p := ⟨w.heap.size, j, none⟩) (by simp)).trans (HC0.out j)
  have HM1 := Lib.hid (HM.out.keeps hk1 (fun _ _ h => h) (fun _ _ _ h => h))
  have HK1 := Lib.hid hk1; clear hk1 hb2
  have hT1 : w.heap.size < w1.heap.size := by omega
  have e2 := fun o => (World.cell?_alloc_lt w1 o ⟨w.heap.size, 2, none⟩ hT1).trans (c1 2)
  have e6 := fun o => (World.cell?_alloc_lt w1 o ⟨w.heap.size, 6, none⟩ hT1).trans (c1 6)
  have e7 := fun o => (World.cell?_alloc_lt w1 o ⟨w.heap.size, 7, none⟩ hT1).trans (c1 7)
  have e8 := fun o => (World.cell?_alloc_lt w1 o ⟨w.heap.size, 8, none⟩ hT1).trans (c1 8)
  have e9 := fun o => (World.cell?_alloc_lt w1 o ⟨w.heap.size, 9, none⟩ hT1).trans (c1 9)
  simp only [List.getElem?_toArray, List.getElem?_cons_zero, List.getElem?_cons_succ] at e2 e6 e7 e8 e9
  clear c1
  obtain ⟨g, cap, rfl⟩ : ∃ g cap, rv = .slice (some ⟨g, 0, none⟩) ps.length cap := by
    rcases HM.out.rowForm with ⟨_, e⟩ | ⟨g, cap, e, _⟩
    · rw [e] at hp; simp at hp
    · exact ⟨g, cap, e⟩
  have hgl : g < w.heap.size := HM.out.lt g (.inr (.inl rfl))
  have hml1 : m < w1.heap.size := by omega
  have hm0 := HM1.out.head.cell 0
  have hmf0 := HM1.out.head.free 0
  simp only [Mo.cells, List.getElem?_toArray, List.getElem?_cons_zero] at hm0
  have m0 := fun o => (World.cell?_alloc_lt w1 o ⟨m, 0, none⟩ hml1).trans hm0
  have hkb : Keeps (fun _ => False) w1 (w1.alloc (.cells #[.pointer (some ⟨p, 0, none⟩)] 63)) := (Keeps.refl _ w1).alloc _
  have HMb := Lib.hid (HM1.out.keeps hkb (fun _ _ h => h) (fun _ _ _ h => h))
  have hmg : m ≠ g := by
    rintro rfl
    obtain ⟨cur, hc⟩ := rowBlock HM.out.row (g := m) rfl
    have := HM.out.head; unfold CellsAt at this; rw [this] at hc; simp at hc
  have HD := Lib.hid (delf_any g ps.length cap w1.heap.size i p b ps (w1.alloc (.cells #[.pointer (some ⟨p, 0, none⟩)] 63)) HMb.out.row hp ((CellsAt.new w1 _ 63).cell 0) (by omega) (fun q hq => by
    obtain ⟨_, u, _, _, hu⟩ := HMb.out.volOf hq
    exact ⟨_, hu.str⟩) HMb.out.ap1 hlen)
  have hmf : ∀ (fn : Fn) (first cap : Array Value) (w : World), (Instr.makeFunc fn first cap).run Try.prog w = .ok (.func fn first cap) w := fun _ _ _ _ => rfl
  go_wp2_with fail
  refine HD.out.mono ?_
  rintro r w2 ⟨rfl, hrow2, hk2⟩
  have y0 : w2.cell? ⟨m, 0, none⟩ = some (.slice (some ⟨g, 0, none⟩) ps.length cap) := (hk2.cell (p := ⟨m, 0, none⟩) (by simp; omega) hmg).trans (m0 _)
  have yf : w2.frozen? ⟨m, 0, none⟩ = false := (hk2.frozen (p := ⟨m, 0, none⟩) (by simp; omega) hmg).trans ((frozen_alloc_lt w1 _ ⟨m, 0, none⟩ hml1).trans hmf0)
  have HR2 := Lib.hid hrow2; clear hrow2
  have HKg := Lib.hid ((HK1.out.trans hkb (fun _ _ h => h)).mono (G := fun x => x = g) (fun _ _ h => h.elim) |>.trans hk2 (fun _ _ h => h)); clear hk2
  go_wp2_with fail
  go_ret
  refine ⟨_, .slice (some ⟨g, 0, none⟩) (ps.length - 1) cap, ps.eraseIdx i, rfl, by rw [show (changeS S t).1 = [] by simp [changeS, hop]]; exact Owns.nil _ _, ?_⟩
  rw [show (changeS S t).2 = { S with vols := S.vols.eraseIdx i } by simp [changeS, hop, (Mo.at_some hat).1]]
  exact del_at HM.out hp HKg.out HR2.out
end Go.Proofs.Ytmanldcohbegkaa
