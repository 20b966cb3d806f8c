/-
  The program's queue: how it lies in memory; places.
-/
import Derived.Test.YtknjiphgpoifcaaTkOwn
namespace Go.Proofs.Ytknjiphgpoifcaa
open Go.RowKit

/-- An element of a queue: a task, where its bytes lie, is it being done. -/
structure El where
  t : Tk
  dv : Value
  u : Bool
def El.cells (e : El) : List Value := [.int .i64 e.t.cmd, .int .i64 e.t.tag, .int .i64 e.t.op, .bool e.t.ord, .bool e.t.fua, .int .i64 e.t.vol, .int .i64 e.t.lba, .int .i64 e.t.cnt, .int .i64 e.t.siz, .int .i64 e.t.quo, e.dv, .bool e.u]
def flat (l : List El) : List Value := l.flatMap El.cells
theorem El.cells_length (e : El) : e.cells.length = 12 := rfl
theorem flat_length (l : List El) : (flat l).length = l.length * 12 := by
  induction l with
  | nil => rfl
  | cons e l ih =>
    show (e.cells ++ flat l).length = _
    rw [List.length_append, ih, El.cells_length, List.length_cons]; omega
theorem flat_append (a b : List El) : flat (a ++ b) = flat a ++ flat b := by simp [flat]
theorem flat_get (l : List El) (k : Nat) (e : El) (h : l[k]? = some e) (j : Nat) (hj : j < 12) : (flat l)[k * 12 + j]? = e.cells[j]? := by
  induction l generalizing k with
  | nil => simp at h
  | cons x l ih =>
    show (x.cells ++ flat l)[k * 12 + j]? = _
    cases k with
    | zero =>
      simp at h
      subst h
      rw [List.getElem?_append_left (by rw [El.cells_length]; omega)]
      simp
    | succ k =>
      rw [List.getElem?_append_right (by rw [El.cells_length]; omega), El.cells_length]
      have : (k + 1) * 12 + j - 12 = k * 12 + j := by omega
      rw [this]
      exact ih k (by simpa using h)

/-- The row of a queue: its elements, and their bytes, which lie in F, elsewhere than the row and block q. -/
structure RowAt (T : TypeId) (w : World) (q : Nat) (av : Value) (l : List El) (F : Nat → Prop) : Prop where
  own : w.ownsRow 0 T 12 av l.length (flat l)
  blk : ∀ g, av.ownBlock = some g → F g ∧ g ≠ q
  data : ∀ e ∈ l, BytesAt w e.dv e.t.data ∧ e.t.data.length ≤ 140737488355328 ∧ LiesIn e.dv fun k => F k ∧ k ≠ q ∧ some k ≠ av.ownBlock
/-- A queue at the head of block q. -/
structure QAt (T : TypeId) (w : World) (q room : Nat) (l : List El) (F : Nat → Prop) : Prop where
  fq : F q
  lt : ∀ k, F k → k < w.heap.size
  room : w.cell? ⟨q, 0, none⟩ = some (.int .i64 (room : Int))
  free : ∀ j, w.frozen? ⟨q, j, none⟩ = false
  le : l.length ≤ 8
  row : ∃ av, w.cell? ⟨q, 1, none⟩ = some av ∧ RowAt T w q av l F

theorem RowAt.form {T : TypeId} {w : World} {q : Nat} {av : Value} {l : List El} {F : Nat → Prop} (h : RowAt T w q av l F) (h0 : 0 < l.length) : ∃ g cap, av = .slice (some ⟨g, 0, none⟩) l.length cap := by
  obtain ⟨g, cap, e, _⟩ := World.ownsRow.form h.own h0
  exact ⟨g, cap, e⟩
theorem RowAt.shape {T : TypeId} {w : World} {q : Nat} {av : Value} {l : List El} {F : Nat → Prop} (h : RowAt T w q av l F) : ∃ a cap, av = .slice a l.length cap := by
  rcases h.own.2 with ⟨e, h0⟩ | ⟨g, cap, cur, e, _⟩
  · exact ⟨none, 0, by rw [e, h0]⟩
  · exact ⟨_, _, e⟩
theorem RowAt.cell {T : TypeId} {w : World} {q g cap n : Nat} {l : List El} {F : Nat → Prop} (h : RowAt T w q (.slice (some ⟨g, 0, none⟩) n cap) l F) (k : Nat) (e : El) (hk : l[k]? = some e) (j : Nat) (hj : j < 12) :
    w.cell? ⟨g, k * 12 + j, none⟩ = e.cells[j]? := by
  have hlt : k < l.length := (List.getElem?_eq_some_iff.1 hk).1
  have hn : n = l.length := by
    rcases h.own.2 with ⟨e, h0⟩ | ⟨g', cap', cur, e, _⟩
    · simp at e
    · injection e
  subst hn
  rw [World.ownsRow.cellAt h.own _ (by omega), flat_get l k e hk j hj]
theorem RowAt.frozen {T : TypeId} {w : World} {q g cap n : Nat} {l : List El} {F : Nat → Prop} (h : RowAt T w q (.slice (some ⟨g, 0, none⟩) n cap) l F) (j : Nat) : w.frozen? ⟨g, j, none⟩ = false := by
  have hn : n = l.length := by
    rcases h.own.2 with ⟨e, h0⟩ | ⟨g', cap', cur, e, _⟩
    · simp at e
    · injection e
  subst hn
  exact World.ownsRow.frozenAt h.own j
theorem RowAt.keeps {T : TypeId} {w w' : World} {q : Nat} {av : Value} {l : List El} {F G : Nat → Prop} (h : RowAt T w q av l F) (hk : Keeps G w w') (hG : ∀ k, F k → ¬ G k) : RowAt T w' q av l F :=
  ⟨hk.owns h.own (fun g e => hG g (h.blk g e).1), h.blk, fun e he => by
    obtain ⟨h1, h2, h3⟩ := h.data e he
    exact ⟨h1.keeps hk (h3.mono fun k hk' => hG k hk'.1), h2, h3⟩⟩
theorem QAt.keeps {T : TypeId} {w w' : World} {q room : Nat} {l : List El} {F G : Nat → Prop} (h : QAt T w q room l F) (hk : Keeps G w w') (hG : ∀ k, F k → ¬ G k) : QAt T w' q room l F := by
  have hq := h.lt q h.fq
  have hg := hG q h.fq
  obtain ⟨av, h1, h2⟩ := h.row
  exact ⟨h.fq, fun k hf => Nat.lt_of_lt_of_le (h.lt k hf) hk.size, (hk.cell (p := ⟨q, 0, none⟩) hq hg).trans h.room, fun j => (hk.frozen (p := ⟨q, j, none⟩) hq hg).trans (h.free j), h.le,
    av, (hk.cell (p := ⟨q, 1, none⟩) hq hg).trans h1, h2.keeps hk hG⟩
theorem QAt.below {T : TypeId} {w w' : World} {q room : Nat} {l : List El} {F : Nat → Prop} (h : QAt T w q room l F) (hk : Below w.heap.size w w') : QAt T w' q room l F :=
  h.keeps (G := fun _ => False) (Keeps.of_below hk) (fun _ _ h => h)

/-- Which are ready, from place i on: till the first ordered one. -/
def readyFrom : Nat → List El → List Nat
  | _, [] => []
  | i, e :: l => if e.t.ord then (if i = 0 ∧ e.u = false then [i] else []) else (if e.u = false then i :: readyFrom (i + 1) l else readyFrom (i + 1) l)
/-- The places of those that are ready. -/
def placesOf (l : List El) : List Nat := readyFrom 0 l
theorem Try.info_int : (Try.prog.info? 3).map (fun i => (i.zero, i.size, i.bytes)) = some (some (.int .i64 0), 1, 8) := by kernel_rfl
def intCells (l : List Nat) : List Value := l.map fun (n : Nat) => Value.int .i64 (n : Int)
/-- A slice of ints that the call itself made. -/
def OwnsInts (base : Nat) (w : World) (v : Value) (l : List Nat) : Prop := w.ownsRow base 3 1 v l.length (intCells l)

/-- What is gathered ahead of place k, while no ordered one was met. -/
def plain (l : List El) (k : Nat) : List Nat := (List.range k).filter fun i => !((l[i]?.map (·.u)).getD true)
theorem readyFrom_skip (l : List El) : ∀ (i k : Nat), k ≤ l.length → (∀ j, j < k → ∀ e, l[j]? = some e → e.t.ord = false) →
    readyFrom i l = ((List.range k).filter (fun j => !((l[j]?.map (·.u)).getD true))).map (· + i) ++ readyFrom (i + k) (l.drop k) := by
  intro i k
  induction k generalizing i l with
  | zero => intro _ _; simp
  | succ k ih =>
    intro hk h
    cases l with
    | nil => simp at hk
    | cons e l =>
      have h0 := h 0 (by omega) e rfl
      have := ih l (i + 1) (by simpa using hk) (fun j hj x hx => h (j + 1) (by omega) x (by simpa using hx))
      have hr : (List.range (k + 1)).filter (fun j => !(((e :: l)[j]?.map (·.u)).getD true)) = (if e.u = false then [0] else []) ++ ((List.range k).filter (fun j => !((l[j]?.map (·.u)).getD true))).map (· + 1) := by
        rw [List.range_succ_eq_map, List.filter_cons]
        simp only [List.getElem?_cons_zero, Option.map_some, Option.getD_some, List.filter_map]
        have ef : ((fun j => !(((e :: l)[j]?.map (·.u)).getD true)) ∘ Nat.succ) = (fun j => !((l[j]?.map (·.u)).getD true)) := by
          funext j; simp
        rw [ef]
        cases e.u <;> simp
      rw [hr]
      simp only [readyFrom, h0, Bool.false_eq_true, if_false, List.drop_succ_cons]
      have e3 : i + (k + 1) = i + 1 + k := by omega
      rw [this, e3]
      have em : ∀ (xs : List Nat), (xs.map (· + 1)).map (· + i) = xs.map (· + (i + 1)) := fun xs => by
        rw [List.map_map]; apply List.map_congr_left; intro a _; simp; omega
      cases e.u <;> simp [em]
theorem places_plain (l : List El) (k : Nat) (hk : k ≤ l.length) (h : ∀ j, j < k → ∀ e, l[j]? = some e → e.t.ord = false) : placesOf l = plain l k ++ readyFrom k (l.drop k) := by
  have := readyFrom_skip l 0 k hk h
  unfold placesOf plain
  simpa using this
theorem plain_succ (l : List El) (k : Nat) (e : El) (h : l[k]? = some e) : plain l (k + 1) = plain l k ++ (if e.u = false then [k] else []) := by
  unfold plain
  rw [List.range_succ, List.filter_append]
  congr 1
  simp only [List.filter_cons, List.filter_nil, h, Option.map_some, Option.getD_some]
  cases e.u <;> rfl
theorem plain_length (l : List El) (k : Nat) : (plain l k).length ≤ k := by
  unfold plain
  exact Nat.le_trans (List.length_filter_le _ _) (by simp)
theorem drop_at (l : List El) (k : Nat) (e : El) (h : l[k]? = some e) : l.drop k = e :: l.drop (k + 1) := by
  obtain ⟨hlt, rfl⟩ := List.getElem?_eq_some_iff.1 h
  exact List.drop_eq_getElem_cons hlt

/-- What stands behind an element that was put behind all others. -/
theorem put_final {T q room g n cap4 : Nat} {l : List El} {F : Nat → Prop} {el : El} {w W w4 : World} {av : Value} {o : Obj} (HQ : QAt T w q room l F) (HR : RowAt T W q av l F) (HB : Below w.heap.size w W)
    (hd : BytesAt W el.dv el.t.data) (hdl : el.t.data.length ≤ 140737488355328) (hl : LiesIn el.dv fun k => w.heap.size ≤ k ∧ k < W.heap.size) (hle : l.length + 1 ≤ 8) (hn : n = l.length + 1)
    (hgrow : (W.alloc o).drew.grownBy w4 av.ownBlock) (hown : w4.ownsRow 0 T 12 (.slice (some ⟨g, 0, none⟩) n cap4) n (flat l ++ el.cells)) (hat : av.ownBlock = some g ∨ g = W.heap.size + 1) (hlt : g < w4.heap.size)
    (y1 : (w4.cell? ⟨q, 1, none⟩).isSome = true) :
    QAt T (w4.setCell ⟨q, 1, none⟩ (.slice (some ⟨g, 0, none⟩) n cap4)) q room (l ++ [el]) (fun k => F k ∨ (w.heap.size ≤ k ∧ k < (w4.setCell ⟨q, 1, none⟩ (.slice (some ⟨g, 0, none⟩) n cap4)).heap.size)) ∧
      Keeps F w (w4.setCell ⟨q, 1, none⟩ (.slice (some ⟨g, 0, none⟩) n cap4)) := by
  subst hn
  have hq := HQ.lt q HQ.fq
  have hszW := HB.size
  have hsz4 := hgrow.size
  have hs1 : (W.alloc o).drew.heap.size = W.heap.size + 1 := by simp
  rw [hs1] at hsz4
  have hss : (w4.setCell ⟨q, 1, none⟩ (.slice (some ⟨g, 0, none⟩) (l.length + 1) cap4)).heap.size = w4.heap.size := by simp [World.setCell]
  have hnq : some q ≠ av.ownBlock := fun e => (HR.blk q e.symm).2 rfl
  -- what is not the row is as in W
  have K4 : Keeps (fun k => some k = av.ownBlock) W w4 := by
    have h1 : Keeps (fun k => some k = av.ownBlock) W (W.alloc o).drew := ((Keeps.refl _ _).alloc o).drew
    exact h1.trans (Keeps.of_grown hgrow (fun k hk => hk.symm)) (fun _ _ h => h)
  have K5 : Keeps (· = q) w4 (w4.setCell ⟨q, 1, none⟩ (.slice (some ⟨g, 0, none⟩) (l.length + 1) cap4)) := Keeps.setCell (Keeps.refl (· = q) w4) (p := ⟨q, 1, none⟩) (fun _ => rfl) _
  have hgq : g ≠ q := by
    rcases hat with h | h
    · exact (HR.blk g h).2
    · omega
  have cq : ∀ j, w4.cell? ⟨q, j, none⟩ = w.cell? ⟨q, j, none⟩ := fun j => (K4.cell (p := ⟨q, j, none⟩) (by simp; omega) hnq).trans (HB.cell (p := ⟨q, j, none⟩) hq)
  refine ⟨⟨.inl HQ.fq, ?_, ?_, ?_, by simp; omega, .slice (some ⟨g, 0, none⟩) (l.length + 1) cap4, ?_, ?_, ?_, ?_⟩, ?_⟩
  · intro k hk
    rcases hk with hk | hk
    · have := HQ.lt k hk; omega
    · exact hk.2
  · rw [World.cell?_setCell_other _ _ _ _ (by simp), cq]
    exact HQ.room
  · intro j
    have h1 := (K4.frozen (p := ⟨q, j, none⟩) (by simp; omega) hnq).trans ((HB.frozen (p := ⟨q, j, none⟩) hq).trans (HQ.free j))
    simpa using h1
  · obtain ⟨u, hu⟩ := Option.isSome_iff_exists.1 y1
    exact World.cell?_setCell_same _ _ _ hu
  · have := K5.owns hown (fun k hk => by simp [Value.ownBlock] at hk; omega)
    simpa [flat_append, flat] using this
  · intro k hk
    simp [Value.ownBlock] at hk
    subst hk
    refine ⟨?_, hgq⟩
    rcases hat with h | h
    · exact .inl (HR.blk g h).1
    · exact .inr ⟨by omega, by rw [hss]; exact hlt⟩
  · intro e he
    rcases List.mem_append.1 he with he | he
    · obtain ⟨h1, h2, h3⟩ := HR.data e he
      refine ⟨(h1.keeps K4 (h3.mono fun k hk => hk.2.2)).keeps K5 (h3.mono fun k hk => hk.2.1), h2, h3.mono fun k hk => ⟨.inl hk.1, hk.2.1, ?_⟩⟩
      intro hkg
      simp only [Value.ownBlock, Option.some.injEq] at hkg
      rcases hat with h | h
      · exact hk.2.2 (by rw [h, hkg])
      · have := HQ.lt k hk.1; omega
    · obtain rfl : e = el := by simpa using he
      have hno : ∀ k, w.heap.size ≤ k ∧ k < W.heap.size → ¬ some k = av.ownBlock := fun k hk e => by have := HQ.lt k (HR.blk k e.symm).1; omega
      refine ⟨(hd.keeps K4 (hl.mono hno)).keeps K5 (hl.mono fun k hk => by omega), hdl, hl.mono fun k hk => ⟨.inr ⟨hk.1, by rw [hss]; omega⟩, by omega, ?_⟩⟩
      intro hkg
      simp only [Value.ownBlock, Option.some.injEq] at hkg
      rcases hat with h | h
      · have := HQ.lt g (HR.blk g h).1; omega
      · omega
  · have k1 : Keeps F w W := Keeps.of_below HB
    have k2 : Keeps F w w4 := k1.trans K4 (fun x _ h => (HR.blk x h.symm).1)
    exact k2.trans K5 (fun x _ h => by rw [h]; exact HQ.fq)
end Go.Proofs.Ytknjiphgpoifcaa
