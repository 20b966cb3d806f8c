/-
  The model: what lies in memory.
-/
import Derived.Test.YtmanldcohbegkaaMdMap
import Derived.Deep.MidRow
import Derived.StillTailTactics
namespace Go.Proofs.Ytmanldcohbegkaa
open Go.RowKit

theorem allocBelow (w : World) (o : Obj) : Below w.heap.size w (w.alloc o) := (Below.refl _ w).alloc (Nat.le_refl _) o
/-- A task as the program has it, its bytes as a list. -/
structure Tk where
  cmd : Int
  tag : Int
  op : Int
  ord : Bool
  fua : Bool
  vol : Int
  lba : Int
  cnt : Int
  siz : Int
  quo : Int
  data : List Nat
/-- Its cells; dv: where its bytes lie. -/
def Tk.cells (t : Tk) (dv : Value) : Array Value := #[.int .i64 t.cmd, .int .i64 t.tag, .int .i64 t.op, .bool t.ord, .bool t.fua, .int .i64 t.vol, .int .i64 t.lba, .int .i64 t.cnt, .int .i64 t.siz, .int .i64 t.quo, dv]
/-- A volume, a model. -/
structure Vo where
  id : Int
  size : Int
  quota : Int
  bl : List (Int × List Nat)
structure Mo where
  vols : List Vo
  next : Int

/-- Block b is a row of cells. -/
def CellsAt (w : World) (b : Nat) (cs : Array Value) (T : TypeId) : Prop := w.heap[b]? = some (.cells cs T (0, 0))
theorem CellsAt.lt {w : World} {b : Nat} {cs : Array Value} {T : TypeId} (h : CellsAt w b cs T) : b < w.heap.size := (Array.getElem?_eq_some_iff.1 h).1
theorem CellsAt.cell {w : World} {b : Nat} {cs : Array Value} {T : TypeId} (h : CellsAt w b cs T) (j : Nat) : w.cell? ⟨b, j, none⟩ = cs[j]? := by unfold CellsAt at h; simp [World.cell?, h]
theorem CellsAt.free {w : World} {b : Nat} {cs : Array Value} {T : TypeId} (h : CellsAt w b cs T) (j : Nat) : w.frozen? ⟨b, j, none⟩ = false := by unfold CellsAt at h; simp [World.frozen?, h]
theorem CellsAt.keeps {F : Nat → Prop} {w w' : World} {b : Nat} {cs : Array Value} {T : TypeId} (h : CellsAt w b cs T) (k : Keeps F w w') (hF : ¬ F b) : CellsAt w' b cs T := (k.block b h.lt hF).trans h
theorem CellsAt.below {B : Nat} {w w' : World} {b : Nat} {cs : Array Value} {T : TypeId} (h : CellsAt w b cs T) (k : Below B w w') (hB : b < B) : CellsAt w' b cs T := (k.block b hB).trans h
theorem CellsAt.later {w w' : World} {b : Nat} {cs : Array Value} {T : TypeId} (h : CellsAt w b cs T) (k : Below w.heap.size w w') : CellsAt w' b cs T := h.below k h.lt
theorem CellsAt.drew {w : World} {b : Nat} {cs : Array Value} {T : TypeId} (h : CellsAt w b cs T) : CellsAt w.drew b cs T := h
theorem CellsAt.set {w : World} {b : Nat} {cs : Array Value} {T : TypeId} (h : CellsAt w b cs T) (j : Nat) (u : Value) : CellsAt (w.setCell ⟨b, j, none⟩ u) b (cs.setIfInBounds j u) T := by
  have hlt := h.lt
  unfold CellsAt at h ⊢
  simp [World.setCell, Array.getElem?_modify, h]
theorem CellsAt.other {w : World} {b : Nat} {cs : Array Value} {T : TypeId} (h : CellsAt w b cs T) {a : Addr} (ha : a.block ≠ b) (u : Value) : CellsAt (w.setCell a u) b cs T := (Below.heap_setCell _ _ _ _ (fun e => ha e.symm)).trans h
theorem CellsAt.new (w : World) (cs : Array Value) (T : TypeId) : CellsAt (w.alloc (.cells cs T)) w.heap.size cs T := (MapKept.heap_alloc w _).1

/-- Blocks in which no volume's bytes may lie (a law that writes over what it handed in, or was told, names them). -/
class Zs where
  z : Nat → Prop
/-- A block's bytes, at a slice of its own. -/
def DataAt [Zs] (w : World) (v : Value) (l : List Nat) : Prop := Owns 0 w v l ∧ l.length = 64 ∧ ∀ g, v.ownBlock = some g → ¬ Zs.z g
theorem DataAt.form [Zs] {w : World} {v : Value} {l : List Nat} (h : DataAt w v l) : ∃ g cap cur, v = .slice (some ⟨g, 0, none⟩) 64 cap ∧ w.heap[g]? = some (.cells cur 5 (0, 0)) := by
  obtain ⟨⟨_, h2⟩, h3, _⟩ := h
  rcases h2 with ⟨_, h0⟩ | ⟨g, cap, cur, rfl, _, hg, _⟩
  · omega
  · rw [h3]; exact ⟨g, cap, cur, rfl, hg⟩
theorem DataAt.keeps [Zs] {F : Nat → Prop} {w w' : World} {v : Value} {l : List Nat} (h : DataAt w v l) (k : Keeps F w w') (hF : ∀ b cur, w.heap[b]? = some (.cells cur 5 (0, 0)) → ¬ F b) : DataAt w' v l := by
  refine ⟨k.owns h.1 ?_, h.2⟩
  obtain ⟨g, cap, cur, rfl, hg⟩ := h.form
  intro k hk
  simp [Value.ownBlock] at hk
  subst hk
  exact hF _ _ hg
/-- A map of blocks. -/
def MapAt [Zs] (w : World) (b : Nat) (bl : List (Int × List Nat)) : Prop :=
  ∃ es : List (Int × (Value × List Nat)), MapIs w b (es.map fun e => (e.1, e.2.1)) ∧ bl = es.map (fun e => (e.1, e.2.2)) ∧ ∀ e ∈ es, DataAt w e.2.1 e.2.2
theorem MapIs.keeps {F : Nat → Prop} {w w' : World} {b : Nat} {l : List (Int × Value)} (h : MapIs w b l) (k : Keeps F w w') (hF : ¬ F b) : MapIs w' b l := by
  obtain ⟨es, c, h1, h2⟩ := h
  exact ⟨es, c, (k.block b (Array.getElem?_eq_some_iff.1 h1).1 hF).trans h1, h2⟩
theorem MapIs.lt {w : World} {b : Nat} {l : List (Int × Value)} (h : MapIs w b l) : b < w.heap.size := by
  obtain ⟨es, c, h1, h2⟩ := h
  exact (Array.getElem?_eq_some_iff.1 h1).1
theorem MapIs.notCells {w : World} {b : Nat} {l : List (Int × Value)} (h : MapIs w b l) (cur : Array Value) (T : TypeId) (f : Nat × Nat) : w.heap[b]? ≠ some (.cells cur T f) := by
  obtain ⟨es, c, h1, h2⟩ := h
  rw [h1]; simp
theorem MapAt.keeps [Zs] {F : Nat → Prop} {w w' : World} {b : Nat} {bl : List (Int × List Nat)} (h : MapAt w b bl) (k : Keeps F w w') (hb : ¬ F b) (hF : ∀ b cur, w.heap[b]? = some (.cells cur 5 (0, 0)) → ¬ F b) : MapAt w' b bl := by
  obtain ⟨es, h1, h2, h3⟩ := h
  exact ⟨es, h1.keeps k hb, h2, fun e he => (h3 e he).keeps k hF⟩
theorem MapAt.lt [Zs] {w : World} {b : Nat} {bl : List (Int × List Nat)} (h : MapAt w b bl) : b < w.heap.size := by
  obtain ⟨es, h1, _⟩ := h; exact h1.lt
theorem MapAt.notCells [Zs] {w : World} {b : Nat} {bl : List (Int × List Nat)} (h : MapAt w b bl) (cur : Array Value) (T : TypeId) (f : Nat × Nat) : w.heap[b]? ≠ some (.cells cur T f) := by
  obtain ⟨es, h1, _⟩ := h; exact h1.notCells cur T f
def Vo.cells (v : Vo) (b : Nat) : Array Value := #[.int .i64 v.id, .int .i64 v.size, .int .i64 v.quota, .map (some b)]
/-- The volume at p, its map at b. -/
structure VolAt [Zs] (w : World) (p b : Nat) (v : Vo) : Prop where
  str : CellsAt w p (v.cells b) 66
  map : MapAt w b v.bl
theorem VolAt.keeps [Zs] {F : Nat → Prop} {w w' : World} {p b : Nat} {v : Vo} (h : VolAt w p b v) (k : Keeps F w w') (hp : ¬ F p) (hb : ¬ F b) (hF : ∀ b cur, w.heap[b]? = some (.cells cur 5 (0, 0)) → ¬ F b) : VolAt w' p b v := ⟨h.str.keeps k hp, h.map.keeps k hb hF⟩
def ptrs (ps : List (Nat × Nat)) : List Value := ps.map fun p => .pointer (some ⟨p.1, 0, none⟩)
def Mo.cells (S : Mo) (rv : Value) : Array Value := #[rv, .int .i64 S.next]
/-- The model at m, its row rv, its volumes at ps. -/
structure ModelIs [Zs] (w : World) (m : Nat) (rv : Value) (ps : List (Nat × Nat)) (S : Mo) : Prop where
  head : CellsAt w m (S.cells rv) 53
  row : w.ownsRow 0 63 1 rv ps.length (ptrs ps)
  len : ps.length = S.vols.length
  vol : ∀ (i : Nat) (p : Nat × Nat) (v : Vo), ps[i]? = some p → S.vols[i]? = some v → VolAt w p.1 p.2 v
  ap1 : (ps.map (·.1)).Nodup
  ap2 : (ps.map (·.2)).Nodup
/-- The blocks that it may write. -/
def Own (m : Nat) (rv : Value) (ps : List (Nat × Nat)) (k : Nat) : Prop := k = m ∨ rv.ownBlock = some k ∨ ∃ p ∈ ps, k = p.1 ∨ k = p.2
theorem ModelIs.volOf [Zs] {w : World} {m : Nat} {rv : Value} {ps : List (Nat × Nat)} {S : Mo} (h : ModelIs w m rv ps S) {p : Nat × Nat} (hp : p ∈ ps) : ∃ (i : Nat) (v : Vo), ps[i]? = some p ∧ S.vols[i]? = some v ∧ VolAt w p.1 p.2 v := by
  obtain ⟨i, hi, rfl⟩ := List.mem_iff_getElem.1 hp
  have hl := h.len
  exact ⟨i, S.vols[i], by simp [hi], by simp [hl ▸ hi], h.vol i _ _ (by simp [hi]) (by simp [hl ▸ hi])⟩
theorem ModelIs.lt [Zs] {w : World} {m : Nat} {rv : Value} {ps : List (Nat × Nat)} {S : Mo} (h : ModelIs w m rv ps S) (k : Nat) (hk : Own m rv ps k) : k < w.heap.size := by
  rcases hk with rfl | hk | ⟨p, hp, hk⟩
  · exact h.head.lt
  · exact (World.ownsRow.lt h.row k hk).2
  · obtain ⟨i, v, _, _, hv⟩ := h.volOf hp
    rcases hk with rfl | rfl
    · exact hv.str.lt
    · exact hv.map.lt
theorem rowBlock {w : World} {base : Nat} {e : TypeId} {size n : Nat} {v : Value} {xs : List Value} (h : w.ownsRow base e size v n xs) {g : Nat} (hg : v.ownBlock = some g) : ∃ cur, w.heap[g]? = some (.cells cur e (0, 0)) := by
  rcases h.2 with ⟨rfl, _⟩ | ⟨g', cap, cur, rfl, _, hh, _⟩
  · simp [Value.ownBlock] at hg
  · simp [Value.ownBlock] at hg; subst hg; exact ⟨cur, hh⟩
/-- None of its blocks holds bytes. -/
theorem ModelIs.noBytes [Zs] {w : World} {m : Nat} {rv : Value} {ps : List (Nat × Nat)} {S : Mo} (h : ModelIs w m rv ps S) (k : Nat) (cur : Array Value) (hk : w.heap[k]? = some (.cells cur 5 (0, 0))) : ¬ Own m rv ps k := by
  rintro (rfl | hr | ⟨p, hp, hr⟩)
  · have := h.head; unfold CellsAt at this; rw [this] at hk; simp at hk
  · obtain ⟨c, hc⟩ := rowBlock h.row hr; rw [hc] at hk; simp at hk
  · obtain ⟨i, v, _, _, hv⟩ := h.volOf hp
    rcases hr with rfl | rfl
    · have := hv.str; unfold CellsAt at this; rw [this] at hk; simp at hk
    · exact hv.map.notCells _ _ _ hk
/-- What others do keeps it. -/
theorem ModelIs.keeps [Zs] {F : Nat → Prop} {w w' : World} {m : Nat} {rv : Value} {ps : List (Nat × Nat)} {S : Mo} (h : ModelIs w m rv ps S) (k : Keeps F w w') (ho : ∀ x, Own m rv ps x → ¬ F x) (hF : ∀ b cur, w.heap[b]? = some (.cells cur 5 (0, 0)) → ¬ F b) : ModelIs w' m rv ps S :=
  ⟨h.head.keeps k (ho m (.inl rfl)), k.owns h.row (fun g hg => ho g (.inr (.inl hg))), h.len, fun i p v hp hv =>
    (h.vol i p v hp hv).keeps k (ho _ (.inr (.inr ⟨p, List.mem_of_getElem? hp, .inl rfl⟩))) (ho _ (.inr (.inr ⟨p, List.mem_of_getElem? hp, .inr rfl⟩))) hF, h.ap1, h.ap2⟩
theorem ModelIs.below [Zs] {w w' : World} {m : Nat} {rv : Value} {ps : List (Nat × Nat)} {S : Mo} (h : ModelIs w m rv ps S) (k : Below w.heap.size w w') : ModelIs w' m rv ps S :=
  h.keeps (F := fun _ => False) (Keeps.of_below k) (fun _ _ h => h) (fun _ _ _ h => h)
theorem ModelIs.ownGrow [Zs] {w : World} {m : Nat} {rv : Value} {ps : List (Nat × Nat)} {S : Mo} (h : ModelIs w m rv ps S) : ∀ j, w.cell? ⟨m, j, none⟩ = (S.cells rv)[j]? := h.head.cell
/-- The model at m owns just the blocks of W. -/
def ModelAt [Zs] (w : World) (m : Nat) (S : Mo) (W : Nat → Prop) : Prop := ∃ rv ps, ModelIs w m rv ps S ∧ ∀ k, W k ↔ Own m rv ps k
theorem ModelAt.lt [Zs] {w : World} {m : Nat} {S : Mo} {W : Nat → Prop} (h : ModelAt w m S W) (k : Nat) (hk : W k) : k < w.heap.size := by
  obtain ⟨rv, ps, h1, h2⟩ := h; exact h1.lt k ((h2 k).1 hk)
theorem ModelAt.noBytes [Zs] {w : World} {m : Nat} {S : Mo} {W : Nat → Prop} (h : ModelAt w m S W) (k : Nat) (cur : Array Value) (hk : w.heap[k]? = some (.cells cur 5 (0, 0))) : ¬ W k := by
  obtain ⟨rv, ps, h1, h2⟩ := h; exact fun hw => h1.noBytes k cur hk ((h2 k).1 hw)
theorem ModelAt.keeps [Zs] {F : Nat → Prop} {w w' : World} {m : Nat} {S : Mo} {W : Nat → Prop} (h : ModelAt w m S W) (k : Keeps F w w') (ho : ∀ x, W x → ¬ F x) (hF : ∀ b cur, w.heap[b]? = some (.cells cur 5 (0, 0)) → ¬ F b) : ModelAt w' m S W := by
  obtain ⟨rv, ps, h1, h2⟩ := h
  exact ⟨rv, ps, h1.keeps k (fun x hx => ho x ((h2 x).2 hx)) hF, h2⟩
theorem ModelAt.below [Zs] {w w' : World} {m : Nat} {S : Mo} {W : Nat → Prop} (h : ModelAt w m S W) (k : Below w.heap.size w w') : ModelAt w' m S W :=
  h.keeps (F := fun _ => False) (Keeps.of_below k) (fun _ _ h => h) (fun _ _ _ h => h)
/-- Two models beside each other: what the one does keeps the other. -/
theorem ModelAt.beside [Zs] {w w' : World} {m c : Nat} {S R : Mo} {W U : Nat → Prop} (h : ModelAt w m S W) (hc : ModelAt w c R U) (k : Keeps W w w') (ho : ∀ x, U x → ¬ W x) : ModelAt w' c R U := hc.keeps k ho h.noBytes
theorem Owns.beside [Zs] {w w' : World} {m : Nat} {S : Mo} {W : Nat → Prop} (h : ModelAt w m S W) (k : Keeps W w w') {base : Nat} {v : Value} {l : List Nat} (hv : Owns base w v l) : Owns base w' v l :=
  k.owns hv fun g hg => by obtain ⟨cur, hc⟩ := rowBlock hv hg; exact h.noBytes g cur hc
end Go.Proofs.Ytmanldcohbegkaa
