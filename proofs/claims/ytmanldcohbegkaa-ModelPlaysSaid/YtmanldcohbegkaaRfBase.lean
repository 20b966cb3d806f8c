/-
  The document's model: how it lies in memory.
-/
import Derived.Test.YtmanldcohbegkaaRfMath
import Derived.Deep.Onto
import Derived.Laws.OwnMore
namespace Go.Proofs.Ytmanldcohbegkaa
open Go.RowKit

theorem Try.info_rblk : (Try.prog.info? 87).map (fun i => (i.zero, i.size, i.bytes)) = some (some (.agg #[.int .i64 0, .slice none 0 0]), 2, 32) := by kernel_rfl
theorem Try.info_rvol : (Try.prog.info? 69).map (fun i => (i.zero, i.size, i.bytes)) = some (some (.agg #[.int .i64 0, .int .i64 0, .int .i64 0, .slice none 0 0]), 4, 48) := by kernel_rfl
/-- A block's cells; a volume's. -/
def bcell (e : Int × Value) : List Value := [.int .i64 e.1, e.2]
def bcells (es : List (Int × Value)) : List Value := es.flatMap bcell
def vcell4 (p : Vo × Value) : List Value := [.int .i64 p.1.id, .int .i64 p.1.size, .int .i64 p.1.quota, p.2]
def vcells (vs : List (Vo × Value)) : List Value := vs.flatMap vcell4
theorem bcells_length : ∀ es, (bcells es).length = es.length * 2
  | [] => rfl
  | e :: es => by have := bcells_length es; simp only [bcells, List.flatMap_cons, List.length_append, List.length_cons] at this ⊢; simp only [bcell, List.length_cons, List.length_nil]; omega
theorem vcells_length : ∀ vs, (vcells vs).length = vs.length * 4
  | [] => rfl
  | e :: es => by have := vcells_length es; simp only [vcells, List.flatMap_cons, List.length_append, List.length_cons] at this ⊢; simp only [vcell4, List.length_cons, List.length_nil]; omega
theorem bcells_get : ∀ (es : List (Int × Value)) (k j : Nat) (e : Int × Value), es[k]? = some e → j < 2 → (bcells es)[k * 2 + j]? = (bcell e)[j]?
  | [], k, j, e, h, _ => by simp at h
  | p :: es, 0, j, e, h, hj => by
    simp at h
    subst h
    simp only [bcells, List.flatMap_cons, Nat.zero_mul, Nat.zero_add]
    rw [List.getElem?_append_left (by simp [bcell]; omega)]
  | p :: es, k + 1, j, e, h, hj => by
    have e1 : (k + 1) * 2 + j = 2 + (k * 2 + j) := by omega
    rw [e1]
    simp only [bcells, List.flatMap_cons]
    rw [List.getElem?_append_right (by simp [bcell])]
    have := bcells_get es k j e (by simpa using h) hj
    simp only [bcells] at this
    rw [← this]
    simp [bcell]
theorem vcells_get : ∀ (es : List (Vo × Value)) (k j : Nat) (e : Vo × Value), es[k]? = some e → j < 4 → (vcells es)[k * 4 + j]? = (vcell4 e)[j]?
  | [], k, j, e, h, _ => by simp at h
  | p :: es, 0, j, e, h, hj => by
    simp at h
    subst h
    simp only [vcells, List.flatMap_cons, Nat.zero_mul, Nat.zero_add]
    rw [List.getElem?_append_left (by simp [vcell4]; omega)]
  | p :: es, k + 1, j, e, h, hj => by
    have e1 : (k + 1) * 4 + j = 4 + (k * 4 + j) := by omega
    rw [e1]
    simp only [vcells, List.flatMap_cons]
    rw [List.getElem?_append_right (by simp [vcell4])]
    have := vcells_get es k j e (by simpa using h) hj
    simp only [vcells] at this
    rw [← this]
    simp [vcell4]
/-- A block's bytes, in memory that nobody writes. -/
structure RData (W : Nat → Prop) (w : World) (v : Value) (l : List Nat) : Prop where
  own : Owns 0 w v l
  len : l.length = 64
  inW : ∀ g, v.ownBlock = some g → W g
abbrev REs := List (Int × (Value × List Nat))
def REs.vals (es : REs) : List (Int × Value) := es.map fun e => (e.1, e.2.1)
def REs.data (es : REs) : List (Int × List Nat) := es.map fun e => (e.1, e.2.2)
/-- A row of blocks. -/
structure RRow (W : Nat → Prop) (w : World) (bv : Value) (es : REs) : Prop where
  row : w.ownsRow 0 87 2 bv es.length (bcells es.vals)
  dat : ∀ e ∈ es, RData W w e.2.1 e.2.2
  inW : ∀ g, bv.ownBlock = some g → W g
/-- The document's model at r, its row lv, its volumes vs; W: all the blocks that it leans on. -/
structure RefIs (w : World) (r : Nat) (lv : Value) (vs : List (Vo × Value)) (S : Mo) (W : Nat → Prop) : Prop where
  head : CellsAt w r #[lv, .int .i64 S.next] 56
  row : w.ownsRow 0 69 4 lv vs.length (vcells vs)
  vols : S.vols = vs.map (·.1)
  bl : ∀ p ∈ vs, ∃ es : REs, RRow W w p.2 es ∧ SameBl es.data p.1.bl
  inR : W r
  inL : ∀ g, lv.ownBlock = some g → W g
  lt : ∀ x, W x → x < w.heap.size
theorem RData.keeps {W F : Nat → Prop} {w w' : World} {v : Value} {l : List Nat} (h : RData W w v l) (k : Keeps F w w') (hF : ∀ x, W x → ¬ F x) : RData W w' v l :=
  ⟨k.owns h.own (fun g hg => hF g (h.inW g hg)), h.len, h.inW⟩
theorem RData.more {W W' : Nat → Prop} {w : World} {v : Value} {l : List Nat} (h : RData W w v l) (hW : ∀ x, W x → W' x) : RData W' w v l := ⟨h.own, h.len, fun g hg => hW g (h.inW g hg)⟩
theorem RRow.keeps {W F : Nat → Prop} {w w' : World} {bv : Value} {es : REs} (h : RRow W w bv es) (k : Keeps F w w') (hF : ∀ x, W x → ¬ F x) : RRow W w' bv es :=
  ⟨k.owns h.row (fun g hg => hF g (h.inW g hg)), fun e he => (h.dat e he).keeps k hF, h.inW⟩
theorem RRow.more {W W' : Nat → Prop} {w : World} {bv : Value} {es : REs} (h : RRow W w bv es) (hW : ∀ x, W x → W' x) : RRow W' w bv es :=
  ⟨h.row, fun e he => (h.dat e he).more hW, fun g hg => hW g (h.inW g hg)⟩
theorem RefIs.keeps {F : Nat → Prop} {w w' : World} {r : Nat} {lv : Value} {vs : List (Vo × Value)} {S : Mo} {W : Nat → Prop} (h : RefIs w r lv vs S W) (k : Keeps F w w') (hF : ∀ x, W x → ¬ F x) : RefIs w' r lv vs S W :=
  ⟨h.head.keeps k (hF r h.inR), k.owns h.row (fun g hg => hF g (h.inL g hg)), h.vols, fun p hp => (h.bl p hp).imp fun _ h2 => ⟨h2.1.keeps k hF, h2.2⟩, h.inR, h.inL, fun x hx => Nat.lt_of_lt_of_le (h.lt x hx) k.size⟩
theorem RefIs.kept {w w' : World} {r : Nat} {lv : Value} {vs : List (Vo × Value)} {S : Mo} {W : Nat → Prop} (h : RefIs w r lv vs S W) (k : Keeps (fun _ => False) w w') : RefIs w' r lv vs S W := h.keeps k (fun _ _ h => h)
theorem RefIs.below {w w' : World} {r : Nat} {lv : Value} {vs : List (Vo × Value)} {S : Mo} {W : Nat → Prop} (h : RefIs w r lv vs S W) (k : Below w.heap.size w w') : RefIs w' r lv vs S W := h.kept (Keeps.of_below k)
/-- The document's model, somewhere. -/
def RefAt (w : World) (r : Nat) (S : Mo) (W : Nat → Prop) : Prop := ∃ lv vs, RefIs w r lv vs S W
theorem RefAt.keeps {F : Nat → Prop} {w w' : World} {r : Nat} {S : Mo} {W : Nat → Prop} (h : RefAt w r S W) (k : Keeps F w w') (hF : ∀ x, W x → ¬ F x) : RefAt w' r S W := by
  obtain ⟨lv, vs, h⟩ := h; exact ⟨lv, vs, h.keeps k hF⟩
theorem RefAt.lt {w : World} {r : Nat} {S : Mo} {W : Nat → Prop} (h : RefAt w r S W) : ∀ x, W x → x < w.heap.size := by
  obtain ⟨lv, vs, h⟩ := h; exact h.lt
/-- The form of a row's slice. -/
theorem ownsForm {w : World} {base E size n : Nat} {v : Value} {xs : List Value} (h : w.ownsRow base E size v n xs) : ∃ a c, v = .slice a n c ∧ ((a = none ∧ n = 0 ∧ c = 0) ∨ ∃ g, a = some ⟨g, 0, none⟩ ∧ g < w.heap.size) := by
  rcases h.2 with ⟨e, h0⟩ | ⟨g, cap, cur, e, _, hg, _⟩
  · subst h0; exact ⟨none, 0, e, .inl ⟨rfl, rfl, rfl⟩⟩
  · exact ⟨_, cap, e, .inr ⟨g, rfl, (Array.getElem?_eq_some_iff.1 hg).1⟩⟩
theorem RefIs.len {w : World} {r : Nat} {lv : Value} {vs : List (Vo × Value)} {S : Mo} {W : Nat → Prop} (h : RefIs w r lv vs S W) : vs.length = S.vols.length := by rw [h.vols, List.length_map]
/-- A volume's cells. -/
theorem RefIs.cell {w : World} {r g n c : Nat} {vs : List (Vo × Value)} {S : Mo} {W : Nat → Prop} (h : RefIs w r (.slice (some ⟨g, 0, none⟩) n c) vs S W) {k : Nat} {p : Vo × Value} (hp : vs[k]? = some p) (j : Nat) (hj : j < 4) : w.cell? ⟨g, k * 4 + j, none⟩ = (vcell4 p)[j]? := by
  have hr := h.row
  obtain ⟨a, c', e, _⟩ := ownsForm hr
  injection e with e1 e2 e3
  rw [e2] at hr
  have hk : k < vs.length := (List.getElem?_eq_some_iff.1 hp).1
  exact (World.ownsRow.cellAt hr (k * 4 + j) (by omega)).trans (vcells_get vs k j p hp hj)
theorem RRow.cell {W : Nat → Prop} {w : World} {g n c : Nat} {es : REs} (h : RRow W w (.slice (some ⟨g, 0, none⟩) n c) es) {k : Nat} {e : Int × (Value × List Nat)} (he : es[k]? = some e) (j : Nat) (hj : j < 2) : w.cell? ⟨g, k * 2 + j, none⟩ = (bcell (e.1, e.2.1))[j]? := by
  have hr := h.row
  obtain ⟨a, c', e', _⟩ := ownsForm hr
  injection e' with e1 e2 e3
  rw [e2] at hr
  have hk : k < es.length := (List.getElem?_eq_some_iff.1 he).1
  exact (World.ownsRow.cellAt hr (k * 2 + j) (by omega)).trans (bcells_get es.vals k j (e.1, e.2.1) (by simp [REs.vals, he]) hj)
theorem find_first (S : Mo) (id : Int) : firstAt (fun v : Vo => v.id == id) S.vols = match S.find id with | some i => (i : Int) | none => -1 := rfl
end Go.Proofs.Ytmanldcohbegkaa
