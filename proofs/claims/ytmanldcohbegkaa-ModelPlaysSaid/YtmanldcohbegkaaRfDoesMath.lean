/-
  The document's model: what its changes make of memory.
-/
import Derived.Test.YtmanldcohbegkaaRfBlock
import Derived.Deep.AppendLies
namespace Go.Proofs.Ytmanldcohbegkaa
open Go.RowKit

theorem RefIs.rowNe {w : World} {r : Nat} {lv : Value} {vs : List (Vo × Value)} {S : Mo} {W : Nat → Prop} (h : RefIs w r lv vs S W) : ¬ lv.ownBlock = some r := by
  intro e
  obtain ⟨cur, hc⟩ := rowBlockT h.row e
  have h3 := h.head
  unfold CellsAt at h3
  rw [hc] at h3
  simp at h3
theorem RefIs.lvNot {w : World} {r : Nat} {lv : Value} {vs : List (Vo × Value)} {S : Mo} {W : Nat → Prop} (h : RefIs w r lv vs S W) : ∀ x, lv.ownBlock = some x → ∀ cur, w.heap[x]? ≠ some (.cells cur 5 (0, 0)) ∧ w.heap[x]? ≠ some (.cells cur 87 (0, 0)) := by
  intro x hx cur
  obtain ⟨c, hc⟩ := rowBlockT h.row hx
  rw [hc]
  simp
theorem headNot {w : World} {r : Nat} {cs : Array Value} (h : CellsAt w r cs 56) : ∀ x, x = r → ∀ cur, w.heap[x]? ≠ some (.cells cur 5 (0, 0)) ∧ w.heap[x]? ≠ some (.cells cur 87 (0, 0)) := by
  rintro x rfl cur
  unfold CellsAt at h
  rw [h]
  simp
theorem rowKept {w w' : World} {r base n : Nat} {lv : Value} {xs : List Value} {cs : Array Value} (h : w.ownsRow base 69 4 lv n xs) (hc : CellsAt w r cs 56) (k : Keeps (fun x => x = r) w w') : w'.ownsRow base 69 4 lv n xs :=
  k.owns h (fun x hx e => by
    obtain ⟨c, h1⟩ := rowBlockT h hx
    unfold CellsAt at hc
    rw [e, hc] at h1
    simp at h1)
theorem RefIs.add {w w4 : World} {r : Nat} {lv lv' bv : Value} {vs : List (Vo × Value)} {S : Mo} {W : Nat → Prop} {u : Vo} {es : REs} (h : RefIs w r lv vs S W) (k : Keeps (fun x => lv.ownBlock = some x) w w4) (hrow : w4.ownsRow 0 69 4 lv' (vs.length + 1) (vcells vs ++ vcell4 (u, bv))) (hlv : ∀ g, lv'.ownBlock = some g → lv.ownBlock = some g ∨ w.heap.size ≤ g)
    (hrr : RRow (since W w.heap.size w4.heap.size) w4 bv es) (hs : SameBl es.data u.bl) :
    RefIs ((w4.setCell ⟨r, 0, none⟩ lv').setCell ⟨r, 1, none⟩ (.int .i64 (S.next + 1))) r lv' (vs ++ [(u, bv)]) (S.add u) (since W w.heap.size w4.heap.size) := by
  have hh4 := h.head.keeps k h.rowNe
  have ks : Keeps (fun x => x = r) w4 ((w4.setCell ⟨r, 0, none⟩ lv').setCell ⟨r, 1, none⟩ (.int .i64 (S.next + 1))) := ((Keeps.refl (fun x => x = r) w4).setCell (p := ⟨r, 0, none⟩) (fun _ => rfl) _).setCell (p := ⟨r, 1, none⟩) (fun _ => rfl) _
  have hh6 := (hh4.set 0 lv').set 1 (.int .i64 (S.next + 1))
  have hzs : ((w4.setCell ⟨r, 0, none⟩ lv').setCell ⟨r, 1, none⟩ (.int .i64 (S.next + 1))).heap.size = w4.heap.size := by simp [World.setCell]
  have hr2 := rowKept hrow hh4 ks
  refine ⟨?_, ?_, ?_, ?_, .inl h.inR, ?_, ?_⟩
  · have e : (#[lv, Value.int .i64 S.next].setIfInBounds 0 lv').setIfInBounds 1 (.int .i64 (S.next + 1)) = #[lv', .int .i64 (S.next + 1)] := by simp
    rw [e] at hh6
    exact hh6
  · rw [vcells_append]
    have e : vcells [(u, bv)] = vcell4 (u, bv) := by simp [vcells]
    rw [e, List.length_append]
    exact hr2
  · simp [Mo.add, h.vols]
  · intro p hp
    rcases List.mem_append.1 hp with hp | hp
    · obtain ⟨es2, h3, h4⟩ := h.bl p hp
      exact ⟨es2, ((h3.other k h.lvNot).other ks (headNot hh4)).more (fun _ hx => .inl hx), h4⟩
    · rw [List.mem_singleton] at hp
      subst hp
      exact ⟨es, hrr.other ks (headNot hh4), hs⟩
  · intro g hg
    rcases hlv g hg with h5 | h5
    · exact .inl (h.inL g h5)
    · exact .inr ⟨h5, (hrow.lt g hg).2⟩
  · intro x hx
    rw [hzs]
    rcases hx with hx | hx
    · exact Nat.lt_of_lt_of_le (h.lt x hx) k.size
    · exact hx.2
theorem RefIs.rerow {w w4 : World} {r : Nat} {lv lv' : Value} {vs vs' : List (Vo × Value)} {S S' : Mo} {W : Nat → Prop} (h : RefIs w r lv vs S W) (hb : Below w.heap.size w w4) (hrow : w4.ownsRow w.heap.size 69 4 lv' vs'.length (vcells vs')) (hsub : ∀ p ∈ vs', p ∈ vs) (hn : S'.next = S.next) (hv : S'.vols = vs'.map (·.1)) :
    RefIs (w4.setCell ⟨r, 0, none⟩ lv') r lv' vs' S' (since W w.heap.size w4.heap.size) := by
  have h4 := h.below hb
  have ks : Keeps (fun x => x = r) w4 (w4.setCell ⟨r, 0, none⟩ lv') := (Keeps.refl (fun x => x = r) w4).setCell (p := ⟨r, 0, none⟩) (fun _ => rfl) _
  have hh6 := h4.head.set 0 lv'
  have hzs : (w4.setCell ⟨r, 0, none⟩ lv').heap.size = w4.heap.size := by simp [World.setCell]
  have hr2 := rowKept (World.ownsRow.mono hrow (Nat.zero_le _)) h4.head ks
  refine ⟨?_, hr2, hv, ?_, .inl h.inR, fun g hg => .inr (hrow.lt g hg), ?_⟩
  · have e : (#[lv, Value.int .i64 S.next].setIfInBounds 0 lv') = #[lv', .int .i64 S.next] := by simp
    rw [e] at hh6
    rw [hn]
    exact hh6
  · intro p hp
    obtain ⟨es2, h5, h6⟩ := h4.bl p (hsub p hp)
    exact ⟨es2, (h5.other ks (headNot h4.head)).more (fun _ hx => .inl hx), h6⟩
  · intro x hx
    rw [hzs]
    rcases hx with hx | hx
    · exact Nat.lt_of_lt_of_le (h.lt x hx) hb.size
    · exact hx.2
theorem vcells_set1 : ∀ (vs : List (Vo × Value)) (i : Nat) (v : Vo) (bv : Value), vs[i]? = some (v, bv) → ∀ (s : Int), vcells (vs.set i ({ v with size := s }, bv)) = (vcells vs).set (i * 4 + 1) (.int .i64 s)
  | [], i, v, bv, h, _ => by simp at h
  | p :: vs, 0, v, bv, h, s => by
    simp at h
    subst h
    simp [vcells, vcell4]
  | p :: vs, i + 1, v, bv, h, s => by
    have ih := vcells_set1 vs i v bv (by simpa using h) s
    have e : (i + 1) * 4 + 1 = (i * 4 + 1) + 4 := by omega
    rw [List.set_cons_succ]
    simp only [vcells, List.flatMap_cons] at ih ⊢
    rw [ih, e]
    simp [vcell4]
theorem RefIs.resize {w : World} {r g n c : Nat} {vs : List (Vo × Value)} {S : Mo} {W : Nat → Prop} {i : Nat} {v : Vo} {bv : Value} (h : RefIs w r (.slice (some ⟨g, 0, none⟩) n c) vs S W) (hi : vs[i]? = some (v, bv)) (s : Int) :
    RefIs (w.setCell ⟨g, i * 4 + 1, none⟩ (.int .i64 s)) r (.slice (some ⟨g, 0, none⟩) n c) (vs.set i ({ v with size := s }, bv)) (S.setVol i { v with size := s }) W := by
  obtain ⟨cur, hg⟩ := rowBlockT h.row (g := g) rfl
  obtain ⟨_, _, en, _⟩ := ownsForm h.row
  injection en with _ en _
  have hrow := h.row
  rw [← en] at hrow
  have hst := (World.ownsRow.stored hrow (i * 4 + 1) (.int .i64 s)).1
  have ks : Keeps (fun x => x = g) w (w.setCell ⟨g, i * 4 + 1, none⟩ (.int .i64 s)) := (Keeps.refl (fun x => x = g) w).setCell (p := ⟨g, i * 4 + 1, none⟩) (fun _ => rfl) _
  have hne : ∀ x, x = g → ∀ cur', w.heap[x]? ≠ some (.cells cur' 5 (0, 0)) ∧ w.heap[x]? ≠ some (.cells cur' 87 (0, 0)) := by
    rintro x rfl cur'
    rw [hg]
    simp
  refine ⟨h.head.keeps ks ?_, ?_, ?_, ?_, h.inR, h.inL, fun x hx => Nat.lt_of_lt_of_le (h.lt x hx) ks.size⟩
  · intro e
    have h3 := h.head
    unfold CellsAt at h3
    rw [e, hg] at h3
    simp at h3
  · rw [vcells_set1 vs i v bv hi, List.length_set, ← en]
    exact hst
  · simp only [Mo.setVol]
    rw [List.map_set, ← h.vols]
  · intro p hp
    rcases List.mem_or_eq_of_mem_set hp with hp | rfl
    · obtain ⟨es, h3, h4⟩ := h.bl p hp
      exact ⟨es, h3.other ks hne, h4⟩
    · obtain ⟨es, h3, h4⟩ := h.bl _ (List.mem_of_getElem? hi)
      exact ⟨es, h3.other ks hne, h4⟩
theorem RefIs.widen {w : World} {r : Nat} {lv : Value} {vs : List (Vo × Value)} {S : Mo} {W W' : Nat → Prop} (h : RefIs w r lv vs S W) (hW : ∀ x, W x → W' x) (hl : ∀ x, W' x → x < w.heap.size) : RefIs w r lv vs S W' :=
  ⟨h.head, h.row, h.vols, fun p hp => by obtain ⟨es, h3, h4⟩ := h.bl p hp; exact ⟨es, h3.more hW, h4⟩, hW _ h.inR, fun g hg => hW _ (h.inL g hg), hl⟩
theorem RefIs.oneCell {w : World} {r : Nat} {lv : Value} {vs : List (Vo × Value)} {S : Mo} {W : Nat → Prop} (h : RefIs w r lv vs S W) : ∀ u ∈ vcells vs, u.oneCell' = true := by
  intro u hu
  obtain ⟨p, hp, hu⟩ := List.mem_flatMap.1 hu
  obtain ⟨es, hr, _⟩ := h.bl p hp
  obtain ⟨a, c, e, _⟩ := ownsForm hr.row
  simp only [vcell4, e, List.mem_cons, List.not_mem_nil, or_false] at hu
  rcases hu with rfl | rfl | rfl | rfl <;> rfl
end Go.Proofs.Ytmanldcohbegkaa
