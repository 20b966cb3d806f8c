/-
  The model's law on blocks: what writes and unmaps of one volume come to.
-/
import Derived.Test.YtmanldcohbegkaaMdOwnOp
namespace Go.Proofs.Ytmanldcohbegkaa
open Go.RowKit

theorem getAt_putAt' {β : Type} (k x : Int) (v : β) : ∀ (l : List (Int × β)), getAt x (putAt k v l) = if x = k then some v else getAt x l
  | [] => by
    unfold putAt
    rw [getAt_cons]
  | p :: l => by
    unfold putAt
    by_cases h : k = p.1
    · rw [if_pos h, getAt_cons, getAt_cons]
      by_cases hx : x = k
      · rw [if_pos hx, if_pos hx]
      · rw [if_neg hx, if_neg hx, if_neg (by rw [← h]; exact hx)]
    · rw [if_neg h, getAt_cons, getAt_cons, getAt_putAt' k x v l]
      by_cases hx : x = p.1
      · rw [if_pos hx, if_pos hx, if_neg (by rw [hx]; exact fun e => h e.symm)]
      · rw [if_neg hx, if_neg hx]
theorem getAt_dropAt' {β : Type} (k x : Int) : ∀ (l : List (Int × β)), (l.map (·.1)).Nodup → getAt x (dropAt k l) = if x = k then none else getAt x l
  | [], _ => by simp [dropAt, getAt, findAt]
  | p :: l, hn => by
    simp only [List.map_cons, List.nodup_cons] at hn
    unfold dropAt
    by_cases h : k = p.1
    · rw [if_pos h, getAt_cons]
      by_cases hx : x = k
      · rw [if_pos hx, hx, h]
        exact (getAt_none_iff _ _).2 hn.1
      · rw [if_neg hx, if_neg (by rw [← h]; exact hx)]
    · rw [if_neg h, getAt_cons, getAt_cons, getAt_dropAt' k x l hn.2]
      by_cases hx : x = p.1
      · rw [if_pos hx, if_pos hx, if_neg (by rw [hx]; exact fun e => h e.symm)]
      · rw [if_neg hx, if_neg hx]
theorem nodup_below : ∀ (n : Nat) (l : List Int), l.Nodup → (∀ x ∈ l, 0 ≤ x ∧ x < n) → l.length ≤ n
  | 0, l, _, h => by
    cases l with
    | nil => simp
    | cons x l => have := h x (by simp); omega
  | n + 1, l, hn, h => by
    by_cases hm : (n : Int) ∈ l
    · have h1 := nodup_below n (l.erase n) (hn.erase _) (fun x hx => by
        have hx2 := (hn.mem_erase_iff).1 hx
        have := h x hx2.2
        omega)
      rw [List.length_erase_of_mem hm] at h1
      omega
    · have h1 := nodup_below n l hn (fun x hx => by
        have := h x hx
        have : x ≠ n := fun e => hm (e ▸ hx)
        omega)
      omega
/-- A state with just the one volume that is written to. -/
structure One (S : Mo) (bl : List (Int × List Nat)) : Prop where
  good : Good S
  vols : S.vols = [⟨1, 16, 16, bl⟩]
  keys : ∀ p ∈ bl, 0 ≤ p.1 ∧ p.1 < 16
theorem One.at {S : Mo} {bl : List (Int × List Nat)} (h : One S bl) : S.at 1 = some (0, ⟨1, 16, 16, bl⟩) := by
  unfold Mo.at Mo.find
  simp [h.vols]
theorem One.ok {S : Mo} {bl : List (Int × List Nat)} (h : One S bl) : BlOk 16 bl := by
  have := h.good.bl (v := ⟨1, 16, 16, bl⟩) (by rw [h.vols]; simp)
  exact this
def b0 (bl : List (Int × List Nat)) (p : Nat) : Nat := (blockOf ⟨1, 16, 16, bl⟩ p).getD 0 0
theorem room16 {bl : List (Int × List Nat)} (h : BlOk 16 bl) (hk : ∀ p ∈ bl, 0 ≤ p.1 ∧ p.1 < 16) {k : Int} (h0 : 0 ≤ k) (h1 : k < 16) : ¬ (getAt k bl = none ∧ (16 : Int) ≤ (bl.length : Int)) := by
  rintro ⟨hg, hl⟩
  have hn : (k :: bl.map (·.1)).Nodup := List.nodup_cons.2 ⟨(getAt_none_iff k bl).1 hg, h.keys⟩
  have := nodup_below 16 _ hn (fun x hx => by
    rcases List.mem_cons.1 hx with rfl | hx
    · exact ⟨h0, h1⟩
    · obtain ⟨p, hp, rfl⟩ := List.mem_map.1 hx
      exact hk p hp)
  simp at this
  omega
theorem wrS_room (a : Int) (ha : 0 ≤ a) : ∀ (xs : List (List Nat)) (k : Nat) (bl : List (Int × List Nat)), (∀ x ∈ xs, x.length = 64) → a + k + xs.length ≤ 16 → BlOk 16 bl → (∀ p ∈ bl, 0 ≤ p.1 ∧ p.1 < 16) →
    (wrS 16 a xs k bl).2.2 = 0 ∧ (∀ p ∈ (wrS 16 a xs k bl).1, 0 ≤ p.1 ∧ p.1 < 16) ∧ ∀ p : Int, getAt p (wrS 16 a xs k bl).1 = if a + k ≤ p ∧ p < a + k + xs.length then xs[(p - a - k).toNat]? else getAt p bl
  | [], k, bl, _, _, _, hk => ⟨rfl, hk, fun p => by rw [if_neg (by simp only [List.length_nil]; omega)]; rfl⟩
  | x :: xs, k, bl, hx, hl, hb, hk => by
    simp only [List.length_cons] at hl
    have hnf := room16 hb hk (k := a + k) (by omega) (by omega)
    unfold wrS
    rw [if_neg hnf]
    have hb2 := hb.put (a + k) x (hx x (by simp)) hnf
    have hk2 : ∀ p ∈ putAt (a + k) x bl, 0 ≤ p.1 ∧ p.1 < 16 := fun p hp => by
      rcases mem_putAt _ _ _ _ hp with rfl | hp
      · exact ⟨by show 0 ≤ a + (k : Int); omega, by show a + (k : Int) < 16; omega⟩
      · exact hk p hp
    obtain ⟨h1, h2, h3⟩ := wrS_room a ha xs (k + 1) (putAt (a + k) x bl) (fun y hy => hx y (by simp [hy])) (by omega) hb2 hk2
    refine ⟨h1, h2, fun p => ?_⟩
    rw [h3 p, getAt_putAt']
    by_cases hp : p = a + k
    · subst hp
      rw [if_neg (by omega), if_pos rfl, if_pos (by simp only [List.length_cons]; omega)]
      have : (a + (k : Int) - a - (k : Int)).toNat = 0 := by omega
      rw [this]; rfl
    · rw [if_neg hp]
      by_cases hin : a + ((k + 1 : Nat) : Int) ≤ p ∧ p < a + ((k + 1 : Nat) : Int) + xs.length
      · rw [if_pos hin, if_pos (by simp only [List.length_cons]; omega)]
        have : (p - a - (k : Int)).toNat = (p - a - ((k + 1 : Nat) : Int)).toNat + 1 := by omega
        rw [this, List.getElem?_cons_succ]
      · rw [if_neg hin, if_neg (by simp only [List.length_cons]; omega)]
theorem unS_get (a : Int) (bl : List (Int × List Nat)) (hn : (bl.map (·.1)).Nodup) (p : Int) : ∀ n : Nat, getAt p (unS a bl n) = if a ≤ p ∧ p < a + n then none else getAt p bl
  | 0 => by rw [if_neg (by omega)]; rfl
  | n + 1 => by
    unfold unS
    rw [getAt_dropAt' _ _ _ (((unS_sub a bl n).map _).nodup hn), unS_get a bl hn p n]
    by_cases hp : p = a + n
    · rw [if_pos hp, if_pos (by omega)]
    · rw [if_neg hp]
      by_cases hin : a ≤ p ∧ p < a + n
      · rw [if_pos hin, if_pos (by omega)]
      · rw [if_neg hin, if_neg (by omega)]
theorem piece_first (data : List Nat) (k : Nat) : (piece data k).getD 0 0 = data.getD (k * 64) 0 := by
  unfold piece
  simp [List.getD, List.getElem?_drop]
theorem pieces_get (data : List Nat) (n i : Nat) (h : i < n) : (pieces data n)[i]? = some (piece data i) := by
  unfold pieces
  simp [h]
theorem b0_of (bl : List (Int × List Nat)) (p : Nat) : b0 bl p = ((getAt (p : Int) bl).map (fun d => d.getD 0 0)).getD 0 := by
  unfold b0 blockOf
  cases getAt (p : Int) bl <;> rfl
theorem One.set {S : Mo} {bl bl' : List (Int × List Nat)} (h : One S bl) (hg : Good (S.setVol 0 ⟨1, 16, 16, bl'⟩)) (hk : ∀ p ∈ bl', 0 ≤ p.1 ∧ p.1 < 16) : One (S.setVol 0 ⟨1, 16, 16, bl'⟩) bl' :=
  ⟨hg, by unfold Mo.setVol; simp [h.vols], hk⟩
/-- A write or an unmap of the one volume. -/
theorem blk_step {S : Mo} {bl : List (Int × List Nat)} (h : One S bl) (t : Tk) (hv : t.vol = 1) (ho : t.op = 3 ∨ t.op = 5) :
    ∃ bl', One (doS S t 0 0).2 bl' ∧ (((doS S t 0 0).1.st ≠ 0 ∧ bl' = bl) ∨ ((doS S t 0 0).1.st = 0 ∧ ∃ a c : Nat, t.lba = a ∧ t.cnt = c ∧ 1 ≤ c ∧ c ≤ 8 ∧ a + c ≤ 16 ∧ (t.op = 3 → t.data.length = c * 64) ∧
      ∀ p : Nat, b0 bl' p = if a ≤ p ∧ p < a + c then (if t.op = 3 then t.data.getD ((p - a) * 64) 0 else 0) else b0 bl p)) := by
  have hgd := h.good.doS t 0 0
  have hat : S.at t.vol = some (0, ⟨1, 16, 16, bl⟩) := by rw [hv]; exact h.at
  rw [doS_form S t 0 0 false false (trouble0 _) rfl] at hgd ⊢
  by_cases hr : refuseS S t false = 0
  · obtain ⟨i, v, hat2, c1, c2, l1, l2, l3⟩ := refuse_blocks hr (ho.elim (fun e => .inl e) (fun e => .inr (.inr e)))
    rw [hat] at hat2
    injection hat2 with hat2
    injection hat2 with hi hvv
    subst hi; subst hvv
    dsimp only at l2 l3
    obtain ⟨a, ha⟩ : ∃ a : Nat, t.lba = a := ⟨t.lba.toNat, by omega⟩
    obtain ⟨c, hc⟩ : ∃ c : Nat, t.cnt = c := ⟨t.cnt.toNat, by omega⟩
    have hct : t.cnt.toNat = c := by omega
    rw [if_neg (by simpa using hr), if_pos ho] at hgd ⊢
    simp only [Bool.false_eq_true, false_and, if_false] at hgd ⊢
    unfold blockS at hgd ⊢
    rw [hat] at hgd ⊢
    dsimp only at hgd ⊢
    by_cases h3 : t.op = 3
    · have hdl := refuse_data hr h3
      rw [if_pos h3] at hgd ⊢
      dsimp only at hgd ⊢
      have hpl : (pieces t.data t.cnt.toNat).length = c := by simp [pieces]; omega
      obtain ⟨w1, w2, w3⟩ := wrS_room t.lba l1 (pieces t.data t.cnt.toNat) 0 bl (fun x hx => by
        obtain ⟨k, hk, rfl⟩ := List.mem_map.1 hx
        have := List.mem_range.1 hk
        exact piece_length (cnt := t.cnt.toNat) (by omega) (by omega)) (by rw [hpl]; omega) h.ok h.keys
      refine ⟨_, h.set hgd w2, .inr ⟨w1, a, c, ha, hc, by omega, by omega, by omega, fun _ => by omega, fun p => ?_⟩⟩
      unfold writeS
      dsimp only
      rw [b0_of, w3 p, hpl]
      by_cases hin : a ≤ p ∧ p < a + c
      · rw [if_pos (by omega), if_pos hin, if_pos h3]
        have e : ((p : Int) - t.lba - ((0 : Nat) : Int)).toNat = p - a := by omega
        rw [e, pieces_get _ _ _ (by omega)]
        exact piece_first _ _
      · rw [if_neg (by omega), if_neg hin, b0_of]
    · rw [if_neg h3] at hgd ⊢
      dsimp only at hgd ⊢
      refine ⟨_, h.set hgd (fun p hp => h.keys p ((unS_sub _ _ _).subset hp)), .inr ⟨rfl, a, c, ha, hc, by omega, by omega, by omega, fun e => absurd e h3, fun p => ?_⟩⟩
      rw [b0_of, unS_get _ _ h.ok.keys]
      by_cases hin : a ≤ p ∧ p < a + c
      · rw [if_pos (by omega), if_pos hin, if_neg h3]; rfl
      · rw [if_neg (by omega), if_neg hin, b0_of]
  · rw [if_pos (by simpa using hr)] at hgd ⊢
    exact ⟨bl, h, .inl ⟨hr, rfl⟩⟩
/-- A block of the one volume, read. -/
theorem blk_read {S : Mo} {bl : List (Int × List Nat)} (h : One S bl) (y : Nat) (hy : y < 16) : ∃ dq, doS S (rdTk 1 y) 0 0 = (⟨0, 0, 0, 0, dq⟩, S) ∧ dq.length = 64 ∧ dq.getD 0 0 = b0 bl y := by
  have hat := h.at
  have hr : refuseS S (rdTk 1 y) false = 0 := by
    unfold refuseS rdTk
    simp only [hat]
    simp [isBlocks, beyondB]
    omega
  refine ⟨readS ⟨1, 16, 16, bl⟩ y 1, ?_, ?_, ?_⟩
  · rw [doS_form S _ 0 0 false false (trouble0 _) rfl]
    unfold changeS
    rw [hr]
    simp [rdTk, hat]
  · exact readS_length (v := ⟨1, 16, 16, bl⟩) (show VoOk ⟨1, 16, 16, bl⟩ from h.ok.full) _ _
  · unfold readS readS b0
    simp
theorem blk_start : One (doS ⟨[], 1⟩ ⟨0, 0, 6, false, false, 0, 0, 0, 16, 16, []⟩ 0 0).2 [] := by
  refine ⟨Good.start.doS _ _ _, ?_, fun p hp => by simp at hp⟩
  rw [doS_form _ _ 0 0 false false (trouble0 _) rfl]
  have hr : refuseS ⟨[], 1⟩ ⟨0, 0, 6, false, false, 0, 0, 0, 16, 16, []⟩ false = 0 := by
    unfold refuseS
    simp [isBlocks, sizedB]
  rw [hr]
  simp [changeS, Mo.add]
/-- The first bytes, written over from a on. -/
def upd (fl : List Nat) (a : Nat) (v : Nat → Nat) : Nat → List Nat
  | 0 => fl
  | n + 1 => (upd fl a v n).set (a + n) (v n)
theorem upd_length (fl : List Nat) (a : Nat) (v : Nat → Nat) : ∀ n, (upd fl a v n).length = fl.length
  | 0 => rfl
  | n + 1 => by unfold upd; rw [List.length_set, upd_length fl a v n]
theorem upd_get (fl : List Nat) (a : Nat) (v : Nat → Nat) (p : Nat) (hp : p < fl.length) : ∀ n, (upd fl a v n).getD p 0 = if a ≤ p ∧ p < a + n then v (p - a) else fl.getD p 0
  | 0 => by rw [if_neg (by omega)]; rfl
  | n + 1 => by
    unfold upd
    by_cases h : p = a + n
    · subst h
      rw [if_pos (by omega), Nat.add_sub_cancel_left]
      simp [List.getD, upd_length, hp]
    · have ih := upd_get fl a v p hp n
      have e : ((upd fl a v n).set (a + n) (v n)).getD p 0 = (upd fl a v n).getD p 0 := by
        simp [List.getD, List.getElem?_set_ne (Ne.symm h)]
      rw [e, ih]
      by_cases hin : a ≤ p ∧ p < a + n
      · rw [if_pos hin, if_pos (by omega)]
      · rw [if_neg hin, if_neg (by omega)]
theorem zeros_getD (n p : Nat) : (zeros n).getD p 0 = 0 := by
  unfold zeros
  simp only [List.getD, List.getElem?_replicate]
  split <;> rfl
theorem b0_nil (p : Nat) : b0 [] p = 0 := by
  rw [b0_of]; rfl
/-- A block of bytes that is an array. -/
def FillAt (w : World) (b : Nat) (fl : List Nat) : Prop := CellsAt w b (byteCells fl).toArray 42
theorem FillAt.cell {w : World} {b : Nat} {fl : List Nat} (h : FillAt w b fl) (j : Nat) (hj : j < fl.length) : w.cell? ⟨b, j, none⟩ = some (.int .u8 (fl.getD j 0 : Nat)) := by
  rw [CellsAt.cell h, List.getElem?_toArray]
  exact byteCells_get fl j hj
theorem FillAt.free {w : World} {b : Nat} {fl : List Nat} (h : FillAt w b fl) (j : Nat) : w.frozen? ⟨b, j, none⟩ = false := CellsAt.free h j
theorem FillAt.set {w : World} {b : Nat} {fl : List Nat} (h : FillAt w b fl) (j y : Nat) : FillAt (w.setCell ⟨b, j, none⟩ (.int .u8 (y : Int))) b (fl.set j y) := by
  have h1 := CellsAt.set h j (.int .u8 (y : Int))
  have e : ((byteCells fl).toArray.setIfInBounds j (.int .u8 (y : Int))) = (byteCells (fl.set j y)).toArray := by
    simp [byteCells, List.map_set]
  rw [e] at h1
  exact h1
theorem FillAt.other {w w' : World} {b : Nat} {fl : List Nat} (h : FillAt w b fl) {F : Nat → Prop} (k : Keeps F w w') (hF : ¬ F b) : FillAt w' b fl := CellsAt.keeps h k hF
theorem FillAt.notBytes {w : World} {b : Nat} {fl : List Nat} (h : FillAt w b fl) (x : Nat) (cur : Array Value) (hx : w.heap[x]? = some (.cells cur 5 (0, 0))) : ¬ x = b := by
  rintro rfl
  unfold FillAt CellsAt at h
  rw [h] at hx
  simp at hx
end Go.Proofs.Ytmanldcohbegkaa
