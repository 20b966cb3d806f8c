/-
  The document's model: a volume's blocks are laid anew; the plain law of blockwise.
-/
import Derived.Test.YtmanldcohbegkaaRfRead
namespace Go.Proofs.Ytmanldcohbegkaa
open Go.RowKit

theorem rowBlockT {w : World} {base E size n : Nat} {v : Value} {xs : List Value} (h : w.ownsRow base E size v n xs) {g : Nat} (hg : v.ownBlock = some g) : ∃ cur, w.heap[g]? = some (.cells cur E (0, 0)) := by
  rcases h.2 with ⟨rfl, _⟩ | ⟨g', cap, cur, rfl, _, hgg, _⟩
  · simp [Value.ownBlock] at hg
  · simp [Value.ownBlock] at hg
    subst hg
    exact ⟨cur, hgg⟩
theorem RData.other {W F : Nat → Prop} {w w' : World} {v : Value} {l : List Nat} (h : RData W w v l) (k : Keeps F w w') (hF : ∀ x, F x → ∀ cur, w.heap[x]? ≠ some (.cells cur 5 (0, 0))) : RData W w' v l :=
  ⟨k.owns h.own (fun x hx hf => by obtain ⟨cur, hc⟩ := rowBlockT h.own hx; exact hF x hf cur hc), h.len, h.inW⟩
theorem RRow.other {W F : Nat → Prop} {w w' : World} {bv : Value} {es : REs} (h : RRow W w bv es) (k : Keeps F w w') (hF : ∀ x, F x → ∀ cur, w.heap[x]? ≠ some (.cells cur 5 (0, 0)) ∧ w.heap[x]? ≠ some (.cells cur 87 (0, 0))) : RRow W w' bv es :=
  ⟨k.owns h.row (fun x hx hf => by obtain ⟨cur, hc⟩ := rowBlockT h.row hx; exact (hF x hf cur).2 hc), fun e he => (h.dat e he).other k (fun x hx cur => (hF x hx cur).1), h.inW⟩
theorem vcells_set3 : ∀ (vs : List (Vo × Value)) (i : Nat) (v : Vo) (bv : Value), vs[i]? = some (v, bv) → ∀ (bl' : List (Int × List Nat)) (bv' : Value), vcells (vs.set i ({ v with bl := bl' }, bv')) = (vcells vs).set (i * 4 + 3) bv'
  | [], i, v, bv, h, _, _ => by simp at h
  | p :: vs, 0, v, bv, h, bl', bv' => by
    simp at h
    subst h
    simp [vcells, vcell4]
  | p :: vs, i + 1, v, bv, h, bl', bv' => by
    have ih := vcells_set3 vs i v bv (by simpa using h) bl' bv'
    have e : (i + 1) * 4 + 3 = (i * 4 + 3) + 4 := by omega
    rw [List.set_cons_succ]
    simp only [vcells, List.flatMap_cons] at ih ⊢
    rw [ih, e]
    simp [vcell4]
theorem RefIs.put {F : Nat → Prop} {w wx : World} {r g n c : Nat} {vs : List (Vo × Value)} {S : Mo} {W W' : Nat → Prop} {i : Nat} {v : Vo} {bv bv' : Value} {es' : REs} {bl' : List (Int × List Nat)} (h : RefIs w r (.slice (some ⟨g, 0, none⟩) n c) vs S W) (hi : vs[i]? = some (v, bv)) (k : Keeps F w wx) (hF : ∀ x, W x → ¬ F x) (hW : ∀ x, W x → W' x) (hlt : ∀ x, W' x → x < wx.heap.size) (hrr : RRow W' wx bv' es') (hs : SameBl es'.data bl') :
    RefIs (wx.setCell ⟨g, i * 4 + 3, none⟩ bv') r (.slice (some ⟨g, 0, none⟩) n c) (vs.set i ({ v with bl := bl' }, bv')) (S.setVol i { v with bl := bl' }) W' := by
  have h2 := h.keeps k hF
  obtain ⟨cur, hg⟩ := rowBlockT h2.row (g := g) rfl
  obtain ⟨_, _, en, _⟩ := ownsForm h2.row
  injection en with _ en _
  have hrow := h2.row
  rw [← en] at hrow
  have hst := (World.ownsRow.stored hrow (i * 4 + 3) bv').1
  have ks : Keeps (fun x => x = g) wx (wx.setCell ⟨g, i * 4 + 3, none⟩ bv') := (Keeps.refl (fun x => x = g) wx).setCell (p := ⟨g, i * 4 + 3, none⟩) (fun _ => rfl) _
  have hne : ∀ x, x = g → ∀ cur', wx.heap[x]? ≠ some (.cells cur' 5 (0, 0)) ∧ wx.heap[x]? ≠ some (.cells cur' 87 (0, 0)) := by
    rintro x rfl cur'
    rw [hg]
    simp
  refine ⟨h2.head.keeps ks ?_, ?_, ?_, ?_, hW _ h2.inR, fun x hx => hW _ (h2.inL x hx), fun x hx => Nat.lt_of_lt_of_le (hlt x hx) ks.size⟩
  · intro e
    have h3 := h2.head
    unfold CellsAt at h3
    rw [e, hg] at h3
    simp at h3
  · rw [vcells_set3 vs i v bv hi, List.length_set, ← en]
    exact hst
  · simp only [Mo.setVol]
    rw [List.map_set, ← h.vols]
  · intro p hp
    rcases List.mem_or_eq_of_mem_set hp with hp | rfl
    · obtain ⟨es, h3, h4⟩ := h2.bl p hp
      exact ⟨es, (h3.other ks hne).more hW, h4⟩
    · exact ⟨es', hrr.other ks hne, hs⟩
/-- Behind k blocks. -/
structure BlkInv (t : Tk) (v : Vo) (k : Nat) (bl : List (Int × List Nat)) : Prop where
  wr : t.op = 3 → wrS v.quota t.lba (pieces t.data k) 0 v.bl = (bl, k, 0)
  un : t.op = 5 → bl = unS t.lba v.bl k
  ok : BlOk v.quota bl
theorem BlkInv.start {t : Tk} {v : Vo} (h : BlOk v.quota v.bl) : BlkInv t v 0 v.bl := ⟨fun _ => rfl, fun _ => rfl, h⟩
theorem BlkInv.drop {t : Tk} {v : Vo} {k : Nat} {bl : List (Int × List Nat)} (h : BlkInv t v k bl) (h5 : t.op = 5) : BlkInv t v (k + 1) (dropAt (t.lba + k) bl) :=
  ⟨fun h3 => by omega, fun _ => by rw [h.un h5]; rfl, h.ok.sub (dropAt_sub _ _)⟩
theorem pieces_succ (data : List Nat) (k : Nat) : pieces data (k + 1) = pieces data k ++ [piece data k] := by
  unfold pieces
  rw [List.range_succ, List.map_append]
  rfl
theorem BlkInv.put {t : Tk} {v : Vo} {k : Nat} {bl : List (Int × List Nat)} (h : BlkInv t v k bl) (h3 : t.op = 3) (hp : (piece t.data k).length = 64) (hr : ¬ (getAt (t.lba + k) bl = none ∧ v.quota ≤ (bl.length : Int))) : BlkInv t v (k + 1) (putAt (t.lba + k) (piece t.data k) bl) :=
  ⟨fun _ => by rw [pieces_succ]; exact wrS_go (h.wr h3) _ hr, fun h5 => by omega, h.ok.put _ _ hp hr⟩
theorem BlkInv.full {S : Mo} {t : Tk} {v : Vo} {i k n : Nat} {bl : List (Int × List Nat)} (h : BlkInv t v k bl) (hat : S.at t.vol = some (i, v)) (h3 : t.op = 3) (hk : k < n) (hr : getAt (t.lba + k) bl = none ∧ v.quota ≤ (bl.length : Int)) : blockS S t n = ((k, 30), S.setVol i { v with bl := bl }) := by
  obtain ⟨ys, hys⟩ := pieces_more t.data n (k + 1) (by omega)
  have h1 := wrS_full (h.wr h3) (piece t.data k) hr
  rw [← pieces_succ] at h1
  have h2 := wrS_stop h1 ys
  rw [← hys] at h2
  unfold blockS
  rw [hat]
  simp only
  rw [if_pos h3]
  unfold writeS
  rw [h2]
theorem BlkInv.done {S : Mo} {t : Tk} {v : Vo} {i n : Nat} {bl : List (Int × List Nat)} (h : BlkInv t v n bl) (hat : S.at t.vol = some (i, v)) (h35 : t.op = 3 ∨ t.op = 5) : blockS S t n = ((n, 0), S.setVol i { v with bl := bl }) := by
  unfold blockS
  rw [hat]
  simp only
  rcases h35 with h3 | h5
  · rw [if_pos h3]
    unfold writeS
    rw [h.wr h3]
  · rw [if_neg (by omega), h.un h5]
end Go.Proofs.Ytmanldcohbegkaa
