/-
  The model's law on volumes apart: what names another volume leaves a volume as it is; a snapshot's blocks.
-/
import Derived.Test.YtmanldcohbegkaaMdLsMath
import Derived.Test.YtmanldcohbegkaaMdTrouble
import Derived.Laws.BytesArg
namespace Go.Proofs.Ytmanldcohbegkaa
open Go.RowKit

theorem Good.at_mem {S : Mo} (h : Good S) {v : Vo} (hv : v ∈ S.vols) : ∃ i, S.at v.id = some (i, v) := by
  cases hf : S.at v.id with
  | none =>
    exfalso
    have hn := Mo.at_none hf
    unfold Mo.find at hn
    rw [List.findIdx?_eq_none_iff] at hn
    have := hn v hv
    simp at this
  | some q =>
    obtain ⟨i, u⟩ := q
    have hid := Mo.at_id hf
    obtain ⟨hi, ei⟩ := List.getElem?_eq_some_iff.1 (Mo.at_some hf).2
    obtain ⟨j, hj, ej⟩ := List.mem_iff_getElem.1 hv
    have hij : i = j := by
      rcases Nat.lt_trichotomy i j with hlt | he | hgt
      · have := List.pairwise_iff_getElem.1 h.rise i j hi hj hlt
        rw [ei, ej] at this; omega
      · exact he
      · have := List.pairwise_iff_getElem.1 h.rise j i hj hi hgt
        rw [ei, ej] at this; omega
    subst hij
    rw [ei] at ej
    exact ⟨i, by rw [ej]⟩
theorem Mo.mem_setVol {S : Mo} {id : Int} {i : Nat} {u v u' : Vo} (h : S.at id = some (i, u)) (hv : v ∈ S.vols) (hne : v.id ≠ id) : v ∈ (S.setVol i u').vols := by
  obtain ⟨j, hj⟩ := List.mem_iff_getElem?.1 hv
  have hij : i ≠ j := by
    rintro rfl
    have h2 := (Mo.at_some h).2
    rw [hj] at h2
    injection h2 with h2
    exact hne (by rw [h2]; exact Mo.at_id h)
  exact List.mem_of_getElem? (i := j) (by unfold Mo.setVol; simp only; rw [List.getElem?_set_ne hij]; exact hj)
theorem Mo.find_at {S : Mo} {id : Int} {i : Nat} (h : S.find id = some i) : ∃ u, S.at id = some (i, u) := by
  have hlt : i < S.vols.length := by
    unfold Mo.find at h
    exact (List.findIdx?_eq_some_iff_findIdx_eq.1 h).1
  unfold Mo.at
  rw [h]
  simp [hlt]
theorem block_keeps {S : Mo} {t : Tk} {n : Nat} {v : Vo} (hv : v ∈ S.vols) (hne : t.vol ≠ v.id) : v ∈ (blockS S t n).2.vols := by
  unfold blockS
  split
  · exact hv
  · next i u hat =>
    split
    · exact Mo.mem_setVol hat hv (Ne.symm hne)
    · exact Mo.mem_setVol hat hv (Ne.symm hne)
theorem change_keeps {S : Mo} {t : Tk} {v : Vo} (hv : v ∈ S.vols) (hne : t.vol ≠ v.id) : v ∈ (changeS S t).2.vols := by
  unfold changeS
  split
  · exact hv
  split
  · exact List.mem_append_left _ hv
  split
  · split
    · exact List.mem_append_left _ hv
    · exact hv
  split
  · split
    · next i hf =>
      obtain ⟨u, hat⟩ := Mo.find_at hf
      obtain ⟨j, hj⟩ := List.mem_iff_getElem?.1 hv
      refine List.mem_eraseIdx_iff_getElem?.2 ⟨j, ?_, hj⟩
      rintro rfl
      have h2 := (Mo.at_some hat).2
      rw [hj] at h2
      injection h2 with h2
      exact hne (by rw [h2]; exact (Mo.at_id hat).symm)
    · exact hv
  split
  · split
    · next i u hat => exact Mo.mem_setVol hat hv (Ne.symm hne)
    · exact hv
  split
  · exact hv
  · exact hv
theorem do_keeps {S : Mo} (t : Tk) (st dn : Int) {v : Vo} (hv : v ∈ S.vols) (hne : t.vol ≠ v.id) : v ∈ (doS S t st dn).2.vols := by
  unfold doS
  dsimp only
  split
  · exact hv
  split
  · exact block_keeps hv hne
  split
  · exact hv
  split
  · exact change_keeps hv hne
  · exact change_keeps hv hne
/-- The task of a snapshot. -/
def snTk (id : Int) : Tk := ⟨0, 0, 7, false, false, id, 0, 0, 0, 0, []⟩
theorem snap_step (S : Mo) (id : Int) : (∃ st, st ≠ 0 ∧ doS S (snTk id) 0 0 = (⟨0, 0, st, 0, []⟩, S)) ∨
    ∃ i v, S.at id = some (i, v) ∧ doS S (snTk id) 0 0 = (⟨0, 0, 0, 0, fourB S.next.toNat⟩, S.add ⟨S.next, v.size, v.quota, v.bl⟩) := by
  rw [doS_form S _ 0 0 false false (trouble0 _) rfl]
  by_cases hr : refuseS S (snTk id) false = 0
  · right
    obtain ⟨i, v, hat⟩ := refuse_at hr (.inr (.inr (.inl rfl)))
    refine ⟨i, v, hat, ?_⟩
    rw [if_neg (by simpa using hr), if_neg (by simp [snTk])]
    have hat' : S.at (snTk id).vol = some (i, v) := hat
    unfold changeS
    rw [hat']
    simp [snTk]
  · left
    exact ⟨_, hr, by rw [if_pos (by simpa using hr)]; rfl⟩
/-- What a block of such blocks reads as. -/
def rdB (bl : List (Int × List Nat)) (y : Int) : List Nat := readS ⟨0, 0, 0, bl⟩ y 1
theorem rdB_of (v : Vo) (y : Int) : readS v y 1 = rdB v.bl y := by
  unfold rdB readS readS blockOf
  rfl
theorem read_step {S : Mo} (h : Good S) {v : Vo} (hv : v ∈ S.vols) (y : Nat) (hy : (y : Int) < v.size) : doS S (rdTk v.id y) 0 0 = (⟨0, 0, 0, 0, rdB v.bl y⟩, S) ∧ (rdB v.bl y).length = 64 := by
  obtain ⟨i, hat⟩ := h.at_mem hv
  constructor
  · have hr : refuseS S (rdTk v.id y) false = 0 := by
      unfold refuseS rdTk
      simp only [hat]
      simp [isBlocks, beyondB]
      omega
    rw [doS_form S _ 0 0 false false (trouble0 _) rfl]
    unfold changeS
    rw [hr, ← rdB_of]
    simp [rdTk, hat]
  · rw [← rdB_of]
    exact readS_length (v := v) (h.bl hv).full _ _
/-- The size of a volume, or none. -/
def sizeOfId (S : Mo) (id : Int) : Int := match S.at id with | some (_, v) => v.size | none => 0
/-- The slices that were read, in their array. -/
structure WasAt (w : World) (wb : Nat) (f : Nat → List Nat) (n : Nat) : Prop where
  cells : ∃ cs : Array Value, CellsAt w wb cs 43 ∧ cs.size = 24
  row : ∀ y, y < n → ∃ a c, w.cell? ⟨wb, y, none⟩ = some (.slice a (f y).length c) ∧ Owns 0 w (.slice a (f y).length c) (f y)
theorem WasAt.lt {w : World} {wb : Nat} {f : Nat → List Nat} {n : Nat} (h : WasAt w wb f n) : wb < w.heap.size := by
  obtain ⟨cs, hc, _⟩ := h.cells
  exact hc.lt
theorem WasAt.keeps {w w' : World} {wb : Nat} {f : Nat → List Nat} {n : Nat} (h : WasAt w wb f n) {F : Nat → Prop} (k : Keeps F w w') (hF : ¬ F wb) (hB : ∀ b cur, w.heap[b]? = some (.cells cur 5 (0, 0)) → ¬ F b) : WasAt w' wb f n := by
  refine ⟨?_, fun y hy => ?_⟩
  · obtain ⟨cs, hc, hs⟩ := h.cells
    exact ⟨cs, hc.keeps k hF, hs⟩
  · obtain ⟨a, c, hc, ho⟩ := h.row y hy
    refine ⟨a, c, (k.cell (p := ⟨wb, y, none⟩) h.lt hF).trans hc, k.owns ho (fun g hg => ?_)⟩
    obtain ⟨cur, hcur⟩ := rowBlock ho hg
    exact hB g cur hcur
theorem WasAt.kept {w w' : World} {wb : Nat} {f : Nat → List Nat} {n : Nat} (h : WasAt w wb f n) (k : Keeps (fun _ => False) w w') : WasAt w' wb f n := h.keeps k id (fun _ _ _ => id)
theorem WasAt.beside {w w' : World} {wb : Nat} {f : Nat → List Nat} {n m : Nat} {S : Mo} {W : Nat → Prop} (h : WasAt w wb f n) (hm : ModelAt w m S W) (k : Keeps W w w') (hW : ¬ W wb) : WasAt w' wb f n := h.keeps k hW hm.noBytes
theorem WasAt.has {w : World} {wb : Nat} {f : Nat → List Nat} {n : Nat} (h : WasAt w wb f n) (y : Nat) (hy : y < 24) : ∃ v, w.cell? ⟨wb, y, none⟩ = some v := by
  obtain ⟨cs, hc, hs⟩ := h.cells
  exact ⟨cs[y]'(by omega), by rw [hc.cell]; simp [hs, hy]⟩
theorem WasAt.free {w : World} {wb : Nat} {f : Nat → List Nat} {n : Nat} (h : WasAt w wb f n) (y : Nat) : w.frozen? ⟨wb, y, none⟩ = false := by
  obtain ⟨cs, hc, _⟩ := h.cells
  exact hc.free y
theorem WasAt.notBytes {w : World} {wb : Nat} {f : Nat → List Nat} {n : Nat} (h : WasAt w wb f n) (x : Nat) (cur : Array Value) (hx : w.heap[x]? = some (.cells cur 5 (0, 0))) : ¬ x = wb := by
  rintro rfl
  obtain ⟨cs, hc, _⟩ := h.cells
  unfold CellsAt at hc
  rw [hc] at hx
  simp at hx
theorem WasAt.put {w : World} {wb : Nat} {f : Nat → List Nat} {n : Nat} (h : WasAt w wb f n) (hn : n < 24) {base : Nat} {a : Option Addr} {c : Nat} (ho : Owns base w (.slice a (f n).length c) (f n)) : WasAt (w.setCell ⟨wb, n, none⟩ (.slice a (f n).length c)) wb f (n + 1) := by
  have k : Keeps (fun x => x = wb) w (w.setCell ⟨wb, n, none⟩ (.slice a (f n).length c)) := (Keeps.refl (fun x => x = wb) w).setCell (p := ⟨wb, n, none⟩) (fun _ => rfl) _
  have own : ∀ {b : Nat} {v : Value} {l : List Nat}, Owns b w v l → Owns 0 (w.setCell ⟨wb, n, none⟩ (.slice a (f n).length c)) v l := fun {b v l} h1 => by
    have h2 := h1.mono (Nat.zero_le b)
    refine k.owns h2 (fun g hg => ?_)
    obtain ⟨cur, hcur⟩ := rowBlock h2 hg
    exact h.notBytes g cur hcur
  obtain ⟨cs, hc, hs⟩ := h.cells
  have hc2 := hc.set n (.slice a (f n).length c)
  refine ⟨⟨_, hc2, by simpa using hs⟩, fun y hy => ?_⟩
  by_cases hyn : y = n
  · subst hyn
    refine ⟨a, c, ?_, own ho⟩
    rw [hc2.cell]
    simp [hs, hn]
  · obtain ⟨a', c', hy2, ho2⟩ := h.row y (by omega)
    refine ⟨a', c', ?_, own ho2⟩
    rw [hc2.cell, Array.getElem?_setIfInBounds_ne (Ne.symm hyn), ← hc.cell]
    exact hy2
theorem WasAt.start {w : World} {wb : Nat} {f : Nat → List Nat} {cs : Array Value} (h : CellsAt w wb cs 43) (hs : cs.size = 24) : WasAt w wb f 0 := ⟨⟨cs, h, hs⟩, fun _ hy => absurd hy (Nat.not_lt_zero _)⟩

/-- The size of the last volume with an ID, or 0. -/
def szF (of : Int) (s : Int) (v : Vo) : Int := if v.id = of then v.size else s
def szL (l : List Vo) (of : Int) : Int := l.foldl (szF of) 0
theorem szL_next {l : List Vo} {k : Nat} {v : Vo} (of : Int) (h : l[k]? = some v) : szL (l.take (k + 1)) of = if v.id = of then v.size else szL (l.take k) of := by
  have e : l.take (k + 1) = l.take k ++ [v] := by
    rw [List.take_add_one, h]; rfl
  rw [e]
  unfold szL
  rw [List.foldl_append]
  rfl
theorem szL_fin (of : Int) : ∀ (l : List Vo) (s : Int), (l.foldl (szF of) s = s ∧ ∀ v ∈ l, v.id ≠ of) ∨ ∃ v ∈ l, v.id = of ∧ l.foldl (szF of) s = v.size
  | [], s => .inl ⟨rfl, by simp⟩
  | v :: l, s => by
    rcases szL_fin of l (szF of s v) with ⟨h1, h2⟩ | ⟨u, hu, h1, h2⟩
    · by_cases hv : v.id = of
      · exact .inr ⟨v, by simp, hv, by simp only [List.foldl_cons]; rw [h1]; simp [szF, hv]⟩
      · refine .inl ⟨by simp only [List.foldl_cons]; rw [h1]; simp [szF, hv], fun x hx => ?_⟩
        rcases List.mem_cons.1 hx with rfl | hx
        · exact hv
        · exact h2 x hx
    · exact .inr ⟨u, by simp [hu], h1, h2⟩
/-- What the blocks of a volume read as, and what a snapshot of it is. -/
structure ApAt (S : Mo) (of sz : Int) (bl : List (Int × List Nat)) : Prop where
  rd : ∀ y : Nat, (y : Int) < sz → doS S (rdTk of y) 0 0 = (⟨0, 0, 0, 0, rdB bl y⟩, S) ∧ (rdB bl y).length = 64
  sn : (∃ st, st ≠ 0 ∧ doS S (snTk of) 0 0 = (⟨0, 0, st, 0, []⟩, S)) ∨ ∃ u : Vo, u.id = S.next ∧ u.size = sz ∧ u.bl = bl ∧ doS S (snTk of) 0 0 = (⟨0, 0, 0, 0, fourB S.next.toNat⟩, S.add u)
theorem ap_at {S : Mo} (h : Good S) (of : Int) : ∃ bl, ApAt S of (szL S.vols of) bl := by
  rcases szL_fin of S.vols 0 with ⟨h1, h2⟩ | ⟨v, hv, h1, h2⟩
  · refine ⟨[], fun y hy => ?_, ?_⟩
    · unfold szL at hy
      omega
    · rcases snap_step S of with h3 | ⟨i, v, hat, e⟩
      · exact .inl h3
      · exact absurd (Mo.at_id hat) (h2 v (List.mem_of_getElem? (Mo.at_some hat).2))
  · have hs : szL S.vols of = v.size := h2
    rw [hs]
    refine ⟨v.bl, fun y hy => ?_, ?_⟩
    · have := read_step h hv y hy
      rw [h1] at this
      exact this
    · rcases snap_step S of with h3 | ⟨i, u, hat, e⟩
      · exact .inl h3
      · obtain ⟨j, hj⟩ := h.at_mem hv
        rw [h1, hat] at hj
        injection hj with hj
        injection hj with _ hj
        subst hj
        exact .inr ⟨⟨S.next, u.size, u.quota, u.bl⟩, rfl, rfl, rfl, e⟩
theorem Mo.mem_add (S : Mo) (u : Vo) : u ∈ (S.add u).vols := List.mem_append_right _ (by simp)
/-- Bytes as a string. -/
def strOf (l : List Nat) : ByteArray := strOfNums (l.map fun (n : Nat) => (n : Int))
theorem convert_bytes {w : World} {v : Value} {l : List Nat} (h : BytesAt w v l) (hl : 0 < l.length) : (convert 28 9 v).run Try.prog w = .ok (.string (strOf l)) w := by
  rcases h with ⟨rfl, _⟩ | ⟨bd, off, cap, rfl, hc⟩
  · simp at hl
  · refine run_convert_bytes_arg (P := Try.prog) w 28 5 Try.underlying28 Try.underlying5 bd off l.length cap (l.map fun (n : Nat) => (n : Int)) (by simp) (fun i hi => ?_) 9 Try.underlying9
    rw [hc i hi]
    simp [List.getD, hi]
end Go.Proofs.Ytmanldcohbegkaa
