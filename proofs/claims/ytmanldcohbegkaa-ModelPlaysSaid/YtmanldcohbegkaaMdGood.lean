/-
  The model: what is true of all states stays true.
-/
import Derived.Test.YtmanldcohbegkaaMdGoodDep
namespace Go.Proofs.Ytmanldcohbegkaa
open Go.RowKit

theorem putAt_keys {β : Type} (k : Int) (v : β) : ∀ (l : List (Int × β)), (getAt k l = none ∧ (putAt k v l).map (·.1) = l.map (·.1) ++ [k]) ∨ (getAt k l ≠ none ∧ (putAt k v l).map (·.1) = l.map (·.1))
  | [] => .inl ⟨rfl, rfl⟩
  | p :: l => by
    by_cases h : k = p.1
    · right
      rw [getAt_cons]
      simp [putAt, h]
    · have ih := putAt_keys k v l
      rw [getAt_cons, if_neg h]
      simp only [putAt, if_neg h, List.map_cons, List.cons_append]
      exact ih.imp (fun ⟨a, b⟩ => ⟨a, by rw [b]⟩) (fun ⟨a, b⟩ => ⟨a, by rw [b]⟩)
theorem getAt_none_iff {β : Type} (k : Int) : ∀ (l : List (Int × β)), getAt k l = none ↔ k ∉ l.map (·.1)
  | [] => by simp [getAt, findAt]
  | p :: l => by
    rw [getAt_cons]
    by_cases h : k = p.1
    · simp [h]
    · rw [if_neg h, getAt_none_iff k l]; simp [h]
theorem dropAt_sub {β : Type} (k : Int) : ∀ (l : List (Int × β)), (dropAt k l).Sublist l
  | [] => List.Sublist.refl _
  | p :: l => by
    unfold dropAt
    split
    · exact List.sublist_cons_self _ _
    · exact (dropAt_sub k l).cons_cons p
/-- A map of a volume: at most so many, no place twice, whole blocks. -/
structure BlOk (q : Int) (bl : List (Int × List Nat)) : Prop where
  room : (bl.length : Int) ≤ q
  keys : (bl.map (·.1)).Nodup
  full : ∀ p ∈ bl, p.2.length = 64
theorem BlOk.put {q : Int} {bl : List (Int × List Nat)} (h : BlOk q bl) (k : Int) (d : List Nat) (hd : d.length = 64) (hr : ¬ (getAt k bl = none ∧ q ≤ (bl.length : Int))) : BlOk q (putAt k d bl) := by
  have hk := putAt_keys k d bl
  refine ⟨?_, ?_, ?_⟩
  · have e : (putAt k d bl).length = ((putAt k d bl).map (·.1)).length := by simp
    rcases hk with ⟨h1, h2⟩ | ⟨h1, h2⟩
    · rw [e, h2]; simp
      have : ¬ q ≤ (bl.length : Int) := fun hq => hr ⟨h1, hq⟩
      omega
    · rw [e, h2]; simpa using h.room
  · rcases hk with ⟨h1, h2⟩ | ⟨h1, h2⟩
    · rw [h2, List.nodup_append]
      refine ⟨h.keys, by simp, fun a ha b hb e => ?_⟩
      simp at hb
      rw [e, hb] at ha
      exact (getAt_none_iff k bl).1 h1 ha
    · rw [h2]; exact h.keys
  · intro p hp
    rcases mem_putAt _ _ _ _ hp with rfl | hp
    · exact hd
    · exact h.full p hp
theorem BlOk.sub {q : Int} {bl bl' : List (Int × List Nat)} (h : BlOk q bl) (hs : bl'.Sublist bl) : BlOk q bl' :=
  ⟨by have := hs.length_le; have := h.room; omega, (hs.map _).nodup h.keys, fun p hp => h.full p (hs.subset hp)⟩
theorem BlOk.write {q a : Int} : ∀ (xs : List (List Nat)) (k : Nat) (bl : List (Int × List Nat)), BlOk q bl → (∀ x ∈ xs, x.length = 64) → BlOk q (wrS q a xs k bl).1
  | [], _, _, h, _ => h
  | x :: xs, k, bl, h, hx => by
    unfold wrS
    split
    · exact h
    · next hn => exact BlOk.write xs (k + 1) _ (h.put _ x (hx x (by simp)) hn) (fun y hy => hx y (by simp [hy]))
theorem unS_sub (a : Int) (bl : List (Int × List Nat)) : ∀ n, (unS a bl n).Sublist bl
  | 0 => List.Sublist.refl _
  | n + 1 => (dropAt_sub _ _).trans (unS_sub a bl n)
theorem Good.bl {S : Mo} (h : Good S) {v : Vo} (hv : v ∈ S.vols) : BlOk v.quota v.bl := ⟨h.room v hv, h.keys v hv, h.full v hv⟩
theorem Good.setVol {S : Mo} (h : Good S) {i : Nat} {v v' : Vo} (hi : S.vols[i]? = some v) (h1 : v'.id = v.id) (h2 : 1 ≤ v'.size ∧ v'.size ≤ 1048576) (h3 : v'.quota = v.quota) (h4 : BlOk v'.quota v'.bl) : Good (S.setVol i v') := by
  have hv := List.mem_of_getElem? hi
  have key : ∀ u ∈ (S.setVol i v').vols, u = v' ∨ u ∈ S.vols := fun u hu => (List.mem_or_eq_of_mem_set hu).symm
  refine ⟨by simpa [Mo.setVol] using h.len, h.next0, h.next1, ?_, ?_, ?_, ?_, ?_, ?_, ?_⟩
  · intro u hu; rcases key u hu with rfl | hu
    · rw [h1]; exact h.ids v hv
    · exact h.ids u hu
  · intro u hu; rcases key u hu with rfl | hu
    · exact h2
    · exact h.size u hu
  · intro u hu; rcases key u hu with rfl | hu
    · rw [h3]; exact h.quota v hv
    · exact h.quota u hu
  · have e : (S.setVol i v').vols.map (·.id) = S.vols.map (·.id) := by
      apply List.ext_getElem?
      intro j
      simp only [Mo.setVol, List.getElem?_map, List.getElem?_set]
      by_cases hj : i = j
      · subst hj
        have hlt := (List.getElem?_eq_some_iff.1 hi).1
        rw [if_pos rfl, if_pos hlt, hi]; simp [h1]
      · rw [if_neg hj]
    have h0 : (S.vols.map (·.id)).Pairwise (· < ·) := List.pairwise_map.2 h.rise
    rw [← e] at h0
    exact List.pairwise_map.1 h0
  · intro u hu; rcases key u hu with rfl | hu
    · exact h4.room
    · exact h.room u hu
  · intro u hu; rcases key u hu with rfl | hu
    · exact h4.keys
    · exact h.keys u hu
  · intro u hu; rcases key u hu with rfl | hu
    · exact h4.full
    · exact h.full u hu
theorem Good.add {S : Mo} (h : Good S) {v : Vo} (hl : S.vols.length ≤ 7) (hn : S.next < 1073741824) (h1 : v.id = S.next) (h2 : 1 ≤ v.size ∧ v.size ≤ 1048576) (h3 : 0 ≤ v.quota ∧ v.quota ≤ 1048576) (h4 : BlOk v.quota v.bl) : Good (S.add v) := by
  have h0 := h.next0
  have key : ∀ u ∈ (S.add v).vols, u ∈ S.vols ∨ u = v := fun u hu => by simpa [Mo.add] using hu
  refine ⟨by simp [Mo.add]; omega, by simp [Mo.add]; omega, by simp [Mo.add]; omega, ?_, ?_, ?_, ?_, ?_, ?_, ?_⟩
  · intro u hu
    simp only [Mo.add]
    rcases key u hu with hu | rfl
    · have := h.ids u hu; omega
    · omega
  · intro u hu; rcases key u hu with hu | rfl
    · exact h.size u hu
    · exact h2
  · intro u hu; rcases key u hu with hu | rfl
    · exact h.quota u hu
    · exact h3
  · simp only [Mo.add]
    rw [List.pairwise_append]
    refine ⟨h.rise, by simp, fun a ha b hb => ?_⟩
    simp at hb; subst hb
    have := h.ids a ha; omega
  · intro u hu; rcases key u hu with hu | rfl
    · exact h.room u hu
    · exact h4.room
  · intro u hu; rcases key u hu with hu | rfl
    · exact h.keys u hu
    · exact h4.keys
  · intro u hu; rcases key u hu with hu | rfl
    · exact h.full u hu
    · exact h4.full
theorem Good.erase {S : Mo} (h : Good S) (i : Nat) : Good { S with vols := S.vols.eraseIdx i } := by
  have hs : (S.vols.eraseIdx i).Sublist S.vols := List.eraseIdx_sublist _ _
  exact ⟨Nat.le_trans hs.length_le h.len, h.next0, h.next1, fun u hu => h.ids u (hs.subset hu), fun u hu => h.size u (hs.subset hu), fun u hu => h.quota u (hs.subset hu), h.rise.sublist hs, fun u hu => h.room u (hs.subset hu), fun u hu => h.keys u (hs.subset hu), fun u hu => h.full u (hs.subset hu)⟩
theorem refuse_create {S : Mo} {t : Tk} {lost : Bool} (h : refuseS S t lost = 0) (hop : t.op = 6) : sizedB t.siz = true ∧ 0 ≤ t.quo ∧ t.quo ≤ 1048576 := by
  unfold refuseS at h
  split at h
  · cases h
  split at h
  · cases h
  split at h
  · cases h
  next h3 =>
  have : ¬ (sizedB t.siz = false ∨ t.quo < 0 ∨ 1048576 < t.quo) := fun hc => h3 ⟨hop, hc⟩
  refine ⟨?_, by omega, by omega⟩
  cases hs : sizedB t.siz
  · exact absurd (.inl hs) this
  · rfl
theorem refuse_size {S : Mo} {t : Tk} {lost : Bool} (h : refuseS S t lost = 0) (hop : t.op = 9) : sizedB t.siz = true := by
  unfold refuseS at h
  split at h
  · cases h
  split at h
  · cases h
  split at h
  · cases h
  split at h
  · cases h
  split at h
  · cases h
  split at h
  · cases h
  next h6 =>
  cases hs : sizedB t.siz
  · exact absurd ⟨hop, hs⟩ h6
  · rfl
theorem sizedB_iff {n : Int} (h : sizedB n = true) : 1 ≤ n ∧ n ≤ 1048576 := by
  unfold sizedB at h; simpa using h
theorem Good.change {S : Mo} {t : Tk} {lost : Bool} (h : Good S) (hr : refuseS S t lost = 0) : Good (changeS S t).2 := by
  unfold changeS
  split
  · exact h
  split
  · next h6 =>
    obtain ⟨h1, h2⟩ := refuse_fresh hr (.inl h6)
    obtain ⟨h3, h4⟩ := refuse_create hr h6
    exact h.add h1 h2 rfl (sizedB_iff h3) h4 ⟨h4.1, by simp, fun p hp => by simp at hp⟩
  split
  · next h7 =>
    obtain ⟨h1, h2⟩ := refuse_fresh hr (.inr h7)
    obtain ⟨i, v, hat⟩ := refuse_at hr (.inr (.inr (.inl h7)))
    have hv := List.mem_of_getElem? (Mo.at_some hat).2
    rw [hat]
    exact h.add h1 h2 rfl (h.size v hv) (h.quota v hv) (show BlOk v.quota v.bl from h.bl hv)
  split
  · split
    · exact h.erase _
    · exact h
  split
  · next h9 =>
    obtain ⟨i, v, hat⟩ := refuse_at hr (.inr (.inl h9))
    have hv := (Mo.at_some hat).2
    rw [hat]
    exact h.setVol hv rfl (sizedB_iff (refuse_size hr h9)) rfl (show BlOk v.quota v.bl from h.bl (List.mem_of_getElem? hv))
  split
  · exact h
  · exact h
theorem Good.block {S : Mo} {t : Tk} {lost : Bool} {n : Nat} (h : Good S) (hr : refuseS S t lost = 0) (h35 : t.op = 3 ∨ t.op = 5) (hn : (n : Int) ≤ t.cnt) : Good (blockS S t n).2 := by
  obtain ⟨i, v, hat, c1, c2, l1, l2, l3⟩ := refuse_blocks hr (h35.elim (fun e => .inl e) (fun e => .inr (.inr e)))
  have hv := (Mo.at_some hat).2
  have hvm := List.mem_of_getElem? hv
  unfold blockS
  rw [hat]
  dsimp only
  split
  · next h3 =>
    have hdl := refuse_data hr h3
    refine h.setVol hv rfl (h.size v hvm) rfl ((h.bl hvm).write _ _ _ (fun x hx => ?_))
    obtain ⟨k, hk, rfl⟩ := List.mem_map.1 hx
    have := List.mem_range.1 hk
    exact piece_length (cnt := t.cnt.toNat) (by omega) (by omega)
  · exact h.setVol hv rfl (h.size v hvm) rfl ((h.bl hvm).sub (unS_sub _ _ _))
theorem Good.doS {S : Mo} (h : Good S) (t : Tk) (status done : Int) : Good (doS S t status done).2 := by
  unfold Go.Proofs.Ytmanldcohbegkaa.doS
  dsimp only
  split
  · exact h
  next hr =>
  have hr0 : refuseS S t (troubleB t.op status && decide (status ≠ 12)) = 0 := by simpa using hr
  split
  · next h35 =>
    obtain ⟨i, v, hat, c1, c2, _⟩ := refuse_blocks hr0 (h35.elim (fun e => .inl e) (fun e => .inr (.inr e)))
    refine h.block hr0 h35 ?_
    split <;> omega
  split
  · exact h
  split
  · exact h.change hr0
  · exact h.change hr0
theorem Good.start : Good ⟨[], 1⟩ := ⟨by simp, by simp, by simp, by simp, by simp, by simp, by simp, by simp, by simp, by simp⟩
end Go.Proofs.Ytmanldcohbegkaa
