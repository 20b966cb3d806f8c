/-
  The document's model: plain laws on a volume's blocks in an order of their own.
-/
import Derived.Test.YtmanldcohbegkaaMdGood
namespace Go.Proofs.Ytmanldcohbegkaa
open Go.RowKit

/-- A list's blocks without one place. -/
def wo {β : Type} (k : Int) (l : List (Int × β)) : List (Int × β) := l.filter fun e => e.1 != k
theorem wo_cons {β : Type} (k : Int) (p : Int × β) (l : List (Int × β)) : wo k (p :: l) = if p.1 = k then wo k l else p :: wo k l := by
  unfold wo
  rw [List.filter_cons]
  by_cases h : p.1 = k <;> simp [h]
theorem wo_map {α β : Type} (f : α → β) (k : Int) (l : List (Int × α)) : wo k (l.map fun p => (p.1, f p.2)) = (wo k l).map fun p => (p.1, f p.2) := by
  unfold wo
  rw [List.filter_map]
  rfl
theorem getAt_wo {β : Type} (k x : Int) : ∀ (l : List (Int × β)), getAt x (wo k l) = if x = k then none else getAt x l
  | [] => by simp [wo, getAt, findAt]
  | p :: l => by
    rw [wo_cons]
    by_cases h : p.1 = k
    · rw [if_pos h, getAt_wo k x l, getAt_cons]
      by_cases hx : x = k
      · rw [if_pos hx, if_pos hx]
      · rw [if_neg hx, if_neg hx, if_neg (by rw [h]; exact hx)]
    · rw [if_neg h, getAt_cons, getAt_cons, getAt_wo k x l]
      by_cases hx : x = p.1
      · rw [if_pos hx, if_pos hx, if_neg (by rw [hx]; exact h)]
      · rw [if_neg hx, if_neg hx]
theorem getAt_end {β : Type} (k x : Int) (v : β) : ∀ (l : List (Int × β)), getAt k l = none → getAt x (l ++ [(k, v)]) = if x = k then some v else getAt x l
  | [], _ => by rw [List.nil_append, getAt_cons]
  | p :: l, h => by
    rw [getAt_cons] at h
    by_cases hk : k = p.1
    · rw [if_pos hk] at h; cases h
    · rw [if_neg hk] at h
      rw [List.cons_append, getAt_cons, getAt_cons, getAt_end k x v l h]
      by_cases hx : x = p.1
      · rw [if_pos hx, if_pos hx, if_neg (by rw [hx]; exact fun e => hk e.symm)]
      · rw [if_neg hx, if_neg hx]
theorem getAt_put {β : Type} (k x : Int) (v : β) : ∀ (l : List (Int × β)), getAt x (putAt k v l) = if x = k then some v else getAt x l
  | [] => by
    unfold putAt
    rw [getAt_cons]
  | p :: l => by
    unfold putAt
    by_cases h : k = p.1
    · rw [if_pos h, getAt_cons, getAt_cons]
      by_cases hx : x = k
      · rw [if_pos hx, if_pos hx]
      · rw [if_neg hx, if_neg hx, if_neg (by rw [← h]; exact hx)]
    · rw [if_neg h, getAt_cons, getAt_cons, getAt_put k x v l]
      by_cases hx : x = p.1
      · rw [if_pos hx, if_pos hx, if_neg (by rw [hx]; exact fun e => h e.symm)]
      · rw [if_neg hx, if_neg hx]
theorem getAt_drop {β : Type} (k x : Int) : ∀ (l : List (Int × β)), (l.map (·.1)).Nodup → getAt x (dropAt k l) = if x = k then none else getAt x l
  | [], _ => by simp [dropAt, getAt, findAt]
  | p :: l, hn => by
    simp only [List.map_cons, List.nodup_cons] at hn
    unfold dropAt
    by_cases h : k = p.1
    · rw [if_pos h, getAt_cons]
      by_cases hx : x = k
      · rw [if_pos hx, hx, h]
        exact (getAt_none_iff _ _).2 hn.1
      · rw [if_neg hx, if_neg (by rw [← h]; exact hx)]
    · rw [if_neg h, getAt_cons, getAt_cons, getAt_drop k x l hn.2]
      by_cases hx : x = p.1
      · rw [if_pos hx, if_pos hx, if_neg (by rw [hx]; exact fun e => h e.symm)]
      · rw [if_neg hx, if_neg hx]
/-- One, if there is such a place. -/
def isAt {β : Type} (k : Int) (l : List (Int × β)) : Nat := if getAt k l = none then 0 else 1
theorem wo_none {β : Type} (k : Int) : ∀ (l : List (Int × β)), getAt k l = none → wo k l = l
  | [], _ => rfl
  | p :: l, h => by
    rw [getAt_cons] at h
    by_cases hk : k = p.1
    · rw [if_pos hk] at h; cases h
    · rw [if_neg hk] at h
      rw [wo_cons, if_neg (fun e => hk e.symm), wo_none k l h]
theorem wo_length {β : Type} (k : Int) : ∀ (l : List (Int × β)), (l.map (·.1)).Nodup → (wo k l).length + isAt k l = l.length
  | [], _ => by simp [wo, isAt, getAt, findAt]
  | p :: l, hn => by
    simp only [List.map_cons, List.nodup_cons] at hn
    rw [wo_cons]
    unfold isAt
    rw [getAt_cons]
    by_cases h : p.1 = k
    · rw [if_pos h, if_pos h.symm]
      have : getAt k l = none := (getAt_none_iff _ _).2 (by rw [← h]; exact hn.1)
      rw [wo_none k l this]
      simp
    · have h' : ¬ k = p.1 := fun e => h e.symm
      rw [if_neg h, if_neg h']
      have := wo_length k l hn.2
      unfold isAt at this
      simp only [List.length_cons]
      omega
theorem drop_length {β : Type} (k : Int) : ∀ (l : List (Int × β)), (dropAt k l).length + isAt k l = l.length
  | [] => by simp [dropAt, isAt, getAt, findAt]
  | p :: l => by
    unfold dropAt isAt
    rw [getAt_cons]
    by_cases h : k = p.1
    · rw [if_pos h, if_pos h]; simp
    · rw [if_neg h, if_neg h]
      have := drop_length k l
      unfold isAt at this
      simp only [List.length_cons]
      omega
theorem put_length {β : Type} (k : Int) (v : β) : ∀ (l : List (Int × β)), (putAt k v l).length + isAt k l = l.length + 1
  | [] => by simp [putAt, isAt, getAt, findAt]
  | p :: l => by
    unfold putAt isAt
    rw [getAt_cons]
    by_cases h : k = p.1
    · rw [if_pos h, if_pos h]; simp
    · rw [if_neg h, if_neg h]
      have := put_length k v l
      unfold isAt at this
      simp only [List.length_cons]
      omega
/-- The same blocks, in whatever order. -/
structure SameBl (br bl : List (Int × List Nat)) : Prop where
  keys : (br.map (·.1)).Nodup
  len : br.length = bl.length
  get : ∀ k, getAt k br = getAt k bl
theorem SameBl.nil : SameBl [] [] := ⟨by simp, rfl, fun _ => rfl⟩
theorem wo_keys {β : Type} (k : Int) (l : List (Int × β)) (h : (l.map (·.1)).Nodup) : ((wo k l).map (·.1)).Nodup := (List.filter_sublist.map _).nodup h
theorem SameBl.is {br bl : List (Int × List Nat)} (h : SameBl br bl) (k : Int) : isAt k br = isAt k bl := by
  unfold isAt; rw [h.get]
theorem SameBl.drop {br bl : List (Int × List Nat)} (h : SameBl br bl) (hn : (bl.map (·.1)).Nodup) (k : Int) : SameBl (wo k br) (dropAt k bl) := by
  refine ⟨wo_keys k br h.keys, ?_, fun x => ?_⟩
  · have h1 := wo_length k br h.keys
    have h2 := drop_length k bl
    have h3 := h.is k
    have h4 := h.len
    omega
  · rw [getAt_wo, getAt_drop k x bl hn, h.get]
theorem SameBl.put {br bl : List (Int × List Nat)} (h : SameBl br bl) (k : Int) (d : List Nat) : SameBl (wo k br ++ [(k, d)]) (putAt k d bl) := by
  have hno : getAt k (wo k br) = none := by rw [getAt_wo, if_pos rfl]
  refine ⟨?_, ?_, fun x => ?_⟩
  · rw [List.map_append, List.nodup_append]
    refine ⟨wo_keys k br h.keys, by simp, fun a ha b hb e => ?_⟩
    simp at hb
    rw [e, hb] at ha
    exact (getAt_none_iff k _).1 hno ha
  · have h1 := wo_length k br h.keys
    have h2 := put_length k d bl
    have h3 := h.is k
    have h4 := h.len
    simp only [List.length_append, List.length_cons, List.length_nil]
    omega
  · rw [getAt_end k x d _ hno, getAt_put, getAt_wo, h.get]
    by_cases hx : x = k
    · rw [if_pos hx, if_pos hx]
    · rw [if_neg hx, if_neg hx, if_neg hx]
theorem SameBl.any {br bl : List (Int × List Nat)} (h : SameBl br bl) (s : Int) : (br.any fun p => decide (s ≤ p.1)) = bl.any fun p => decide (s ≤ p.1) := by
  have key : ∀ l : List (Int × List Nat), (l.any fun p => decide (s ≤ p.1)) = true ↔ ∃ k, s ≤ k ∧ getAt k l ≠ none := by
    intro l
    rw [List.any_eq_true]
    constructor
    · rintro ⟨p, hp, hs⟩
      refine ⟨p.1, by simpa using hs, fun e => ?_⟩
      exact (getAt_none_iff _ _).1 e (List.mem_map.2 ⟨p, hp, rfl⟩)
    · rintro ⟨k, hs, hk⟩
      have : k ∈ l.map (·.1) := by
        apply Classical.byContradiction
        intro hn
        exact hk ((getAt_none_iff _ _).2 hn)
      obtain ⟨p, hp, e⟩ := List.mem_map.1 this
      exact ⟨p, hp, by simp [e, hs]⟩
  rw [Bool.eq_iff_iff, key, key]
  constructor
  · rintro ⟨k, hs, hk⟩; exact ⟨k, hs, by rw [← h.get]; exact hk⟩
  · rintro ⟨k, hs, hk⟩; exact ⟨k, hs, by rw [h.get]; exact hk⟩
/-- The place of a key, or -1. -/
def placeOf {β : Type} (k : Int) (l : List (Int × β)) : Int := firstAt (fun e => e.1 == k) l
theorem placeOf_none {β : Type} {k : Int} {l : List (Int × β)} (h : getAt k l = none) : placeOf k l = -1 := by
  refine firstAt_none (fun j hj x hx => ?_)
  have := (getAt_none_iff k l).1 h
  rw [beq_eq_false_iff_ne]
  rintro rfl
  exact this (List.mem_map.2 ⟨x, List.mem_of_getElem? hx, rfl⟩)
theorem placeOf_some {β : Type} {k : Int} : ∀ {l : List (Int × β)} {d : β}, getAt k l = some d → ∃ i : Nat, placeOf k l = (i : Int) ∧ l[i]? = some (k, d) := by
  intro l
  induction l with
  | nil => intro d h; cases h
  | cons p l ih =>
    intro d h
    rw [getAt_cons] at h
    unfold placeOf firstAt
    rw [List.findIdx?_cons]
    by_cases hk : k = p.1
    · rw [if_pos hk] at h
      injection h with h
      subst h
      exact ⟨0, by simp [hk], by simp [hk]⟩
    · rw [if_neg hk] at h
      obtain ⟨i, h1, h2⟩ := ih h
      have hb : (p.1 == k) = false := by rw [beq_eq_false_iff_ne]; exact fun e => hk e.symm
      unfold placeOf firstAt at h1
      refine ⟨i + 1, ?_, by simpa using h2⟩
      rw [hb]
      simp only [Bool.false_eq_true, if_false]
      cases hf : List.findIdx? (fun e : Int × β => e.1 == k) l with
      | none => rw [hf] at h1; simp at h1
      | some j => rw [hf] at h1; simp at h1 ⊢; omega
end Go.Proofs.Ytmanldcohbegkaa
