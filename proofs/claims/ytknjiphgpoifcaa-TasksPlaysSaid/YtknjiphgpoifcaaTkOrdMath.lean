/-
  The plain law of TasksOrder: what the states tell of the queue.
-/
import Derived.Test.YtknjiphgpoifcaaTkKnown
namespace Go.Proofs.Ytknjiphgpoifcaa
open Go.RowKit

theorem readyS_spec (s : St) : ∀ i0 i, i ∈ readyS i0 s → ∃ j e, i = i0 + j ∧ s[j]? = some e ∧ e.2 = false ∧ (e.1.ord = true → i = 0) ∧ ∀ j' e', j' < j → s[j']? = some e' → e'.1.ord = false := by
  induction s with
  | nil => intro i0 i h; simp [readyS] at h
  | cons x s ih =>
    intro i0 i h
    simp only [readyS] at h
    by_cases ho : x.1.ord = true
    · rw [if_pos ho] at h
      split at h
      case isTrue hx =>
        simp only [List.mem_singleton] at h
        exact ⟨0, x, by omega, rfl, hx.2, fun _ => by omega, fun j' e' hj => by omega⟩
      case isFalse => simp at h
    · rw [if_neg ho] at h
      have rest : i ∈ readyS (i0 + 1) s → ∃ j e, i = i0 + j ∧ (x :: s)[j]? = some e ∧ e.2 = false ∧ (e.1.ord = true → i = 0) ∧ ∀ j' e', j' < j → (x :: s)[j']? = some e' → e'.1.ord = false := by
        intro h
        obtain ⟨j, e, h1, h2, h3, h4, h5⟩ := ih _ _ h
        refine ⟨j + 1, e, by omega, by simpa using h2, h3, h4, fun j' e' hj he => ?_⟩
        cases j' with
        | zero =>
          simp only [List.getElem?_cons_zero, Option.some.injEq] at he
          subst he
          simpa using ho
        | succ j' => exact h5 j' e' (by omega) (by simpa using he)
      split at h
      case isTrue hx =>
        rcases List.mem_cons.1 h with h | h
        · exact ⟨0, x, by omega, rfl, hx, fun hh => absurd hh ho, fun j' e' hj => by omega⟩
        · exact rest h
      case isFalse => exact rest h
theorem readyS_ne (s : St) (hs : s ≠ []) (hu : ∀ e ∈ s, e.2 = false) : readyS 0 s ≠ [] := by
  cases s with
  | nil => exact absurd rfl hs
  | cons x s =>
    have := hu x (by simp)
    simp only [readyS]
    split <;> simp [this]
theorem filterMap_len (s : St) (P : List Nat) (h : ∀ i ∈ P, i < s.length) : (P.filterMap fun i => s[i]?.map (·.1)).length = P.length := by
  induction P with
  | nil => rfl
  | cons i P ih =>
    have hi := h i (by simp)
    rw [List.filterMap_cons]
    simp only [List.getElem?_eq_getElem hi, Option.map_some, List.length_cons]
    rw [ih fun j hj => h j (by simp [hj])]
theorem sReady_length (s : St) : (sReady s).length = (sPlaces s).length := by
  refine filterMap_len s _ fun i hi => ?_
  obtain ⟨j, e, h1, h2, _⟩ := readyS_spec s 0 i hi
  have := (List.getElem?_eq_some_iff.1 h2).1
  omega
theorem readyS_length (s : St) : ∀ i, (readyS i s).length ≤ s.length := by
  induction s with
  | nil => intro i; simp [readyS]
  | cons e s ih =>
    intro i
    have := ih (i + 1)
    simp only [readyS]
    split
    · split <;> simp
    · split <;> simp <;> omega
theorem sReady_le (s : St) : (sReady s).length ≤ s.length := by rw [sReady_length]; exact readyS_length s 0
theorem sTake_no (s : St) (k : Int) (h : k < 0 ∨ (sReady s).length ≤ k) : sTake s k = (tkZero, 46, s) := by
  unfold sTake
  by_cases h0 : k < 0
  · rw [if_pos h0]
  · rw [if_neg h0, List.getElem?_eq_none (by rw [sReady_length] at h; omega)]
theorem sTake_yes (s : St) (k : Nat) (h : k < (sReady s).length) : ∃ i e, s[i]? = some e ∧ sTake s k = (e.1, 0, s.set i (e.1, true)) ∧ e.2 = false ∧ (e.1.ord = true → i = 0) ∧ ∀ j e', j < i → s[j]? = some e' → e'.1.ord = false := by
  rw [sReady_length] at h
  obtain ⟨i, e, h1, h2, h3, h4, h5⟩ := readyS_spec s 0 _ (List.getElem_mem h)
  rw [Nat.zero_add] at h1
  refine ⟨i, e, h2, ?_, h3, fun ho => by have := h4 ho; omega, h5⟩
  unfold sTake
  rw [if_neg (by omega)]
  simp only [Int.toNat_natCast, List.getElem?_eq_getElem h, h1, h2]

def tkOf (o : Nat → Bool) (n : Nat) : Tk := ⟨n, 0, 0, o n, false, 0, 0, 0, 0, 0, []⟩
def upd (st : Nat → Nat) (n v : Nat) : Nat → Nat := fun m => if m = n then v else st m
/-- Those that were put and are not ended. -/
def live (st : Nat → Nat) (next : Nat) : List Nat := (List.range next).filter fun n => st n != 3
def sOf (o : Nat → Bool) (st : Nat → Nat) (next : Nat) : St := (live st next).map fun n => (tkOf o n, st n == 2)
def cnt (st : Nat → Nat) : Nat → Nat
  | 0 => 0
  | k + 1 => cnt st k + if st k = 2 then 1 else 0
theorem cnt_upd (st : Nat → Nat) (n v : Nat) : ∀ k, n < k → cnt (upd st n v) k + (if st n = 2 then 1 else 0) = cnt st k + if v = 2 then 1 else 0 := by
  intro k
  have low : ∀ k, k ≤ n → cnt (upd st n v) k = cnt st k := by
    intro k
    induction k with
    | zero => intro _; rfl
    | succ k ih =>
      intro hk
      have hne : k ≠ n := by omega
      simp only [cnt, upd, if_neg hne, ih (by omega)]
  induction k with
  | zero => intro h; omega
  | succ k ih =>
    intro h
    by_cases hk : k = n
    · subst hk
      simp only [cnt, low k (Nat.le_refl _), upd, if_true]
      omega
    · have := ih (by omega)
      simp only [cnt, upd, if_neg hk] at *
      omega
theorem cnt_pos (st : Nat → Nat) : ∀ k, 0 < cnt st k → ∃ n, n < k ∧ st n = 2 := by
  intro k
  induction k with
  | zero => intro h; simp [cnt] at h
  | succ k ih =>
    intro h
    by_cases hk : st k = 2
    · exact ⟨k, by omega, hk⟩
    · simp only [cnt, if_neg hk] at h
      obtain ⟨n, h1, h2⟩ := ih (by omega)
      exact ⟨n, by omega, h2⟩
theorem cnt_le (st : Nat → Nat) : ∀ k, cnt st k ≤ k := by
  intro k
  induction k with
  | zero => exact Nat.le_refl _
  | succ k ih => simp only [cnt]; split <;> omega
theorem tmod_bounds (x : Int) (n : Nat) (h : 0 < n) : -(n : Int) < x.tmod n ∧ x.tmod n < n := by
  have e := Int.natAbs_tmod x n
  have : x.natAbs % (n : Int).natAbs < n := by
    rw [Int.natAbs_natCast]; exact Nat.mod_lt _ h
  omega
theorem cnt_zero (st : Nat → Nat) : ∀ k, cnt st k = 0 → ∀ n, n < k → st n ≠ 2 := by
  intro k
  induction k with
  | zero => intro _ n h; omega
  | succ k ih =>
    intro h n hn
    simp only [cnt] at h
    by_cases hk : st k = 2
    · rw [if_pos hk] at h; omega
    · by_cases e : n = k
      · subst e; exact hk
      · exact ih (by omega) n (by omega)

structure Inv (o : Nat → Bool) (st : Nat → Nat) (next un : Nat) : Prop where
  le : next ≤ 64
  rng : ∀ n, n < next → 1 ≤ st n ∧ st n ≤ 3
  zero : ∀ n, next ≤ n → st n = 0
  cnt : un = Go.Proofs.Ytknjiphgpoifcaa.cnt st next
  key : ∀ n m, n < m → m < next → st n ≠ 3 → 2 ≤ st m → o n = false ∧ o m = false

theorem live_mem {st : Nat → Nat} {next n : Nat} : n ∈ live st next ↔ n < next ∧ st n ≠ 3 := by simp [live]
theorem live_sorted (st : Nat → Nat) (next : Nat) : (live st next).Pairwise (· < ·) := List.pairwise_lt_range.filter _
theorem live_nodup (st : Nat → Nat) (next : Nat) : (live st next).Nodup := (live_sorted st next).imp fun h => Nat.ne_of_lt h
theorem live_upd (st : Nat → Nat) (next n v : Nat) (h1 : st n ≠ 3) (h2 : v ≠ 3) : live (upd st n v) next = live st next := by
  refine List.filter_congr fun m _ => ?_
  simp only [upd]
  split
  case isTrue h => rw [h, bne_iff_ne.2 h1, bne_iff_ne.2 h2]
  case isFalse => rfl
theorem live_next {st : Nat → Nat} {next : Nat} : live (upd st next 1) (next + 1) = live st next ++ [next] := by
  unfold live
  rw [List.range_succ, List.filter_append]
  congr 1
  · refine List.filter_congr fun m hm => ?_
    have := List.mem_range.1 hm
    simp only [upd, if_neg (show m ≠ next by omega)]
  · simp [upd]

theorem Inv.start (o : Nat → Bool) : Inv o (fun _ => 0) 0 0 := ⟨by omega, fun n h => by omega, fun _ _ => rfl, rfl, fun n m _ h => by omega⟩
theorem Inv.put {o : Nat → Bool} {st : Nat → Nat} {next un : Nat} (h : Inv o st next un) (hn : next < 64) : Inv o (upd st next 1) (next + 1) un ∧ sOf o (upd st next 1) (next + 1) = sOf o st next ++ [(tkOf o next, false)] := by
  refine ⟨⟨by omega, fun n hh => ?_, fun n hh => ?_, ?_, fun n m h1 h2 h3 h4 => ?_⟩, ?_⟩
  · by_cases e : n = next
    · simp [upd, e]
    · simp only [upd, if_neg e]; exact h.rng n (by omega)
  · simp only [upd, if_neg (show n ≠ next by omega)]; exact h.zero n (by omega)
  · have h1 := cnt_upd st next 1 (next + 1) (by omega)
    have h2 := h.zero next (Nat.le_refl _)
    have h3 := h.cnt
    have h4 : Go.Proofs.Ytknjiphgpoifcaa.cnt st (next + 1) = Go.Proofs.Ytknjiphgpoifcaa.cnt st next + if st next = 2 then 1 else 0 := rfl
    simp only [h2] at h1 h4
    simp at h1 h4
    omega
  · by_cases e : m = next
    · simp only [upd, e, if_true] at h4; omega
    · simp only [upd, if_neg e, if_neg (show n ≠ next by omega)] at h3 h4
      exact h.key n m h1 (by omega) h3 h4
  · unfold sOf
    rw [live_next, List.map_append]
    congr 1
    · refine List.map_congr_left fun m hm => ?_
      have := (live_mem.1 hm).1
      simp only [upd, if_neg (show m ≠ next by omega)]
    · simp [upd]
theorem Inv.putE {o : Nat → Bool} {st : Nat → Nat} {next : Nat} : sPutE 8 (sOf o st next) (tkOf o next) = (if 8 ≤ (sOf o st next).length then 15 else 0) := by
  unfold sPutE
  have : (sOf o st next).any (fun e => e.1.cmd == (tkOf o next).cmd) = false := by
    simp only [sOf, List.any_map, List.any_eq_false]
    intro n hn
    have := (live_mem.1 hn).1
    simp [tkOf]; omega
  rw [this]
  rfl
theorem Inv.some_ready {o : Nat → Bool} {st : Nat → Nat} {next : Nat} (h : Inv o st next 0) (hs : 0 < (sOf o st next).length) : 0 < (sReady (sOf o st next)).length := by
  rw [sReady_length]
  have := readyS_ne (sOf o st next) (fun e => by rw [e] at hs; simp at hs) (fun e he => by
    obtain ⟨n, hn, rfl⟩ := List.mem_map.1 he
    have := cnt_zero st next h.cnt.symm n (live_mem.1 hn).1
    simpa using this)
  exact List.length_pos_iff.2 this
theorem eraseIdx_filter (L : List Nat) : ∀ (i n : Nat), L.Nodup → L[i]? = some n → L.eraseIdx i = L.filter fun m => m != n := by
  induction L with
  | nil => intro i n _ h; simp at h
  | cons x L ih =>
    intro i n hd h
    obtain ⟨h1, h2⟩ := List.nodup_cons.1 hd
    cases i with
    | zero =>
      simp at h
      subst h
      rw [List.filter_cons_of_neg (by simp)]
      refine (List.filter_eq_self.2 fun m hm => ?_).symm
      simp only [bne_iff_ne]
      rintro rfl
      exact h1 hm
    | succ i =>
      have h' : L[i]? = some n := by simpa using h
      have hx : x ≠ n := by rintro rfl; exact h1 (List.mem_of_getElem? h')
      rw [List.filter_cons_of_pos (by simpa using hx), List.eraseIdx_cons_succ, ih i n h2 h']
theorem Inv.done {o : Nat → Bool} {st : Nat → Nat} {next un n : Nat} (h : Inv o st next un) (hn : n < next) (h2 : st n = 2) : sDone (sOf o st next) n = (0, sOf o (upd st n 3) next) ∧ 0 < un ∧ Inv o (upd st n 3) next (un - 1) := by
  have hc := cnt_upd st n 3 next hn
  simp only [h2, if_true] at hc
  have hcc := h.cnt
  refine ⟨?_, by simp at hc; omega, ⟨h.le, fun m hm => ?_, fun m hm => ?_, by simp at hc; omega, fun m m' h1 h3 h4 h5 => ?_⟩⟩
  · have hm : n ∈ live st next := live_mem.2 ⟨hn, by omega⟩
    obtain ⟨i, hi, hh⟩ := List.getElem_of_mem hm
    have hfind : (sOf o st next).findIdx? (fun e => e.2 && e.1.cmd == (n : Int)) = some i := by
      rw [List.findIdx?_eq_some_iff_getElem]
      refine ⟨by simpa [sOf] using hi, by simp [sOf, hh, h2, tkOf], fun j hj => ?_⟩
      have hj' : j < (live st next).length := by omega
      have hlt : (live st next)[j] < (live st next)[i] := List.pairwise_iff_getElem.1 (live_sorted st next) j i hj' hi hj
      rw [hh] at hlt
      simp only [sOf, List.getElem_map, tkOf, Bool.not_eq_true, Bool.and_eq_false_imp, beq_iff_eq]
      intro _
      simp; omega
    have e : (sOf o st next).eraseIdx i = sOf o (upd st n 3) next := by
      have e1 : (live st next).eraseIdx i = live (upd st n 3) next := by
        rw [eraseIdx_filter _ i n (live_nodup st next) (by rw [List.getElem?_eq_getElem hi, hh])]
        unfold live
        rw [List.filter_filter]
        refine List.filter_congr fun m _ => ?_
        simp only [upd]
        split
        case isTrue e => simp [e]
        case isFalse e => simp [e]
      have emap : ∀ (L : List Nat) (i : Nat) (f : Nat → Tk × Bool), (L.map f).eraseIdx i = (L.eraseIdx i).map f := by
        intro L
        induction L with
        | nil => intro i f; rfl
        | cons x L ih => intro i f; cases i with
          | zero => rfl
          | succ i => simp only [List.map_cons, List.eraseIdx_cons_succ, ih]
      unfold sOf
      rw [emap, e1]
      refine List.map_congr_left fun m hm => ?_
      have := (live_mem.1 hm).2
      simp only [upd] at this ⊢
      split
      case isTrue e => rw [if_pos e] at this; exact absurd rfl this
      case isFalse e => rfl
    unfold sDone
    rw [hfind, ← e]
  · by_cases e : m = n
    · simp [upd, e]
    · simp only [upd, if_neg e]; exact h.rng m hm
  · simp only [upd, if_neg (show m ≠ n by omega)]; exact h.zero m hm
  · by_cases e : m' = n
    · subst e
      simp only [upd, if_neg (show m ≠ m' by omega)] at h4
      exact h.key m m' h1 h3 h4 (by omega)
    · by_cases e' : m = n
      · simp only [upd, if_pos e'] at h4; exact absurd rfl h4
      · simp only [upd, if_neg e, if_neg e'] at h4 h5
        exact h.key m m' h1 h3 h4 h5
theorem Inv.take {o : Nat → Bool} {st : Nat → Nat} {next un k : Nat} (h : Inv o st next un) (hk : k < (sReady (sOf o st next)).length) :
    ∃ n, n < next ∧ st n = 1 ∧ sTake (sOf o st next) k = (tkOf o n, 0, sOf o (upd st n 2) next) ∧ Inv o (upd st n 2) next (un + 1) ∧ (∀ m, m < n → st m ≠ 3 → o m = false ∧ o n = false) ∧ (∀ m, n < m → m < next → 2 ≤ st m → o m = false ∧ o n = false) := by
  obtain ⟨i, e, h1, h2, h3, h4, h5⟩ := sTake_yes _ k hk
  simp only [sOf, List.getElem?_map, Option.map_eq_some_iff] at h1
  obtain ⟨n, hi, rfl⟩ := h1
  have hmem := List.mem_of_getElem? hi
  obtain ⟨hn, hn3⟩ := live_mem.1 hmem
  have hr := h.rng n hn
  simp only [beq_eq_false_iff_ne, ne_eq] at h3
  have hst : st n = 1 := by omega
  obtain ⟨hil, hie⟩ := List.getElem?_eq_some_iff.1 hi
  have ahead : ∀ m, m < n → st m ≠ 3 → o m = false ∧ o n = false := by
    intro m hm hm3
    obtain ⟨j, hj, hje⟩ := List.getElem_of_mem (live_mem.2 ⟨Nat.lt_trans hm hn, hm3⟩ : m ∈ live st next)
    have hji : j < i := by
      rcases Nat.lt_trichotomy j i with h' | h' | h'
      · exact h'
      · subst h'; omega
      · have := List.pairwise_iff_getElem.1 (live_sorted st next) i j hil hj h'
        omega
    refine ⟨?_, ?_⟩
    · exact h5 j (tkOf o m, st m == 2) hji (by simp [sOf, List.getElem?_eq_getElem hj, hje])
    · cases ho : o n with
      | false => rfl
      | true => have := h4 ho; omega
  have hc := cnt_upd st n 2 next hn
  simp only [hst, if_true] at hc
  have hcc := h.cnt
  refine ⟨n, hn, hst, ?_, ⟨h.le, fun m hm => ?_, fun m hm => ?_, by simp at hc; omega, fun m m' g1 g3 g4 g5 => ?_⟩, ahead, fun m g1 g2 g3 => (h.key n m g1 g2 hn3 g3).symm⟩
  · rw [h2]
    have : (sOf o st next).set i ((tkOf o n, st n == 2).1, true) = sOf o (upd st n 2) next := by
      unfold sOf
      rw [live_upd st next n 2 hn3 (by omega)]
      apply List.ext_getElem
      · simp
      · intro j hj1 hj2
        have hjl : j < (live st next).length := by simpa using hj2
        rw [List.getElem_set]
        simp only [List.getElem_map]
        split
        case isTrue e => subst e; simp [hie, upd]
        case isFalse e =>
          have hne : (live st next)[j] ≠ n := by
            intro he
            rcases Nat.lt_trichotomy j i with h' | h' | h'
            · have := List.pairwise_iff_getElem.1 (live_sorted st next) j i hjl hil h'
              omega
            · exact e h'.symm
            · have := List.pairwise_iff_getElem.1 (live_sorted st next) i j hil hjl h'
              omega
          simp only [upd, if_neg hne]
    rw [this]
  · by_cases e : m = n
    · simp [upd, e]
    · simp only [upd, if_neg e]; exact h.rng m hm
  · simp only [upd, if_neg (show m ≠ n by omega)]; exact h.zero m hm
  · by_cases e' : m = n
    · subst e'
      simp only [upd, if_neg (show m' ≠ m by omega)] at g5
      exact h.key m m' g1 g3 hn3 g5
    · by_cases e : m' = n
      · subst e
        simp only [upd, if_neg e'] at g4
        exact ahead m g1 g4
      · simp only [upd, if_neg e, if_neg e'] at g4 g5
        exact h.key m m' g1 g3 g4 g5
theorem rep_get (k n : Nat) (v : Value) (h : n < k) : (List.replicate k v).toArray[n]? = some v := by simp [h]
end Go.Proofs.Ytknjiphgpoifcaa
