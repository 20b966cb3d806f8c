/-
  The model's law on lists: what is made has the next ID; what a list's bytes tell.
-/
import Derived.Test.YtmanldcohbegkaaMdOwnOp
namespace Go.Proofs.Ytmanldcohbegkaa
open Go.RowKit

theorem refuse_not12 (S : Mo) (t : Tk) (lost : Bool) : refuseS S t lost ≠ 12 := by
  unfold refuseS
  repeat (split; · decide)
  decide
theorem block_next (S : Mo) (t : Tk) (n : Nat) : (blockS S t n).2.next = S.next := by
  unfold blockS
  split
  · rfl
  · split <;> rfl
theorem change_next {S : Mo} {t : Tk} (h6 : t.op ≠ 6) (h7 : t.op ≠ 7) : (changeS S t).2.next = S.next := by
  unfold changeS
  rw [if_neg h6, if_neg h7]
  repeat (first | rfl | split)
theorem ls_step (S : Mo) (t : Tk) (st dn : Int) :
    (((t.op = 6 ∨ t.op = 7) ∧ (doS S t st dn).1.st = 0 ∧ (doS S t st dn).1.data = fourB S.next.toNat ∧ (doS S t st dn).2.next = S.next + 1) ∨
     ((t.op = 6 ∨ t.op = 7) ∧ (doS S t st dn).1.st = 12 ∧ (doS S t st dn).2.next = S.next + 1) ∨
     ((t.op = 6 ∨ t.op = 7) ∧ (doS S t st dn).1.st ≠ 0 ∧ (doS S t st dn).1.st ≠ 12 ∧ (doS S t st dn).2.next = S.next) ∨
     (¬ (t.op = 6 ∨ t.op = 7) ∧ (doS S t st dn).2.next = S.next)) := by
  obtain ⟨bad, hb⟩ : ∃ bad, troubleB t.op st = bad := ⟨_, rfl⟩
  obtain ⟨lost, hl⟩ : ∃ lost, (bad && decide (st ≠ 12)) = lost := ⟨_, rfl⟩
  rw [doS_form S t st dn bad lost hb hl]
  by_cases hm : t.op = 6 ∨ t.op = 7
  · by_cases hr : refuseS S t lost = 0
    · rw [if_neg (by simpa using hr), if_neg (by omega)]
      cases hlo : lost
      · have hch : (changeS S t).1 = fourB S.next.toNat ∧ (changeS S t).2.next = S.next + 1 := by
          rcases hm with h6 | h7
          · unfold changeS
            rw [if_neg (by omega), if_pos h6]
            exact ⟨rfl, rfl⟩
          · obtain ⟨i, v, hat⟩ := refuse_at hr (.inr (.inr (.inl h7)))
            unfold changeS
            rw [if_neg (by omega), if_neg (by omega), if_pos h7, hat]
            exact ⟨rfl, rfl⟩
        cases hba : bad
        · exact .inl ⟨hm, rfl, hch.1, hch.2⟩
        · right; left
          rw [hba, hlo] at hl
          have : st = 12 := by simpa using hl
          exact ⟨hm, this, hch.2⟩
      · right; right; left
        rw [hlo] at hl
        have h12 : bad = true ∧ st ≠ 12 := by simpa using hl
        have h0 : st ≠ 0 := by
          rintro rfl
          rw [trouble0] at hb
          rw [← hb] at h12
          exact absurd h12.1 (by simp)
        exact ⟨hm, h0, h12.2, rfl⟩
    · rw [if_pos (by simpa using hr)]
      exact .inr (.inr (.inl ⟨hm, hr, refuse_not12 _ _ _, rfl⟩))
  · refine .inr (.inr (.inr ⟨hm, ?_⟩))
    split
    · rfl
    · split
      · exact block_next _ _ _
      · split
        · rfl
        · split
          · exact change_next (by omega) (by omega)
          · exact change_next (by omega) (by omega)
/-- Big-endian: n bytes from o on. -/
def decB (l : List Nat) (o : Nat) : Nat → Nat
  | 0 => 0
  | n + 1 => 256 * decB l o n + l.getD (o + n) 0
theorem decB_lt {l : List Nat} (hl : ∀ j, l.getD j 0 < 256) (o : Nat) : ∀ n, decB l o n < 256 ^ n
  | 0 => by simp [decB]
  | n + 1 => by
    have := decB_lt hl o n
    have := hl (o + n)
    simp only [decB, Nat.pow_succ]
    omega
theorem decB_small {l : List Nat} (hl : ∀ j, l.getD j 0 < 256) (o n : Nat) (hn : n ≤ 4) : decB l o n < 4294967296 := by
  have h := decB_lt hl o n
  have : 256 ^ n ≤ 256 ^ 4 := Nat.pow_le_pow_right (by omega) hn
  omega
theorem decB_four (l : List Nat) (o x : Nat) (hx : x < 4294967296) (h : ∀ j, j < 4 → l.getD (o + j) 0 = (fourB x).getD j 0) : decB l o 4 = x := by
  have h0 := h 0 (by omega)
  have h1 := h 1 (by omega)
  have h2 := h 2 (by omega)
  have h3 := h 3 (by omega)
  simp only [fourB, List.getD, List.getElem?_cons_zero, List.getElem?_cons_succ, Option.getD_some] at h0 h1 h2 h3
  simp only [decB, List.getD]
  rw [h0, h1, h2, h3]
  omega
theorem fourB_small {x : Nat} (hx : x < 4294967296) (j : Nat) : (fourB x).getD j 0 < 256 := by
  unfold fourB
  match j with
  | 0 => show x / 16777216 < 256; omega
  | 1 => show x / 65536 % 256 < 256; omega
  | 2 => show x / 256 % 256 < 256; omega
  | 3 => show x % 256 < 256; omega
  | j + 4 => simp [List.getD]
theorem listS_drop : ∀ (k : Nat) (l : List Vo), (listS l).drop (8 * k) = listS (l.drop k)
  | 0, l => rfl
  | k + 1, [] => by simp [listS]
  | k + 1, v :: l => by
    have e : 8 * (k + 1) = 8 * k + 8 := by omega
    rw [e, List.drop_succ_cons, ← listS_drop k l]
    simp only [listS, fourB, List.cons_append, List.nil_append, List.drop_succ_cons]
theorem listS_at {l : List Vo} {k : Nat} {v : Vo} (h : l[k]? = some v) (j : Nat) (hj : j < 4) : (listS l).getD (8 * k + j) 0 = (fourB v.id.toNat).getD j 0 ∧ (listS l).getD (8 * k + 4 + j) 0 = (fourB v.size.toNat).getD j 0 := by
  obtain ⟨hk, hv⟩ := List.getElem?_eq_some_iff.1 h
  have hd : l.drop k = v :: l.drop (k + 1) := by rw [← hv]; exact List.drop_eq_getElem_cons hk
  have g : ∀ i, (listS l).getD (8 * k + i) 0 = (listS (l.drop k)).getD i 0 := fun i => by
    rw [← listS_drop]
    simp [List.getD, List.getElem?_drop]
  rw [g, Nat.add_assoc, g, hd]
  match j, hj with
  | 0, _ => exact ⟨rfl, rfl⟩
  | 1, _ => exact ⟨rfl, rfl⟩
  | 2, _ => exact ⟨rfl, rfl⟩
  | 3, _ => exact ⟨rfl, rfl⟩
theorem listS_small : ∀ (l : List Vo), (∀ v ∈ l, v.id < 4294967296 ∧ v.size < 4294967296) → ∀ x ∈ listS l, x < 256
  | [], _, x, hx => by simp [listS] at hx
  | v :: l, h, x, hx => by
    have hv := h v (by simp)
    simp only [listS, List.mem_append] at hx
    have key : ∀ n : Nat, n < 4294967296 → x ∈ fourB n → x < 256 := fun n hn hm => by
      simp only [fourB, List.mem_cons, List.not_mem_nil, or_false] at hm
      omega
    rcases hx with (hx | hx) | hx
    · exact key _ (by omega) hx
    · exact key _ (by omega) hx
    · exact listS_small l (fun u hu => h u (by simp [hu])) x hx
theorem small_getD {l : List Nat} (h : ∀ x ∈ l, x < 256) (j : Nat) : l.getD j 0 < 256 := by
  by_cases hj : j < l.length
  · have : l.getD j 0 = l[j] := by simp [List.getD, hj]
    rw [this]
    exact h _ (List.getElem_mem hj)
  · simp [List.getD, hj]
/-- The list's bytes of a good state. -/
structure Told (S : Mo) (k : Nat) (v : Vo) : Prop where
  id : decB (listS S.vols) (8 * k) 4 = v.id.toNat
  size : decB (listS S.vols) (8 * k + 4) 4 = v.size.toNat
  id0 : 1 ≤ v.id
  id1 : v.id < S.next
  size0 : 1 ≤ v.size
  room : (v.bl.length : Int) ≤ v.quota
  rise : ∀ u, 0 < k → S.vols[k - 1]? = some u → u.id < v.id
theorem Good.small {S : Mo} (h : Good S) : ∀ x ∈ listS S.vols, x < 256 :=
  listS_small _ (fun v hv => by have := h.ids v hv; have := h.size v hv; have := h.next1; omega)
theorem Good.told {S : Mo} (h : Good S) {k : Nat} {v : Vo} (hk : S.vols[k]? = some v) : Told S k v := by
  have hv := List.mem_of_getElem? hk
  have h1 := h.ids v hv
  have h2 := h.size v hv
  have h3 := h.next1
  refine ⟨decB_four _ _ _ (by omega) (fun j hj => (listS_at hk j hj).1), decB_four _ _ _ (by omega) (fun j hj => (listS_at hk j hj).2), h1.1, h1.2, h2.1, h.room v hv, fun u h0 hu => ?_⟩
  obtain ⟨hi, ei⟩ := List.getElem?_eq_some_iff.1 hu
  obtain ⟨hj, ej⟩ := List.getElem?_eq_some_iff.1 hk
  have := List.pairwise_iff_getElem.1 h.rise (k - 1) k hi hj (by omega)
  rw [ei, ej] at this
  exact this
theorem list_told {S : Mo} : doS S ⟨0, 0, 10, false, false, 0, 0, 0, 0, 0, []⟩ 0 0 = (⟨0, 0, 0, 0, listS S.vols⟩, S) := by
  rw [doS_form S _ 0 0 false false (trouble0 _) rfl]
  have hr : refuseS S ⟨0, 0, 10, false, false, 0, 0, 0, 0, 0, []⟩ false = 0 := by
    unfold refuseS
    simp [isBlocks]
  rw [hr]
  simp [changeS]
theorem ls_bools {S Sq : Mo} {t : Tk} {sq : Int} {dq : List Nat}
    (h : ((t.op = 6 ∨ t.op = 7) ∧ sq = 0 ∧ dq = fourB S.next.toNat ∧ Sq.next = S.next + 1) ∨ ((t.op = 6 ∨ t.op = 7) ∧ sq = 12 ∧ Sq.next = S.next + 1) ∨ ((t.op = 6 ∨ t.op = 7) ∧ sq ≠ 0 ∧ sq ≠ 12 ∧ Sq.next = S.next) ∨ (¬ (t.op = 6 ∨ t.op = 7) ∧ Sq.next = S.next))
    (mb cb db : Bool) (g0 g1 : Int) (hm : mb = decide (t.op = 6 ∨ t.op = 7)) (hc : cb = (mb && (sq == 0))) (hd : db = ((sq == 12) && mb)) (h0 : g0 = S.next - 1) (h1 : g1 = if cb = true then S.next else g0) :
    (cb = true → dq = fourB S.next.toNat) ∧ (db = false → g1 = Sq.next - 1) ∧ (db = true → g1 + 1 = Sq.next - 1) := by
  rcases h with ⟨ho, rfl, hq, hn⟩ | ⟨ho, rfl, hn⟩ | ⟨ho, n0, n12, hn⟩ | ⟨ho, hn⟩
  · have : mb = true := by rw [hm]; simpa using ho
    subst this
    have hcb : cb = true := by rw [hc]; rfl
    have hdb : db = false := by rw [hd]; rfl
    rw [hcb, if_pos rfl] at h1
    rw [hdb]
    exact ⟨fun _ => hq, fun _ => by omega, fun e => (by cases e)⟩
  · have : mb = true := by rw [hm]; simpa using ho
    subst this
    have hcb : cb = false := by rw [hc]; rfl
    have hdb : db = true := by rw [hd]; rfl
    rw [hcb, if_neg (by simp)] at h1
    rw [hdb, hcb]
    exact ⟨fun e => (by cases e), fun e => (by cases e), fun _ => by omega⟩
  · have hcb : cb = false := by rw [hc]; simp [n0]
    have hdb : db = false := by rw [hd]; simp [n12]
    rw [hcb, if_neg (by simp)] at h1
    rw [hdb, hcb]
    exact ⟨fun e => (by cases e), fun _ => by omega, fun e => (by cases e)⟩
  · have : mb = false := by rw [hm]; simpa using ho
    subst this
    have hcb : cb = false := by rw [hc]; rfl
    have hdb : db = false := by rw [hd]; simp
    rw [hcb, if_neg (by simp)] at h1
    rw [hdb, hcb]
    exact ⟨fun e => (by cases e), fun _ => by omega, fun e => (by cases e)⟩
end Go.Proofs.Ytmanldcohbegkaa
