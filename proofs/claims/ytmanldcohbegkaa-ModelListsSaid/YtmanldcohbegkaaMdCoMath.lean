/-
  The model's law on order: tasks of different volumes.
-/
import Derived.Test.YtmanldcohbegkaaMdTrMath
namespace Go.Proofs.Ytmanldcohbegkaa
open Go.RowKit

def ownOp (op : Int) : Prop := op = 2 ∨ op = 3 ∨ op = 5 ∨ op = 9
theorem Mo.find_setVol {S : Mo} {i : Nat} {v v' : Vo} (hv : S.vols[i]? = some v) (hid : v'.id = v.id) (id : Int) : (S.setVol i v').find id = S.find id := by
  have e : (S.setVol i v').vols.map (·.id) = S.vols.map (·.id) := by
    apply List.ext_getElem?
    intro j
    simp only [Mo.setVol, List.getElem?_map, List.getElem?_set]
    by_cases hj : i = j
    · subst hj
      have hlt := (List.getElem?_eq_some_iff.1 hv).1
      rw [if_pos rfl, if_pos hlt, hv]; simp [hid]
    · rw [if_neg hj]
  have k : ∀ l : List Vo, l.findIdx? (fun v => v.id == id) = (l.map (·.id)).findIdx? (fun x => x == id) := fun l => by rw [List.findIdx?_map]; rfl
  unfold Mo.find
  rw [k, k, e]
theorem Mo.at_id {S : Mo} {id : Int} {i : Nat} {v : Vo} (h : S.at id = some (i, v)) : v.id = id := by
  obtain ⟨h1, h2⟩ := Mo.at_some h
  unfold Mo.find at h1
  obtain ⟨hlt, hp, _⟩ := List.findIdx?_eq_some_iff_getElem.1 h1
  rw [List.getElem?_eq_getElem hlt] at h2
  injection h2 with h2
  rw [h2] at hp
  simpa using hp
theorem Mo.at_setVol {S : Mo} {a b : Int} {i : Nat} {v v' : Vo} (h : S.at a = some (i, v)) (hid : v'.id = v.id) (hab : a ≠ b) : (S.setVol i v').at b = S.at b := by
  have hv := (Mo.at_some h).2
  unfold Mo.at
  rw [Mo.find_setVol hv hid]
  cases hf : S.find b with
  | none => rfl
  | some j =>
    have hij : i ≠ j := by
      rintro rfl
      have : S.at b = some (i, v) := by unfold Mo.at; rw [hf]; simp [hv]
      exact hab ((Mo.at_id h).symm.trans (Mo.at_id this))
    simp only [Mo.setVol, Option.bind_some, List.getElem?_set_ne hij]
theorem Mo.setVol_self {S : Mo} {i : Nat} {v : Vo} (h : S.vols[i]? = some v) : S.setVol i v = S := by
  obtain ⟨hlt, e⟩ := List.getElem?_eq_some_iff.1 h
  unfold Mo.setVol
  have : S.vols.set i v = S.vols := by rw [← e]; exact List.set_getElem_self hlt
  rw [this]
theorem refuse_own {S R : Mo} {t : Tk} (ho : ownOp t.op) (h : S.at t.vol = R.at t.vol) : refuseS S t false = refuseS R t false := by
  have h6 : t.op ≠ 6 := by rcases ho with e | e | e | e <;> omega
  have h7 : t.op ≠ 7 := by rcases ho with e | e | e | e <;> omega
  unfold refuseS
  simp only [h, h6, h7, false_or, false_and, if_false]
/-- What a task of one volume comes to hangs on that volume alone. -/
theorem own_some {S : Mo} {t : Tk} (ho : ownOp t.op) {i : Nat} {v : Vo} (h : S.at t.vol = some (i, v)) :
    ∃ (q : Rp) (v' : Vo), v'.id = v.id ∧ ∀ R : Mo, R.at t.vol = some (i, v) → doS R t 0 0 = (q, R.setVol i v') := by
  by_cases hr : refuseS S t false = 0
  · by_cases h35 : t.op = 3 ∨ t.op = 5
    · obtain ⟨k, s, v', hid, hb⟩ : ∃ (k : Nat) (s : Int) (v' : Vo), v'.id = v.id ∧ ∀ R : Mo, R.at t.vol = some (i, v) → blockS R t t.cnt.toNat = ((k, s), R.setVol i v') := by
        by_cases h3 : t.op = 3
        · exact ⟨(writeS v t.lba t.data t.cnt.toNat).2.1, (writeS v t.lba t.data t.cnt.toNat).2.2, { v with bl := (writeS v t.lba t.data t.cnt.toNat).1 }, rfl, fun R hR => by unfold blockS; rw [hR]; simp only [h3, if_true]⟩
        · exact ⟨t.cnt.toNat, 0, { v with bl := unS t.lba v.bl t.cnt.toNat }, rfl, fun R hR => by unfold blockS; rw [hR]; simp only [h3, if_false]⟩
      refine ⟨⟨t.cmd, t.tag, s, k, []⟩, v', hid, fun R hR => ?_⟩
      rw [doS_form R t 0 0 false false (trouble0 _) rfl, refuse_own ho (hR.trans h.symm)]
      simp [hr, h35, hb R hR]
    · by_cases h2 : t.op = 2
      · refine ⟨⟨t.cmd, t.tag, 0, 0, readS v t.lba t.cnt.toNat⟩, v, rfl, fun R hR => ?_⟩
        rw [doS_form R t 0 0 false false (trouble0 _) rfl, refuse_own ho (hR.trans h.symm), Mo.setVol_self (Mo.at_some hR).2]
        have : changeS R t = (readS v t.lba t.cnt.toNat, R) := by unfold changeS; rw [if_pos h2, hR]
        simp [hr, h35, this]
      · have h9 : t.op = 9 := by
          rcases ho with e | e | e | e
          · exact absurd e h2
          · exact absurd (.inl e) h35
          · exact absurd (.inr e) h35
          · exact e
        refine ⟨⟨t.cmd, t.tag, 0, 0, []⟩, { v with size := t.siz }, rfl, fun R hR => ?_⟩
        rw [doS_form R t 0 0 false false (trouble0 _) rfl, refuse_own ho (hR.trans h.symm)]
        have : changeS R t = ([], R.setVol i { v with size := t.siz }) := by unfold changeS; simp [h9, hR]
        simp [hr, h35, this]
  · refine ⟨⟨t.cmd, t.tag, refuseS S t false, 0, []⟩, v, rfl, fun R hR => ?_⟩
    rw [doS_form R t 0 0 false false (trouble0 _) rfl, refuse_own ho (hR.trans h.symm), Mo.setVol_self (Mo.at_some hR).2]
    simp [hr]
theorem own_none {S : Mo} {t : Tk} (ho : ownOp t.op) (h : S.at t.vol = none) : ∃ q : Rp, ∀ R : Mo, R.at t.vol = none → doS R t 0 0 = (q, R) := by
  have hr : ∀ R : Mo, R.at t.vol = none → refuseS R t false ≠ 0 := by
    intro R hR e
    obtain ⟨i, v, h1⟩ := refuse_at e (by rcases ho with e | e | e | e <;> simp [isBlocks, e])
    rw [hR] at h1; cases h1
  refine ⟨⟨t.cmd, t.tag, refuseS S t false, 0, []⟩, fun R hR => ?_⟩
  rw [doS_form R t 0 0 false false (trouble0 _) rfl, refuse_own ho (hR.trans h.symm)]
  have := hr S h
  simp [this]
/-- Tasks of two volumes come to the same in either order, and are answered the same. -/
theorem own_comm (S : Mo) (a b : Tk) (ha : ownOp a.op) (hb : ownOp b.op) (hab : a.vol ≠ b.vol) :
    (doS S a 0 0).1 = (doS (doS S b 0 0).2 a 0 0).1 ∧ (doS (doS S a 0 0).2 b 0 0).1 = (doS S b 0 0).1 ∧ (doS (doS S a 0 0).2 b 0 0).2 = (doS (doS S b 0 0).2 a 0 0).2 := by
  cases hA : S.at a.vol with
  | none =>
    obtain ⟨qa, fa⟩ := own_none ha hA
    cases hB : S.at b.vol with
    | none =>
      obtain ⟨qb, fb⟩ := own_none hb hB
      simp only [fa S hA, fb S hB, and_self]
    | some p =>
      obtain ⟨j, u⟩ := p
      obtain ⟨qb, u', hid, fb⟩ := own_some hb hB
      simp only [fa S hA, fb S hB, fa _ ((Mo.at_setVol hB hid (Ne.symm hab)).trans hA), and_self]
  | some p =>
    obtain ⟨i, v⟩ := p
    obtain ⟨qa, v', hida, fa⟩ := own_some ha hA
    cases hB : S.at b.vol with
    | none =>
      obtain ⟨qb, fb⟩ := own_none hb hB
      simp only [fa S hA, fb S hB, fb _ ((Mo.at_setVol hA hida hab).trans hB), and_self]
    | some p =>
      obtain ⟨j, u⟩ := p
      obtain ⟨qb, u', hidb, fb⟩ := own_some hb hB
      have hij : i ≠ j := by
        rintro rfl
        have h1 := (Mo.at_some hA).2
        have h2 := (Mo.at_some hB).2
        rw [h1] at h2; injection h2 with h2
        exact hab ((Mo.at_id hA).symm.trans (by rw [h2]; exact Mo.at_id hB))
      simp only [fa S hA, fb S hB, fb _ ((Mo.at_setVol hA hida hab).trans hB), fa _ ((Mo.at_setVol hB hidb (Ne.symm hab)).trans hA)]
      refine ⟨trivial, trivial, ?_⟩
      unfold Mo.setVol
      dsimp only
      congr 1
      apply List.ext_getElem?
      intro x
      simp only [List.getElem?_set, List.length_set]
      by_cases h1 : i = x
      · subst h1
        have : ¬ j = i := fun e => hij e.symm
        simp [this]
      · simp [h1]
/-- A read changes nothing. -/
theorem read_still (S : Mo) (t : Tk) (h2 : t.op = 2) : (doS S t 0 0).2 = S := by
  rw [doS_form S t 0 0 false false (trouble0 _) rfl]
  have : (changeS S t).2 = S := by unfold changeS; rw [if_pos h2]
  by_cases hr : refuseS S t false = 0
  · simp [hr, h2, this]
  · simp [hr]
end Go.Proofs.Ytmanldcohbegkaa
