/-
  The model: what is true of all states; what no refusal says.
-/
import Derived.Test.YtmanldcohbegkaaMdSpec
namespace Go.Proofs.Ytmanldcohbegkaa
open Go.RowKit

/-- What is true of all states that are reached. -/
structure Good (S : Mo) : Prop where
  len : S.vols.length ≤ 8
  next0 : 1 ≤ S.next
  next1 : S.next ≤ 1073741824
  ids : ∀ v ∈ S.vols, 1 ≤ v.id ∧ v.id < S.next
  size : ∀ v ∈ S.vols, 1 ≤ v.size ∧ v.size ≤ 1048576
  quota : ∀ v ∈ S.vols, 0 ≤ v.quota ∧ v.quota ≤ 1048576
  rise : S.vols.Pairwise fun a b => a.id < b.id
  room : ∀ v ∈ S.vols, (v.bl.length : Int) ≤ v.quota
  keys : ∀ v ∈ S.vols, (v.bl.map (·.1)).Nodup
  full : ∀ v ∈ S.vols, VoOk v

theorem refuse_at {S : Mo} {t : Tk} {lost : Bool} (h : refuseS S t lost = 0) (hop : isBlocks t.op ∨ t.op = 9 ∨ t.op = 7 ∨ t.op = 8) : ∃ i v, S.at t.vol = some (i, v) := by
  cases hat : S.at t.vol with
  | some q => exact ⟨q.1, q.2, rfl⟩
  | none =>
    exfalso
    unfold refuseS at h
    split at h
    · cases h
    split at h
    · cases h
    split at h
    · cases h
    rw [if_pos ⟨hat, hop⟩] at h
    cases h
theorem refuse_blocks {S : Mo} {t : Tk} {lost : Bool} (h : refuseS S t lost = 0) (hop : isBlocks t.op) : ∃ i v, S.at t.vol = some (i, v) ∧ 1 ≤ t.cnt ∧ t.cnt ≤ 8 ∧ 0 ≤ t.lba ∧ t.lba < v.size ∧ t.cnt ≤ v.size - t.lba := by
  obtain ⟨i, v, hat⟩ := refuse_at h (.inl hop)
  refine ⟨i, v, hat, ?_⟩
  unfold refuseS at h
  split at h
  · cases h
  split at h
  · cases h
  split at h
  · cases h
  split at h
  · cases h
  split at h
  · cases h
  next h5 =>
  split at h
  · cases h
  split at h
  · cases h
  next h7 =>
  have c1 : ¬ (t.cnt < 1 ∨ 8 < t.cnt) := fun hc => h5 ⟨hop, hc⟩
  have c2 : ¬ beyondB v t = true := fun hc => h7 ⟨hop, by rw [hat]; exact hc⟩
  simp [beyondB] at c2
  omega
theorem refuse_data {S : Mo} {t : Tk} {lost : Bool} (h : refuseS S t lost = 0) (hop : t.op = 3) : (t.data.length : Int) = t.cnt * 64 := by
  unfold refuseS at h
  split at h
  · cases h
  split at h
  · cases h
  next h2 =>
  have : ¬ ((t.data.length : Int) % 64 ≠ 0 ∨ (t.data.length : Int) / 64 ≠ t.cnt) := fun hc => h2 ⟨hop, hc⟩
  omega
theorem refuse_fresh {S : Mo} {t : Tk} {lost : Bool} (h : refuseS S t lost = 0) (hop : t.op = 6 ∨ t.op = 7) : S.vols.length ≤ 7 ∧ S.next < 1073741824 := by
  unfold refuseS at h
  split at h
  · cases h
  split at h
  · cases h
  split at h
  · cases h
  split at h
  · cases h
  split at h
  · cases h
  split at h
  · cases h
  split at h
  · cases h
  split at h
  · cases h
  next h8 =>
  split at h
  · cases h
  next h9 =>
  exact ⟨by have : ¬ 8 ≤ S.vols.length := fun hc => h8 ⟨hop, hc⟩; omega, by have : ¬ 1073741824 ≤ S.next := fun hc => h9 ⟨hop, hc⟩; omega⟩
theorem refuse_op {S : Mo} {t : Tk} {lost : Bool} (h : refuseS S t lost = 0) : 1 ≤ t.op ∧ t.op ≤ 10 := by
  unfold refuseS at h
  split at h
  · cases h
  next h1 => omega
end Go.Proofs.Ytmanldcohbegkaa
