/-
  The model: what tasks come to, in plain lists.
-/
import Derived.Test.YtmanldcohbegkaaMdWrite
namespace Go.Proofs.Ytmanldcohbegkaa
open Go.RowKit

structure Rp where
  cmd : Int
  tag : Int
  st : Int
  dn : Int
  data : List Nat
def unS (a : Int) (bl : List (Int × List Nat)) : Nat → List (Int × List Nat)
  | 0 => bl
  | n + 1 => dropAt (a + n) (unS a bl n)
def Mo.setVol (S : Mo) (i : Nat) (v : Vo) : Mo := { S with vols := S.vols.set i v }
def Mo.at (S : Mo) (id : Int) : Option (Nat × Vo) := (S.find id).bind fun i => S.vols[i]?.map fun v => (i, v)
def blockS (S : Mo) (t : Tk) (n : Nat) : (Nat × Int) × Mo :=
  match S.at t.vol with
  | none => ((n, 0), S)
  | some (i, v) =>
    if t.op = 3 then (((writeS v t.lba t.data n).2.1, (writeS v t.lba t.data n).2.2), S.setVol i { v with bl := (writeS v t.lba t.data n).1 })
    else ((n, 0), S.setVol i { v with bl := unS t.lba v.bl n })
def listS : List Vo → List Nat
  | [] => []
  | v :: l => fourB v.id.toNat ++ fourB v.size.toNat ++ listS l
def Mo.add (S : Mo) (v : Vo) : Mo := { vols := S.vols ++ [v], next := S.next + 1 }
def changeS (S : Mo) (t : Tk) : List Nat × Mo :=
  if t.op = 2 then (match S.at t.vol with | some (_, v) => readS v t.lba t.cnt.toNat | none => [], S)
  else if t.op = 6 then (fourB S.next.toNat, S.add ⟨S.next, t.siz, t.quo, []⟩)
  else if t.op = 7 then (match S.at t.vol with | some (_, v) => (fourB S.next.toNat, S.add ⟨S.next, v.size, v.quota, v.bl⟩) | none => ([], S))
  else if t.op = 8 then ([], match S.find t.vol with | some i => { S with vols := S.vols.eraseIdx i } | none => S)
  else if t.op = 9 then ([], match S.at t.vol with | some (i, v) => S.setVol i { v with size := t.siz } | none => S)
  else if t.op = 10 then (listS S.vols, S)
  else ([], S)
def isBlocks (op : Int) : Prop := op = 3 ∨ op = 2 ∨ op = 5
instance (op : Int) : Decidable (isBlocks op) := by unfold isBlocks; infer_instance
def beyondB (v : Vo) (t : Tk) : Bool := decide (t.lba < 0) || decide (v.size ≤ t.lba) || decide (v.size - t.lba < t.cnt)
def inUseB (v : Vo) (siz : Int) : Bool := v.bl.any fun p => decide (siz ≤ p.1)
def refuseS (S : Mo) (t : Tk) (lost : Bool) : Int :=
  if t.op < 1 ∨ 10 < t.op then 50
  else if t.op = 3 ∧ ((t.data.length : Int) % 64 ≠ 0 ∨ (t.data.length : Int) / 64 ≠ t.cnt) then 1
  else if t.op = 6 ∧ (sizedB t.siz = false ∨ t.quo < 0 ∨ 1048576 < t.quo) then 1
  else if S.at t.vol = none ∧ (isBlocks t.op ∨ t.op = 9 ∨ t.op = 7 ∨ t.op = 8) then 31
  else if isBlocks t.op ∧ (t.cnt < 1 ∨ 8 < t.cnt) then 1
  else if t.op = 9 ∧ sizedB t.siz = false then 1
  else if isBlocks t.op ∧ (S.at t.vol).any (fun q => beyondB q.2 t) = true then 34
  else if (t.op = 6 ∨ t.op = 7) ∧ 8 ≤ S.vols.length then 32
  else if (t.op = 6 ∨ t.op = 7) ∧ 1073741824 ≤ S.next then 15
  else if t.op = 9 ∧ lost = false ∧ (S.at t.vol).any (fun q => inUseB q.2 t.siz) = true then 33
  else 0
def doS (S : Mo) (t : Tk) (status done : Int) : Rp × Mo :=
  let bad := troubleB t.op status
  let lost := bad && decide (status ≠ 12)
  let r := refuseS S t lost
  if r ≠ 0 then (⟨t.cmd, t.tag, r, 0, []⟩, S)
  else if t.op = 3 ∨ t.op = 5 then
    let n := if lost then min (max done 0) t.cnt else t.cnt
    let q := blockS S t n.toNat
    (⟨t.cmd, t.tag, if bad ∧ q.1.2 = 0 then status else q.1.2, q.1.1, []⟩, q.2)
  else if lost then (⟨t.cmd, t.tag, status, 0, []⟩, S)
  else
    let q := changeS S t
    if bad then (⟨t.cmd, t.tag, status, 0, []⟩, q.2) else (⟨t.cmd, t.tag, 0, 0, q.1⟩, q.2)

theorem nodup_idx {α : Type} {f : α → Nat} {ps : List α} (h : (ps.map f).Nodup) {i j : Nat} {p q : α} (hp : ps[i]? = some p) (hq : ps[j]? = some q) (e : f p = f q) : i = j := by
  have h1 : (ps.map f)[i]? = some (f p) := by simp [hp]
  have h2 : (ps.map f)[j]? = some (f p) := by simp [hq, e]
  exact (List.getElem?_inj (List.getElem?_eq_some_iff.1 h1).1 h).1 (h1.trans h2.symm)
theorem ModelIs.setVol [Zs] {F : Nat → Prop} {w w' : World} {m : Nat} {rv : Value} {ps : List (Nat × Nat)} {S : Mo} (h : ModelIs w m rv ps S) {i : Nat} {p : Nat × Nat} (hp : ps[i]? = some p) {v' : Vo} (hv' : VolAt w' p.1 p.2 v') (k : Keeps F w w') (hF : ∀ x, F x → x = p.1 ∨ x = p.2) : ModelIs w' m rv ps (S.setVol i v') := by
  have hpm : p ∈ ps := List.mem_of_getElem? hp
  have hstr := fun (q : Nat × Nat) (hq : q ∈ ps) => h.volOf hq
  obtain ⟨_, v0, _, _, hv0⟩ := h.volOf hpm
  have hF5 : ∀ g cur, w.heap[g]? = some (.cells cur 5 (0, 0)) → ¬ F g := by
    intro g cur hc hFg
    rcases hF g hFg with rfl | rfl
    · have := hv0.str; unfold CellsAt at this; rw [this] at hc; simp at hc
    · exact hv0.map.notCells _ _ _ hc
  have hm : ¬ F m := by
    intro hFm
    rcases hF m hFm with e | e
    · have h1 := h.head; have h2 := hv0.str; unfold CellsAt at h1 h2; rw [e, h2] at h1; simp at h1
    · have h1 := h.head; unfold CellsAt at h1; rw [e] at h1; exact hv0.map.notCells _ _ _ h1
  have hr : ∀ g, rv.ownBlock = some g → ¬ F g := by
    intro g hg hFg
    obtain ⟨cur, hc⟩ := rowBlock h.row hg
    rcases hF g hFg with rfl | rfl
    · have h2 := hv0.str; unfold CellsAt at h2; rw [h2] at hc; simp at hc
    · exact hv0.map.notCells _ _ _ hc
  refine ⟨h.head.keeps k hm, k.owns h.row hr, by simp [Mo.setVol, h.len], ?_, h.ap1, h.ap2⟩
  intro j q u hq hu
  by_cases hij : j = i
  · subst hij
    rw [hp] at hq; cases hq
    have hlt : j < S.vols.length := by rw [← h.len]; exact (List.getElem?_eq_some_iff.1 hp).1
    simp [Mo.setVol, hlt] at hu
    subst hu; exact hv'
  · have hu2 : S.vols[j]? = some u := by
      simp only [Mo.setVol] at hu
      rw [List.getElem?_set_ne (Ne.symm hij)] at hu; exact hu
    have hvq := h.vol j q u hq hu2
    obtain ⟨hi1, hi2⟩ := List.getElem?_eq_some_iff.1 hp
    obtain ⟨hj1, hj2⟩ := List.getElem?_eq_some_iff.1 hq
    have n1 : q.1 ≠ p.1 := fun e => hij (nodup_idx h.ap1 hq hp e)
    have n2 : q.2 ≠ p.2 := fun e => hij (nodup_idx h.ap2 hq hp e)
    have n3 : q.1 ≠ p.2 := fun e => by have := hvq.str; unfold CellsAt at this; rw [e] at this; exact hv0.map.notCells _ _ _ this
    have n4 : q.2 ≠ p.1 := fun e => by have := hv0.str; unfold CellsAt at this; rw [← e] at this; exact hvq.map.notCells _ _ _ this
    exact hvq.keeps k (fun hx => by rcases hF _ hx with e | e; exact n1 e; exact n3 e) (fun hx => by rcases hF _ hx with e | e; exact n4 e; exact n2 e) hF5
theorem Mo.at_some {S : Mo} {id : Int} {i : Nat} {v : Vo} (h : S.at id = some (i, v)) : S.find id = some i ∧ S.vols[i]? = some v := by
  unfold Mo.at at h
  cases hf : S.find id with
  | none => rw [hf] at h; cases h
  | some j =>
    rw [hf] at h
    cases hv : S.vols[j]? with
    | none => simp [hv] at h
    | some u => simp [hv] at h; obtain ⟨rfl, rfl⟩ := h; exact ⟨rfl, hv⟩
theorem Mo.at_none {S : Mo} {id : Int} (h : S.at id = none) : S.find id = none := by
  unfold Mo.at at h
  cases hf : S.find id with
  | none => rfl
  | some j =>
    rw [hf] at h
    have hlt : j < S.vols.length := by
      unfold Mo.find at hf
      exact (List.findIdx?_eq_some_iff_findIdx_eq.1 hf).1
    simp [hlt] at h
end Go.Proofs.Ytmanldcohbegkaa
