/-
  A map of blocks: its entries as a list; looked up, stored, deleted.
-/
import Derived.Test.YtmanldcohbegkaaMem
import Derived.MapKept
namespace Go.Proofs.Ytmanldcohbegkaa
open Go.RowKit Go.MapKept
set_option linter.unusedVariables false
set_option linter.unusedSimpArgs false

/-- The entry at a key: its place and its element. -/
def findAt {β : Type} (k : Int) : List (Int × β) → Nat → Option (Nat × β)
  | [], _ => none
  | p :: l, i => if k = p.1 then some (i, p.2) else findAt k l (i + 1)
def putAt {β : Type} (k : Int) (v : β) : List (Int × β) → List (Int × β)
  | [] => [(k, v)]
  | p :: l => if k = p.1 then (k, v) :: l else p :: putAt k v l
def dropAt {β : Type} (k : Int) : List (Int × β) → List (Int × β)
  | [] => []
  | p :: l => if k = p.1 then l else p :: dropAt k l
def getAt {β : Type} (k : Int) (l : List (Int × β)) : Option β := (findAt k l 0).map (·.2)
/-- The entries' stamps: all below the clock, no two the same. -/
def Stamps (es : Array MapEntry) (clock : Nat) : Prop := (∀ x ∈ es.toList, x.born < clock) ∧ (es.toList.map (·.born)).Nodup
theorem Stamps.nil : Stamps #[] 0 := ⟨fun x hx => by simp at hx, by simp⟩
theorem Stamps.push {es : Array MapEntry} {clock : Nat} (h : Stamps es clock) (e : MapEntry) (he : e.born = clock) : Stamps (es.push e) (clock + 1) := by
  refine ⟨fun x hx => ?_, ?_⟩
  · simp at hx
    rcases hx with hx | rfl
    · have := h.1 x (by simpa using hx); omega
    · omega
  · rw [Array.toList_push, List.map_append, List.nodup_append]
    refine ⟨h.2, by simp, fun a ha b hb e1 => ?_⟩
    simp at hb
    obtain ⟨x, hx, rfl⟩ := List.mem_map.1 ha
    have := h.1 x hx
    omega
theorem Stamps.same {es es' : Array MapEntry} {clock : Nat} (h : Stamps es clock) (e : es'.toList.map (·.born) = es.toList.map (·.born)) : Stamps es' clock := by
  refine ⟨fun x hx => ?_, by rw [e]; exact h.2⟩
  have h1 : x.born ∈ es'.toList.map (·.born) := List.mem_map.2 ⟨x, hx, rfl⟩
  rw [e] at h1
  obtain ⟨y, hy, e2⟩ := List.mem_map.1 h1
  rw [← e2]; exact h.1 y hy
theorem Stamps.sub {es es' : Array MapEntry} {clock : Nat} (h : Stamps es clock) (e : es'.toList.Sublist es.toList) : Stamps es' clock :=
  ⟨fun x hx => h.1 x (e.subset hx), (e.map _).nodup h.2⟩
/-- Block b is a map of these entries, in this order. -/
def MapIs (w : World) (b : Nat) (l : List (Int × Value)) : Prop := ∃ es clock, w.heap[b]? = some (.map es clock) ∧ (es.toList.map (fun e => (e.key, e.val)) = l.map fun p => (Value.int .i64 p.1, p.2)) ∧ Stamps es clock
theorem findNow_int (k : Int) : ∀ (es : List MapEntry) (l : List (Int × Value)) (i : Nat), es.map (fun e => (e.key, e.val)) = l.map (fun p => (Value.int .i64 p.1, p.2)) → Instr.findNow (.int .i64) (.int .i64 k) es i = some (findAt k l i) := by
  intro es
  induction es with
  | nil =>
    intro l i h
    obtain rfl : l = [] := by simpa using h.symm
    rfl
  | cons e es ih =>
    intro l i h
    cases l with
    | nil => simp at h
    | cons p l =>
      simp only [List.map_cons, List.cons.injEq, Prod.mk.injEq] at h
      obtain ⟨⟨h1, h2⟩, h3⟩ := h
      have hs : Instr.sameNow (.int .i64) (.int .i64 k) (.int .i64 p.1) = some (k == p.1) := by simp [Instr.sameNow]
      unfold Instr.findNow
      rw [h1, hs, h2]
      by_cases hk : k = p.1
      · have hb : (k == p.1) = true := by rw [beq_iff_eq]; exact hk
        rw [hb]
        simp [findAt, hk]
      · have hb : (k == p.1) = false := by rw [beq_eq_false_iff_ne]; exact hk
        rw [hb]
        simp only [findAt, if_neg hk]
        exact ih l (i + 1) h3
theorem run_find {w : World} {k : Int} {es : Array MapEntry} {l : List (Int × Value)} (h : es.toList.map (fun e => (e.key, e.val)) = l.map fun p => (Value.int .i64 p.1, p.2)) :
    (Instr.findKey 3 (.int .i64 k) es.toList).run Try.prog w = .ok (findAt k l 0) w :=
  run_findKey Try.underlying3 (findNow_int k es.toList l 0 h)
theorem findAt_some {β : Type} (k : Int) : ∀ (l : List (Int × β)) (s i : Nat) (v : β), findAt k l s = some (i, v) → s ≤ i ∧ l[i - s]? = some (k, v) ∧ (∀ u, putAt k u l = l.set (i - s) (k, u)) ∧ dropAt k l = l.eraseIdx (i - s)
  | [], s, i, v, h => by cases h
  | p :: l, s, i, v, h => by
    unfold findAt at h
    by_cases hk : k = p.1
    · rw [if_pos hk] at h
      injection h with h
      injection h with h1 h2
      subst h1 h2
      rw [Nat.sub_self]
      refine ⟨Nat.le_refl _, by rw [hk]; rfl, fun u => by simp [putAt, hk], by simp [dropAt, hk]⟩
    · rw [if_neg hk] at h
      obtain ⟨h1, h2, h3, h4⟩ := findAt_some k l (s + 1) i v h
      have e : i - s = (i - (s + 1)) + 1 := by omega
      rw [e]
      refine ⟨by omega, by simpa using h2, fun u => by simp [putAt, hk, h3 u], by simp [dropAt, hk, h4]⟩
theorem findAt_none {β : Type} (k : Int) : ∀ (l : List (Int × β)) (s : Nat), findAt k l s = none → (∀ u, putAt k u l = l ++ [(k, u)]) ∧ dropAt k l = l
  | [], s, h => ⟨fun u => rfl, rfl⟩
  | p :: l, s, h => by
    unfold findAt at h
    by_cases hk : k = p.1
    · rw [if_pos hk] at h; cases h
    · rw [if_neg hk] at h
      obtain ⟨h1, h2⟩ := findAt_none k l (s + 1) h
      exact ⟨fun u => by simp [putAt, hk, h1 u], by simp [dropAt, hk, h2]⟩
theorem findAt_map {α β : Type} (f : α → β) (k : Int) : ∀ (l : List (Int × α)) (i : Nat), findAt k (l.map fun p => (p.1, f p.2)) i = (findAt k l i).map fun q => (q.1, f q.2)
  | [], _ => rfl
  | p :: l, i => by
    simp only [List.map_cons, findAt]
    by_cases hk : k = p.1
    · simp [hk]
    · simp only [hk, if_false]; exact findAt_map f k l (i + 1)
theorem getAt_map {α β : Type} (f : α → β) (k : Int) (l : List (Int × α)) : getAt k (l.map fun p => (p.1, f p.2)) = (getAt k l).map f := by
  unfold getAt; rw [findAt_map]; cases findAt k l 0 <;> rfl
theorem putAt_map {α β : Type} (f : α → β) (k : Int) (v : α) : ∀ (l : List (Int × α)), putAt k (f v) (l.map fun p => (p.1, f p.2)) = (putAt k v l).map fun p => (p.1, f p.2)
  | [] => rfl
  | p :: l => by
    simp only [List.map_cons, putAt]
    by_cases hk : k = p.1
    · simp [hk]
    · simp only [hk, if_false, List.map_cons]; rw [putAt_map f k v l]
theorem dropAt_map {α β : Type} (f : α → β) (k : Int) : ∀ (l : List (Int × α)), dropAt k (l.map fun p => (p.1, f p.2)) = (dropAt k l).map fun p => (p.1, f p.2)
  | [] => rfl
  | p :: l => by
    simp only [List.map_cons, dropAt]
    by_cases hk : k = p.1
    · simp [hk]
    · simp only [hk, if_false, List.map_cons]; rw [dropAt_map f k l]
theorem findAt_shift {α : Type} (k : Int) : ∀ (l : List (Int × α)) (i : Nat), (findAt k l (i + 1)) = (findAt k l i).map fun q => (q.1 + 1, q.2)
  | [], _ => rfl
  | p :: l, i => by
    unfold findAt
    by_cases hk : k = p.1
    · simp [hk]
    · simp only [hk, if_false]; exact findAt_shift k l (i + 1)
theorem getAt_cons {α : Type} (k : Int) (p : Int × α) (l : List (Int × α)) : getAt k (p :: l) = if k = p.1 then some p.2 else getAt k l := by
  unfold getAt; rw [findAt]
  by_cases hk : k = p.1
  · simp [hk]
  · simp only [hk, if_false]; rw [findAt_shift]; cases findAt k l 0 <;> rfl
theorem getAt_mem {α : Type} (k : Int) : ∀ (l : List (Int × α)) (v : α), getAt k l = some v → (k, v) ∈ l
  | [], v, h => by cases h
  | p :: l, v, h => by
    rw [getAt_cons] at h
    by_cases hk : k = p.1
    · rw [if_pos hk] at h; injection h with h; subst h; rw [hk]; exact List.mem_cons_self ..
    · rw [if_neg hk] at h; exact List.mem_cons_of_mem _ (getAt_mem k l v h)
theorem mem_putAt {α : Type} (k : Int) (v : α) : ∀ (l : List (Int × α)) (p : Int × α), p ∈ putAt k v l → p = (k, v) ∨ p ∈ l
  | [], p, h => by simpa [putAt] using h
  | q :: l, p, h => by
    unfold putAt at h
    by_cases hk : k = q.1
    · rw [if_pos hk] at h
      rcases List.mem_cons.1 h with h | h
      · exact .inl h
      · exact .inr (List.mem_cons_of_mem _ h)
    · rw [if_neg hk] at h
      rcases List.mem_cons.1 h with h | h
      · exact .inr (by rw [h]; exact List.mem_cons_self ..)
      · rcases mem_putAt k v l p h with h | h
        · exact .inl h
        · exact .inr (List.mem_cons_of_mem _ h)
theorem mem_dropAt {α : Type} (k : Int) : ∀ (l : List (Int × α)) (p : Int × α), p ∈ dropAt k l → p ∈ l
  | [], p, h => by simp [dropAt] at h
  | q :: l, p, h => by
    unfold dropAt at h
    by_cases hk : k = q.1
    · rw [if_pos hk] at h; exact List.mem_cons_of_mem _ h
    · rw [if_neg hk] at h
      rcases List.mem_cons.1 h with h | h
      · rw [h]; exact List.mem_cons_self ..
      · exact List.mem_cons_of_mem _ (mem_dropAt k l p h)
theorem zero_bytes (w : World) : (zeroValue 28).run Try.prog w = .ok (.slice none 0 0) w := by kernel_rfl
theorem born_modify (es : Array MapEntry) (i : Nat) (f : MapEntry → MapEntry) (hf : ∀ e, (f e).born = e.born) : (es.modify i f).toList.map (·.born) = es.toList.map (·.born) := by
  rw [Array.toList_modify]
  apply List.ext_getElem?
  intro j
  rw [List.getElem?_map, List.getElem?_map, List.getElem?_modify]
  cases es.toList[j]? with
  | none => simp
  | some e => by_cases h : i = j <;> simp [h, hf]
theorem run_look {w : World} {b : Nat} {l : List (Int × Value)} (h : MapIs w b l) (k : Int) (ok : Bool) :
    (Instr.lookup 64 (.map (some b)) (.int .i64 k) ok).run Try.prog w = .ok (if ok then .tuple #[(getAt k l).getD (.slice none 0 0), .bool (getAt k l).isSome] else (getAt k l).getD (.slice none 0 0)) w := by
  obtain ⟨es, clock, hb, he, hst0⟩ := h
  have hc := fun e => run_checkKey (P := Try.prog) (w := w) (k := .int .i64 k) Try.underlying3 (by simp [IsKey]) e 9999
  have hf := run_find (w := w) (k := k) he
  unfold Instr.lookup getAt
  simp only [Sem.run_bind, run_underlying Try.underlying64, Result.andThen_ok, MapKept.run_getObj_map hb, Sem.run_pure, hc, hf]
  cases hfi : findAt k l 0 with
  | none => cases ok <;> simp [zero_bytes, Result.andThen]
  | some q => cases ok <;> simp [Result.andThen]
theorem map_erase {α β : Type} (f : α → β) : ∀ (l : List α) (i : Nat), (l.eraseIdx i).map f = (l.map f).eraseIdx i
  | [], _ => rfl
  | _ :: _, 0 => rfl
  | x :: l, i + 1 => by simp [map_erase f l i]
theorem keeps_heap {w : World} {b : Nat} {o o' : Obj} (hb : w.heap[b]? = some o) : Keeps (· = b) w { w with heap := w.heap.setIfInBounds b o' } :=
  ⟨rfl, rfl, rfl, by simp, fun k _ hk => by
    show (w.heap.setIfInBounds b o')[k]? = _
    exact (heap_set hb).2 k hk⟩
theorem run_drop {w : World} {b : Nat} {l : List (Int × Value)} (h : MapIs w b l) (k : Int) (ty : TypeId) :
    ∃ w', (Builtin.delete_ #[64, 3] ty #[.map (some b), .int .i64 k]).run Try.prog w = .ok (.tuple #[]) w' ∧ MapIs w' b (dropAt k l) ∧ Keeps (· = b) w w' ∧ w'.heap.size = w.heap.size := by
  obtain ⟨es, clock, hb, he, hst0⟩ := h
  have hc := fun e => run_checkKey (P := Try.prog) (w := w) (k := .int .i64 k) Try.underlying3 (by simp [IsKey]) e 9999
  have hf := run_find (w := w) (k := k) he
  unfold Builtin.delete_
  simp only [List.getElem?_toArray, List.getElem?_cons_zero, List.getElem?_cons_succ, Sem.run_bind, run_underlying Try.underlying64, Result.andThen_ok, MapKept.run_getObj_map hb, Sem.run_pure, hc, hf]
  cases hfi : findAt k l 0 with
  | none =>
    simp only [Sem.run_bind, Sem.run_pure, MapKept.run_setObj_map _ hb, Result.andThen_ok]
    refine ⟨_, rfl, ⟨es, clock, (heap_set hb).1, by rw [(findAt_none k l 0 hfi).2]; exact he, hst0⟩, keeps_heap hb, by simp⟩
  | some q =>
    obtain ⟨i, v⟩ := q
    obtain ⟨_, hli, _, hd⟩ := findAt_some k l 0 i v hfi
    rw [Nat.sub_zero] at hli hd
    simp only [Sem.run_bind, Sem.run_pure, MapKept.run_setObj_map _ hb, Result.andThen_ok]
    have hil : i < es.size := by
      have h1 := congrArg List.length he
      have h2 := (List.getElem?_eq_some_iff.1 hli).1
      simp at h1
      omega
    refine ⟨_, rfl, ⟨_, clock, (heap_set hb).1, ?_, hst0.sub (by simp only [Array.eraseIdxIfInBounds, hil, dite_true, Array.toList_eraseIdx]; exact List.eraseIdx_sublist _ _)⟩, keeps_heap hb, by simp⟩
    rw [hd]
    simp only [Array.eraseIdxIfInBounds, hil, dite_true, Array.toList_eraseIdx]
    rw [map_erase, he, map_erase]
theorem sameBits_int (n : Nat) (k : Int) : Instr.sameBits n (.int .i64 k) (.int .i64 k) = true := by cases n <;> simp [Instr.sameBits]
set_option maxRecDepth 100000 in
theorem run_put {w : World} {b : Nat} {l : List (Int × Value)} (h : MapIs w b l) (k : Int) (v : Value) :
    ∃ w', (Instr.mapUpdate 64 (.map (some b)) (.int .i64 k) v).run Try.prog w = .ok () w' ∧ MapIs w' b (putAt k v l) ∧ Keeps (· = b) w w' ∧ w'.heap.size = w.heap.size := by
  obtain ⟨es, clock, hb, he, hst0⟩ := h
  have hc := fun e => run_checkKey (P := Try.prog) (w := w) (k := .int .i64 k) Try.underlying3 (by simp [IsKey]) e 9999
  have hf := run_find (w := w) (k := k) he
  unfold Instr.mapUpdate
  simp only [Sem.run_bind, run_underlying Try.underlying64, Result.andThen_ok, MapKept.run_getObj_map hb, Sem.run_pure, hc, hf]
  cases hfi : findAt k l 0 with
  | none =>
    simp only [MapKept.run_setObj_map _ hb]
    refine ⟨_, rfl, ⟨_, _, (heap_set hb).1, ?_, hst0.push _ rfl⟩, keeps_heap hb, by simp⟩
    rw [(findAt_none k l 0 hfi).1 v]
    simp [he]
  | some q =>
    obtain ⟨i, v0⟩ := q
    obtain ⟨_, hli, hp, _⟩ := findAt_some k l 0 i v0 hfi
    rw [Nat.sub_zero] at hli
    have hil : i < es.size := by
      have h1 := congrArg List.length he
      have h2 := (List.getElem?_eq_some_iff.1 hli).1
      simp at h1
      omega
    have hkey : es[i].key = .int .i64 k := by
      have h1 := congrArg (fun x => x[i]?) he
      simp only [List.getElem?_map, hli, Option.map_some] at h1
      rw [show es.toList[i]? = some es[i] by simp [hil]] at h1
      injection h1 with h1
      injection h1 with h1 h2
    have hst : (Instr.keyThatStays (((es[i]?).map (·.key)).getD (.int .i64 k)) (.int .i64 k)).run Try.prog w = .ok (.int .i64 k) w := by
      have e1 : ((es[i]?).map (·.key)).getD (.int .i64 k) = .int .i64 k := by rw [Array.getElem?_eq_getElem hil]; exact hkey
      rw [e1]
      unfold Instr.keyThatStays
      rw [if_pos (sameBits_int _ k)]
      rfl
    simp only [Sem.run_bind, hst, Result.andThen_ok, MapKept.run_setObj_map _ hb]
    refine ⟨_, rfl, ⟨_, clock, (heap_set hb).1, ?_, hst0.same (born_modify _ _ _ (fun _ => rfl))⟩, keeps_heap hb, by simp⟩
    rw [hp v, Nat.sub_zero, Array.toList_modify]
    apply List.ext_getElem?
    intro j
    have hj := congrArg (fun x => x[j]?) he
    simp only [List.getElem?_map] at hj
    rw [List.getElem?_map, List.getElem?_map, List.getElem?_modify, List.getElem?_set]
    by_cases hij : i = j
    · subst hij
      have h2 := (List.getElem?_eq_some_iff.1 hli).1
      rw [if_pos rfl, if_pos h2, show es.toList[i]? = some es[i] by simp [hil]]
      simp
    · rw [if_neg hij, ← hj]
      cases es.toList[j]? <;> simp [hij]
end Go.Proofs.Ytmanldcohbegkaa
