/-
  A queue as a plain list of tasks, and what each function makes of it.
-/
import Derived.Test.YtknjiphgpoifcaaTkDrop
import Derived.Test.YtknjiphgpoifcaaTkTake
namespace Go.Proofs.Ytknjiphgpoifcaa
open Go.RowKit

/-- A queue: each task, and is it being done. -/
abbrev St := List (Tk × Bool)
def strip (e : El) : Tk × Bool := (e.t, e.u)
def readyS : Nat → St → List Nat
  | _, [] => []
  | i, e :: s => if e.1.ord then (if i = 0 ∧ e.2 = false then [i] else []) else (if e.2 = false then i :: readyS (i + 1) s else readyS (i + 1) s)
theorem readyS_strip (l : List El) : ∀ i, readyFrom i l = readyS i (l.map strip) := by
  induction l with
  | nil => intro i; rfl
  | cons e l ih => intro i; simp only [readyFrom, List.map_cons, readyS, strip, ih]
def sPlaces (s : St) : List Nat := readyS 0 s
def sPutE (room : Nat) (s : St) (t : Tk) : Int := if s.any (fun e => e.1.cmd == t.cmd) then 46 else if room ≤ s.length then 15 else 0
def sPut (room : Nat) (s : St) (t : Tk) : St := if sPutE room s t = 0 then s ++ [(t, false)] else s
def sReady (s : St) : List Tk := (sPlaces s).filterMap fun i => s[i]?.map (·.1)
def tkZero : Tk := ⟨0, 0, 0, false, false, 0, 0, 0, 0, 0, []⟩
def sTake (s : St) (k : Int) : Tk × Int × St :=
  if k < 0 then (tkZero, 46, s) else
    match (sPlaces s)[k.toNat]? with
    | none => (tkZero, 46, s)
    | some i => match s[i]? with
      | none => (tkZero, 46, s)
      | some e => (e.1, 0, s.set i (e.1, true))
def sDone (s : St) (n : Int) : Int × St := match s.findIdx? (fun e => e.2 && e.1.cmd == n) with | none => (46, s) | some i => (0, s.eraseIdx i)
def sAbort (s : St) (n : Int) : Bool × St := match s.findIdx? (fun e => !e.2 && e.1.tag == n) with | none => (false, s) | some i => (true, s.eraseIdx i)

/-- A queue at the head of block q, its memory within G. -/
def Que (T : TypeId) (w : World) (q room : Nat) (s : St) (G : Nat → Prop) : Prop := ∃ l F, QAt T w q room l F ∧ l.map strip = s ∧ (∀ k, F k → G k) ∧ room ≤ 8
theorem Que.mono {T : TypeId} {w : World} {q room : Nat} {s : St} {G H : Nat → Prop} (h : Que T w q room s G) (hG : ∀ k, k < w.heap.size → G k → H k) : Que T w q room s H := by
  obtain ⟨l, F, h1, h2, h3, h4⟩ := h
  exact ⟨l, F, h1, h2, fun k hk => hG k (h1.lt k hk) (h3 k hk), h4⟩
theorem Que.keeps {T : TypeId} {w w' : World} {q room : Nat} {s : St} {G H : Nat → Prop} (h : Que T w q room s G) (hk : Keeps H w w') (hG : ∀ k, k < w.heap.size → G k → ¬ H k) : Que T w' q room s G := by
  obtain ⟨l, F, h1, h2, h3, h4⟩ := h
  exact ⟨l, F, h1.keeps hk fun k hf => hG k (h1.lt k hf) (h3 k hf), h2, h3, h4⟩
theorem Que.below {T : TypeId} {w w' : World} {q room : Nat} {s : St} {G : Nat → Prop} (h : Que T w q room s G) (hk : Below w.heap.size w w') : Que T w' q room s G :=
  h.keeps (Keeps.of_below (F := fun _ => False) hk) fun _ _ _ h => h
theorem Que.low {T : TypeId} {w : World} {q room : Nat} {s : St} {G : Nat → Prop} (h : Que T w q room s G) : Que T w q room s fun k => G k ∧ k < w.heap.size := h.mono fun _ h1 h2 => ⟨h2, h1⟩
theorem Que.lt {T : TypeId} {w : World} {q room : Nat} {s : St} {G : Nat → Prop} (h : Que T w q room s G) : q < w.heap.size ∧ G q ∧ s.length ≤ 8 := by
  obtain ⟨l, F, h1, h2, h3, h4⟩ := h
  exact ⟨h1.lt q h1.fq, h3 q h1.fq, by rw [← h2, List.length_map]; exact h1.le⟩

theorem que_new (room : Nat) (w : World) (h1 : 1 ≤ room) (h2 : room ≤ 8) :
    Calls Try.prog 6 #[.int .i64 (room : Int)] w fun e w' => e = .returned (.pointer (some ⟨w.heap.size, 0, none⟩)) ∧ Que 58 w' w.heap.size room [] (w.heap.size ≤ ·) ∧ Below w.heap.size w w' :=
  (newQ_yes room w h1 h2).mono fun e w' ⟨a, b, c, _⟩ => ⟨a, ⟨[], _, b, rfl, fun k hk => by simp only [hk, Nat.le_refl], h2⟩, c⟩

theorem que_len (T q room : Nat) (s : St) (G : Nat → Prop) (w : World) (h : Que T w q room s G) :
    Calls Try.prog 10 #[.pointer (some ⟨q, 0, none⟩)] w fun e w' => e = .returned (.int .i64 s.length) ∧ w = w' := by
  obtain ⟨l, F, h1, h2, h3, h4⟩ := h
  have := len_any T q room l F w h1
  rw [← h2, List.length_map]
  exact this

theorem findI_any (p : El → Bool) (l : List El) : 0 ≤ findI p l ↔ l.any p = true := by
  unfold findI
  cases h : l.findIdx? p with
  | none =>
    rw [List.findIdx?_eq_none_iff] at h
    simp
    intro x hx
    simpa using h x hx
  | some i =>
    obtain ⟨h1, h2, _⟩ := List.findIdx?_eq_some_iff_getElem.1 h
    simp
    exact ⟨l[i], List.getElem_mem _, h2⟩
theorem any_strip (l : List El) (n : Int) : l.any (p_put n) = (l.map strip).any (fun e => e.1.cmd == n) := by
  rw [List.any_map]; rfl
theorem que_put (q room : Nat) (s : St) (G : Nat → Prop) (t : Tk) (dv : Value) (w : World) (h : Que 58 w q room s G) (hd : BytesAt w dv t.data) (hdl : t.data.length ≤ 140737488355328) (hG : ∀ k, w.heap.size ≤ k → G k) :
    Calls Try.prog 8 #[.pointer (some ⟨q, 0, none⟩), .agg (t.cells dv)] w fun e w' => e = .returned (.int .i64 (sPutE room s t)) ∧ Que 58 w' q room (sPut room s t) G ∧ Keeps G w w' := by
  obtain ⟨l, F, h1, h2, h3, h4⟩ := h
  have hany : (s.any fun e => e.1.cmd == t.cmd) = l.any (p_put t.cmd) := by rw [any_strip, h2]
  have hlen : s.length = l.length := by rw [← h2, List.length_map]
  by_cases hf : 0 ≤ findI (p_put t.cmd) l
  · have e1 : sPutE room s t = 46 := by unfold sPutE; rw [hany, if_pos ((findI_any _ _).1 hf)]
    have e2 : sPut room s t = s := by unfold sPut; rw [e1]; rfl
    rw [e1, e2]
    exact (put_found q room l F t dv w h1 hf).mono fun e w' ⟨a, b⟩ => ⟨a, ⟨l, F, h1.below b, h2, h3, h4⟩, Keeps.of_below b⟩
  · have hn : ¬ l.any (p_put t.cmd) = true := fun hh => hf ((findI_any _ _).2 hh)
    by_cases hr : room ≤ l.length
    · have e1 : sPutE room s t = 15 := by unfold sPutE; rw [hany, if_neg hn, hlen, if_pos hr]
      have e2 : sPut room s t = s := by unfold sPut; rw [e1]; rfl
      rw [e1, e2]
      exact (put_full q room l F t dv w h1 (by omega) hr).mono fun e w' ⟨a, b⟩ => ⟨a, ⟨l, F, h1.below b, h2, h3, h4⟩, Keeps.of_below b⟩
    · have e1 : sPutE room s t = 0 := by unfold sPutE; rw [hany, if_neg hn, hlen, if_neg hr]
      have e2 : sPut room s t = s ++ [(t, false)] := by unfold sPut; rw [e1]; rfl
      rw [e1, e2]
      exact (put_ok q room l F t dv w h1 hd hdl (by omega) (by omega) h4).mono fun e w' ⟨a, dv', b, c⟩ => ⟨a, ⟨_, _, b, by rw [List.map_append, h2]; rfl, fun k hk => hk.elim (h3 k) (fun hk => hG k hk.1), h4⟩, c.mono fun k _ hk => h3 k hk⟩

theorem sReady_strip (l : List El) : readyOf l = sReady (l.map strip) := by
  unfold readyOf sReady placesOf sPlaces
  rw [readyS_strip]
  congr 1
  funext i
  simp only [List.getElem?_map, Option.map_map]
  rfl
theorem que_ready (q room : Nat) (s : St) (G : Nat → Prop) (w : World) (h : Que 58 w q room s G) :
    Calls Try.prog 9 #[.pointer (some ⟨q, 0, none⟩)] w fun e w' => ∃ v, e = .returned v ∧ (∃ tl, Told w.heap.size w' v tl ∧ tl.map (·.1) = sReady s) ∧ Below w.heap.size w w' := by
  obtain ⟨l, F, h1, h2, h3, h4⟩ := h
  have := ready_any q room l F w h1
  rw [sReady_strip, h2] at this
  exact this

theorem sPlaces_lt {s : St} {l : List El} (h : l.map strip = s) : placesOf l = sPlaces s := by
  unfold placesOf sPlaces; rw [readyS_strip, h]
theorem que_take (q room : Nat) (s : St) (G : Nat → Prop) (k : Int) (w : World) (h : Que 58 w q room s G) :
    Calls Try.prog 12 #[.pointer (some ⟨q, 0, none⟩), .int .i64 k] w fun r w' => ∃ dv', r = .returned (.tuple #[.agg ((sTake s k).1.cells dv'), .int .i64 (sTake s k).2.1]) ∧ Owns w.heap.size w' dv' (sTake s k).1.data ∧ (sTake s k).1.data.length ≤ 140737488355328 ∧ Que 58 w' q room (sTake s k).2.2 (fun k => G k ∧ k < w.heap.size) ∧ Keeps G w w' := by
  obtain ⟨l, F, h1, h2, h3, h4⟩ := h
  have hp := sPlaces_lt h2
  have no : ∀ (hk : k < 0 ∨ (placesOf l).length ≤ k) (e : sTake s k = (tkZero, 46, s)), Calls Try.prog 12 #[.pointer (some ⟨q, 0, none⟩), .int .i64 k] w fun r w' => ∃ dv', r = .returned (.tuple #[.agg ((sTake s k).1.cells dv'), .int .i64 (sTake s k).2.1]) ∧ Owns w.heap.size w' dv' (sTake s k).1.data ∧ (sTake s k).1.data.length ≤ 140737488355328 ∧ Que 58 w' q room (sTake s k).2.2 (fun k => G k ∧ k < w.heap.size) ∧ Keeps G w w' := by
    intro hk e
    rw [e]
    exact (take_no q room l F k w h1 hk).mono fun r w' ⟨a, b⟩ => ⟨.slice none 0 0, a, World.ownsRow_nil _ _ _ _, by simp [tkZero], ⟨l, F, h1.below b, h2, fun k hk => ⟨h3 k hk, h1.lt k hk⟩, h4⟩, Keeps.of_below b⟩
  by_cases h0 : k < 0
  · exact no (.inl h0) (by unfold sTake; rw [if_pos h0])
  · cases hi : (sPlaces s)[k.toNat]? with
    | none =>
      have := List.getElem?_eq_none_iff.1 hi
      exact no (.inr (by rw [hp]; omega)) (by unfold sTake; rw [if_neg h0, hi])
    | some i =>
      rw [← hp] at hi
      have hlt : i < l.length := placesOf_lt (List.mem_of_getElem? hi)
      have he : l[i]? = some l[i] := List.getElem?_eq_getElem hlt
      have es : s[i]? = some (strip l[i]) := by rw [← h2, List.getElem?_map, he]; rfl
      have e : sTake s k = (l[i].t, 0, s.set i (l[i].t, true)) := by
        unfold sTake; rw [if_neg h0, ← hp, hi]; simp only [es]; rfl
      rw [e]
      have hc := take_yes q room l F k.toNat i l[i] w h1 hi he
      rw [Int.toNat_of_nonneg (by omega)] at hc
      have hdl : l[i].t.data.length ≤ 140737488355328 := by
        obtain ⟨av, _, hr⟩ := h1.row
        exact (hr.data _ (List.getElem_mem hlt)).2.1
      exact hc.mono fun r w' ⟨dv', a, b, c, d⟩ => ⟨dv', a, b, hdl, ⟨_, F, c, by rw [List.map_set, h2]; rfl, fun k hk => ⟨h3 k hk, h1.lt k hk⟩, h4⟩, d.mono fun k _ hk => h3 k hk⟩

theorem map_eraseIdx (l : List El) : ∀ i, (l.eraseIdx i).map strip = (l.map strip).eraseIdx i := by
  induction l with
  | nil => intro i; rfl
  | cons e l ih => intro i; cases i with
    | zero => rfl
    | succ i => simp only [List.eraseIdx_cons_succ, List.map_cons, ih]
theorem findIdx_strip (l : List El) (p : Tk × Bool → Bool) : l.findIdx? (fun e => p (strip e)) = (l.map strip).findIdx? p := by
  rw [List.findIdx?_map]; rfl
theorem que_done (q room : Nat) (s : St) (G : Nat → Prop) (n : Int) (w : World) (h : Que 58 w q room s G) :
    Calls Try.prog 11 #[.pointer (some ⟨q, 0, none⟩), .int .i64 n] w fun r w' => r = .returned (.int .i64 (sDone s n).1) ∧ Que 58 w' q room (sDone s n).2 (fun k => G k ∧ k < w.heap.size) ∧ Keeps G w w' := by
  obtain ⟨l, F, h1, h2, h3, h4⟩ := h
  have hf : l.findIdx? (p_done n) = s.findIdx? (fun e => e.2 && e.1.cmd == n) := by rw [← h2, ← findIdx_strip]; rfl
  cases hp : l.findIdx? (p_done n) with
  | none =>
    have e : sDone s n = (46, s) := by unfold sDone; rw [← hf, hp]
    rw [e]
    exact (done_no q room l F n w h1 hp).mono fun r w' ⟨a, b⟩ => ⟨a, ⟨l, F, h1.below b, h2, fun k hk => ⟨h3 k hk, h1.lt k hk⟩, h4⟩, Keeps.of_below b⟩
  | some i =>
    have e : sDone s n = (0, s.eraseIdx i) := by unfold sDone; rw [← hf, hp]
    rw [e]
    exact (done_yes q room i l F n w h1 hp).mono fun r w' ⟨a, b, c⟩ => ⟨a, ⟨_, F, b, by rw [map_eraseIdx, h2], fun k hk => ⟨h3 k hk, h1.lt k hk⟩, h4⟩, c.mono fun k _ hk => h3 k hk⟩
theorem que_abort (q room : Nat) (s : St) (G : Nat → Prop) (n : Int) (w : World) (h : Que 58 w q room s G) :
    Calls Try.prog 18 #[.pointer (some ⟨q, 0, none⟩), .int .i64 n] w fun r w' => r = .returned (.bool (sAbort s n).1) ∧ Que 58 w' q room (sAbort s n).2 (fun k => G k ∧ k < w.heap.size) ∧ Keeps G w w' := by
  obtain ⟨l, F, h1, h2, h3, h4⟩ := h
  have hf : l.findIdx? (p_abort n) = s.findIdx? (fun e => !e.2 && e.1.tag == n) := by rw [← h2, ← findIdx_strip]; rfl
  cases hp : l.findIdx? (p_abort n) with
  | none =>
    have e : sAbort s n = (false, s) := by unfold sAbort; rw [← hf, hp]
    rw [e]
    exact (abort_no q room l F n w h1 hp).mono fun r w' ⟨a, b⟩ => ⟨a, ⟨l, F, h1.below b, h2, fun k hk => ⟨h3 k hk, h1.lt k hk⟩, h4⟩, Keeps.of_below b⟩
  | some i =>
    have e : sAbort s n = (true, s.eraseIdx i) := by unfold sAbort; rw [← hf, hp]
    rw [e]
    exact (abort_yes q room i l F n w h1 hp).mono fun r w' ⟨a, b, c⟩ => ⟨a, ⟨_, F, b, by rw [map_eraseIdx, h2], fun k hk => ⟨h3 k hk, h1.lt k hk⟩, h4⟩, c.mono fun k _ hk => h3 k hk⟩
end Go.Proofs.Ytknjiphgpoifcaa
