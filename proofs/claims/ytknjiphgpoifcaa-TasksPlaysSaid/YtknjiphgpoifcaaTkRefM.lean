/-
  The document's queue: its contracts over the plain model; both queues in one world.
-/
import Derived.Test.YtknjiphgpoifcaaTkRefC
import Derived.Test.YtknjiphgpoifcaaTkRefE
namespace Go.Proofs.Ytknjiphgpoifcaa
open Go.RowKit

theorem Reads.mono {w : World} {v : Value} {tl : List (Tk × Value)} {G H : Nat → Prop} (h : Reads w v tl G) (hG : ∀ k, G k → H k) : Reads w v tl H := by
  obtain ⟨a, c, e, hr⟩ := h.row
  refine ⟨⟨a, c, e, fun i p hp => ?_⟩, fun p hp => ?_⟩
  · obtain ⟨b, o, e1, e2, e3, e4⟩ := hr i p hp
    exact ⟨b, o, e1, hG b e2, e3, e4⟩
  · obtain ⟨h1, h2, h3⟩ := h.data p hp
    exact ⟨h1, h2.mono hG, h3⟩

theorem rque_new (room : Nat) (w : World) (h1 : 1 ≤ room) (h2 : room ≤ 8) :
    Calls Try.prog 13 #[.int .i64 (room : Int)] w fun e w' => e = .returned (.pointer (some ⟨w.heap.size, 0, none⟩)) ∧ Que 65 w' w.heap.size room [] (w.heap.size ≤ ·) ∧ Below w.heap.size w w' :=
  (newR_yes room w h1 h2).mono fun e w' ⟨a, b, c⟩ => ⟨a, ⟨[], _, b, rfl, fun k hk => by simp only [hk, Nat.le_refl], h2⟩, c⟩
theorem rque_put (q room : Nat) (s : St) (G : Nat → Prop) (t : Tk) (dv : Value) (w : World) (h : Que 65 w q room s G) (hd : BytesAt w dv t.data) (hdl : t.data.length ≤ 140737488355328) (hG : ∀ k, w.heap.size ≤ k → G k) :
    Calls Try.prog 14 #[.pointer (some ⟨q, 0, none⟩), .agg (t.cells dv)] w fun e w' => e = .returned (.int .i64 (sPutE room s t)) ∧ Que 65 w' q room (sPut room s t) G ∧ Keeps G w w' := by
  obtain ⟨l, F, h1, h2, h3, h4⟩ := h
  have hany : (s.any fun e => e.1.cmd == t.cmd) = l.any fun x => x.t.cmd == t.cmd := by rw [← h2, List.any_map]; rfl
  have hlen : s.length = l.length := by rw [← h2, List.length_map]
  refine (rput_any q room l F t dv w h1 hd hdl h4).mono ?_
  rintro e w' (⟨ha, rfl, hb⟩ | ⟨ha, hr, rfl, hb⟩ | ⟨ha, hr, rfl, dv', hq, hk⟩)
  · have e1 : sPutE room s t = 46 := by unfold sPutE; rw [hany, ha]; rfl
    have e2 : sPut room s t = s := by unfold sPut; rw [e1]; rfl
    rw [e1, e2]
    exact ⟨rfl, ⟨l, F, h1.below hb, h2, h3, h4⟩, Keeps.of_below hb⟩
  · have e1 : sPutE room s t = 15 := by unfold sPutE; rw [hany, ha, hlen, if_pos hr]; rfl
    have e2 : sPut room s t = s := by unfold sPut; rw [e1]; rfl
    rw [e1, e2]
    exact ⟨rfl, ⟨l, F, h1.below hb, h2, h3, h4⟩, Keeps.of_below hb⟩
  · have e1 : sPutE room s t = 0 := by unfold sPutE; rw [hany, ha, hlen, if_neg (show ¬ room ≤ l.length by omega)]; rfl
    have e2 : sPut room s t = s ++ [(t, false)] := by unfold sPut; rw [e1]; rfl
    rw [e1, e2]
    exact ⟨rfl, ⟨_, _, hq, by rw [List.map_append, h2]; rfl, fun k hk => hk.elim (h3 k) (fun hk => hG k hk.1), h4⟩, hk.mono fun k _ hk => h3 k hk⟩
theorem rque_ready (q room : Nat) (s : St) (G : Nat → Prop) (w : World) (h : Que 65 w q room s G) :
    Calls Try.prog 20 #[.pointer (some ⟨q, 0, none⟩)] w fun e w' => ∃ v, e = .returned v ∧ (∃ tl, Reads w' v tl (fun k => G k ∨ w.heap.size ≤ k) ∧ tl.map (·.1) = sReady s) ∧ Below w.heap.size w w' := by
  obtain ⟨l, F, h1, h2, h3, h4⟩ := h
  refine (rReady_any q room l F w h1).mono ?_
  rintro e w' ⟨v, rfl, ⟨tl, htl, hm⟩, hb⟩
  rw [sReady_strip, h2] at hm
  exact ⟨v, rfl, ⟨tl, htl.mono fun k hk => hk.imp (h3 k) id, hm⟩, hb⟩
theorem rque_take (q room : Nat) (s : St) (G : Nat → Prop) (k : Int) (w : World) (h : Que 65 w q room s G) (hk : -9223372036854775808 ≤ k ∧ k ≤ 9223372036854775807) :
    Calls Try.prog 15 #[.pointer (some ⟨q, 0, none⟩), .int .i64 k] w fun r w' => ∃ dv', r = .returned (.tuple #[.agg ((sTake s k).1.cells dv'), .int .i64 (sTake s k).2.1]) ∧ BytesAt w' dv' (sTake s k).1.data ∧ LiesIn dv' (fun k => G k ∧ k < w.heap.size) ∧ Que 65 w' q room (sTake s k).2.2 (fun k => G k ∧ k < w.heap.size) ∧ Keeps G w w' := by
  obtain ⟨l, F, h1, h2, h3, h4⟩ := h
  have hp := sPlaces_lt h2
  refine (rtake_any q room l F k w h1 hk).mono ?_
  rintro r w' (⟨n, i, e, rfl, hi, he, rfl, hq, hkp⟩ | ⟨hno, rfl, hb⟩)
  · have es : s[i]? = some (strip e) := by rw [← h2, List.getElem?_map, he]; rfl
    have et : sTake s (n : Int) = (e.t, 0, s.set i (e.t, true)) := by
      unfold sTake; rw [if_neg (by omega), Int.toNat_natCast, ← hp, hi]; simp only [es]; rfl
    rw [et]
    have hil : i < l.length := (List.getElem?_eq_some_iff.1 he).1
    obtain ⟨av, _, hr⟩ := hq.row
    obtain ⟨d1, d2, d3⟩ := hr.data { e with u := true } (List.mem_of_getElem? (i := i) (by simp [hil]))
    exact ⟨e.dv, rfl, d1, d3.mono fun k hk => ⟨h3 k hk.1, h1.lt k hk.1⟩, ⟨_, F, hq, by rw [List.map_set, h2]; rfl, fun k hk => ⟨h3 k hk, h1.lt k hk⟩, h4⟩, hkp.mono fun k _ hk => h3 k hk⟩
  · have et : sTake s k = (tkZero, 46, s) := by
      unfold sTake
      by_cases h0 : k < 0
      · rw [if_pos h0]
      · rw [if_neg h0]
        have : (sPlaces s)[k.toNat]? = none := List.getElem?_eq_none (by rw [← hp]; omega)
        rw [this]
    rw [et]
    exact ⟨.slice none 0 0, rfl, bytes_nil _, fun a n c e hn => by simp at e, ⟨l, F, h1.below hb, h2, fun k hk => ⟨h3 k hk, h1.lt k hk⟩, h4⟩, Keeps.of_below hb⟩
theorem rque_done (q room : Nat) (s : St) (G : Nat → Prop) (n : Int) (w : World) (h : Que 65 w q room s G) (hG : ∀ k, w.heap.size ≤ k → G k) :
    Calls Try.prog 17 #[.pointer (some ⟨q, 0, none⟩), .int .i64 n] w fun r w' => r = .returned (.int .i64 (sDone s n).1) ∧ Que 65 w' q room (sDone s n).2 G ∧ Keeps G w w' := by
  obtain ⟨l, F, h1, h2, h3, h4⟩ := h
  have hf : l.findIdx? (p_done n) = s.findIdx? (fun e => e.2 && e.1.cmd == n) := by rw [← h2, ← findIdx_strip]; rfl
  refine (rdone_any q room l F n w h1).mono ?_
  rintro r w' (⟨hp, rfl, rfl⟩ | ⟨i, hp, rfl, hq, hk⟩)
  · have e : sDone s n = (46, s) := by unfold sDone; rw [← hf, hp]
    rw [e]
    exact ⟨rfl, ⟨l, F, h1, h2, h3, h4⟩, Keeps.refl _ _⟩
  · have e : sDone s n = (0, s.eraseIdx i) := by unfold sDone; rw [← hf, hp]
    rw [e]
    exact ⟨rfl, ⟨_, _, hq, by rw [map_eraseIdx, h2], fun k hk => hk.elim (h3 k) (fun hk => hG k hk.1), h4⟩, hk.mono fun k _ hk => h3 k hk⟩
theorem rque_abort (q room : Nat) (s : St) (G : Nat → Prop) (n : Int) (w : World) (h : Que 65 w q room s G) (hG : ∀ k, w.heap.size ≤ k → G k) :
    Calls Try.prog 19 #[.pointer (some ⟨q, 0, none⟩), .int .i64 n] w fun r w' => r = .returned (.bool (sAbort s n).1) ∧ Que 65 w' q room (sAbort s n).2 G ∧ Keeps G w w' := by
  obtain ⟨l, F, h1, h2, h3, h4⟩ := h
  have hf : l.findIdx? (p_abort n) = s.findIdx? (fun e => !e.2 && e.1.tag == n) := by rw [← h2, ← findIdx_strip]; rfl
  refine (rabort_any q room l F n w h1).mono ?_
  rintro r w' (⟨hp, rfl, rfl⟩ | ⟨i, hp, rfl, hq, hk⟩)
  · have e : sAbort s n = (false, s) := by unfold sAbort; rw [← hf, hp]
    rw [e]
    exact ⟨rfl, ⟨l, F, h1, h2, h3, h4⟩, Keeps.refl _ _⟩
  · have e : sAbort s n = (true, s.eraseIdx i) := by unfold sAbort; rw [← hf, hp]
    rw [e]
    exact ⟨rfl, ⟨_, _, hq, by rw [map_eraseIdx, h2], fun k hk => hk.elim (h3 k) (fun hk => hG k hk.1), h4⟩, hk.mono fun k _ hk => h3 k hk⟩

/-- The program's queue and the document's, each with memory of its own, all of it within A and below block N. -/
def Pair (A : Nat → Prop) (N : Nat) (w : World) (qa qb room : Nat) (sa sb : St) : Prop := N ≤ w.heap.size ∧ ∃ Ga Gb : Nat → Prop, Que 58 w qa room sa Ga ∧ Que 65 w qb room sb Gb ∧ (∀ k, Ga k → ¬ Gb k) ∧ (∀ k, Ga k → A k ∧ k < N) ∧ ∀ k, Gb k → A k ∧ k < N
theorem Pair.below {A : Nat → Prop} {N : Nat} {w w' : World} {qa qb room : Nat} {sa sb : St} (h : Pair A N w qa qb room sa sb) (hb : Below w.heap.size w w') : Pair A N w' qa qb room sa sb := by
  obtain ⟨h0, Ga, Gb, h1, h2, h3, h4, h5⟩ := h
  exact ⟨Nat.le_trans h0 hb.size, Ga, Gb, h1.below hb, h2.below hb, h3, h4, h5⟩
theorem Pair.keeps {A : Nat → Prop} {N : Nat} {w w' : World} {qa qb room : Nat} {sa sb : St} {H : Nat → Prop} (h : Pair A N w qa qb room sa sb) (hk : Keeps H w w') (hH : ∀ k, A k → k < N → ¬ H k) : Pair A N w' qa qb room sa sb := by
  obtain ⟨h0, Ga, Gb, h1, h2, h3, h4, h5⟩ := h
  exact ⟨Nat.le_trans h0 hk.size, Ga, Gb, h1.keeps hk (fun k _ hg => hH k (h4 k hg).1 (h4 k hg).2), h2.keeps hk (fun k _ hg => hH k (h5 k hg).1 (h5 k hg).2), h3, h4, h5⟩
theorem Pair.lt {A : Nat → Prop} {N : Nat} {w : World} {qa qb room : Nat} {sa sb : St} (h : Pair A N w qa qb room sa sb) : N ≤ w.heap.size ∧ sa.length ≤ 8 ∧ qb < N ∧ A qb := by
  obtain ⟨h0, Ga, Gb, h1, h2, _, _, h5⟩ := h
  exact ⟨h0, h1.lt.2.2, (h5 qb h2.lt.2.1).2, (h5 qb h2.lt.2.1).1⟩
theorem Pair.start {A : Nat → Prop} {w0 room : Nat} {w1 w2 : World} {qa qb : Nat} (ha : Que 58 w1 qa room [] (w0 ≤ ·)) (hb : Que 65 w2 qb room [] (w1.heap.size ≤ ·)) (h0 : w0 ≤ w1.heap.size) (hw : Below w1.heap.size w1 w2) (hA : ∀ k, w0 ≤ k → A k) : Pair A w2.heap.size w2 qa qb room [] [] := by
  have := hw.size
  refine ⟨Nat.le_refl _, fun k => w0 ≤ k ∧ k < w1.heap.size, fun k => w1.heap.size ≤ k ∧ k < w2.heap.size, (ha.low).below hw, hb.low, fun k h1 h2 => by omega, fun k h => ⟨hA k h.1, by omega⟩, fun k h => ⟨hA k (by omega), h.2⟩⟩
theorem Pair.mono {A B : Nat → Prop} {N : Nat} {w : World} {qa qb room : Nat} {sa sb : St} (h : Pair A N w qa qb room sa sb) (hAB : ∀ k, A k → k < N → B k) : Pair B N w qa qb room sa sb := by
  obtain ⟨h0, Ga, Gb, h1, h2, h3, h4, h5⟩ := h
  exact ⟨h0, Ga, Gb, h1, h2, h3, fun k hk => ⟨hAB k (h4 k hk).1 (h4 k hk).2, (h4 k hk).2⟩, fun k hk => ⟨hAB k (h5 k hk).1 (h5 k hk).2, (h5 k hk).2⟩⟩
/-- The document's list as it lies. -/
theorem Pair.cell {A : Nat → Prop} {N : Nat} {w : World} {qa qb room : Nat} {sa sb : St} (h : Pair A N w qa qb room sa sb) : ∃ a c, w.cell? ⟨qb, 1, none⟩ = some (.slice a sb.length c) := by
  obtain ⟨h0, Ga, Gb, h1, ⟨l, F, q1, q2, _, _⟩, _⟩ := h
  obtain ⟨av, hav, hr⟩ := q1.row
  obtain ⟨a, c, rfl⟩ := hr.shape
  exact ⟨a, c, by rw [hav, ← q2, List.length_map]⟩
/-- The first one has turned, in new memory and its own. -/
theorem Pair.turnA {A : Nat → Prop} {N : Nat} {w w' : World} {qa qb room : Nat} {sb sa' : St} {Ga Gb : Nat → Prop} (h0 : N ≤ w.heap.size) (h00 : ∀ k, w.heap.size ≤ k → A k) (h2 : Que 65 w qb room sb Gb) (h3 : ∀ k, Ga k → ¬ Gb k) (h4 : ∀ k, Ga k → A k ∧ k < N) (h5 : ∀ k, Gb k → A k ∧ k < N)
    (hq : Que 58 w' qa room sa' (fun k => Ga k ∨ w.heap.size ≤ k)) (hk : Keeps (fun k => Ga k ∨ w.heap.size ≤ k) w w') : Pair A w'.heap.size w' qa qb room sa' sb ∧ Keeps (fun k => A k ∧ k < N) w w' := by
  have := hk.size
  refine ⟨⟨Nat.le_refl _, fun k => (Ga k ∨ w.heap.size ≤ k) ∧ k < w'.heap.size, Gb, hq.low, h2.keeps hk (fun k hlt hb hh => hh.elim (fun ha => h3 k ha hb) (fun hge => by omega)), fun k ha hb => ?_, fun k hk' => ?_, fun k hk' => ?_⟩, hk.mono fun k hlt hh => ?_⟩
  · rcases ha.1 with h | h
    · exact h3 k h hb
    · have := (h5 k hb).2; omega
  · refine ⟨?_, hk'.2⟩
    rcases hk'.1 with h | h
    · exact (h4 k h).1
    · exact h00 k h
  · exact ⟨(h5 k hk').1, by have := (h5 k hk').2; omega⟩
  · rcases hh with h | h
    · exact h4 k h
    · omega
theorem Pair.turnB {A : Nat → Prop} {N : Nat} {w w' : World} {qa qb room : Nat} {sa sb' : St} {Ga Gb : Nat → Prop} (h0 : N ≤ w.heap.size) (h00 : ∀ k, w.heap.size ≤ k → A k) (h1 : Que 58 w qa room sa Ga) (h3 : ∀ k, Ga k → ¬ Gb k) (h4 : ∀ k, Ga k → A k ∧ k < N) (h5 : ∀ k, Gb k → A k ∧ k < N)
    (hq : Que 65 w' qb room sb' (fun k => Gb k ∨ w.heap.size ≤ k)) (hk : Keeps (fun k => Gb k ∨ w.heap.size ≤ k) w w') : Pair A w'.heap.size w' qa qb room sa sb' ∧ Keeps (fun k => A k ∧ k < N) w w' := by
  have := hk.size
  refine ⟨⟨Nat.le_refl _, Ga, fun k => (Gb k ∨ w.heap.size ≤ k) ∧ k < w'.heap.size, h1.keeps hk (fun k hlt ha hh => hh.elim (fun hb => h3 k ha hb) (fun hge => by omega)), hq.low, fun k ha hb => ?_, fun k hk' => ?_, fun k hk' => ?_⟩, hk.mono fun k hlt hh => ?_⟩
  · rcases hb.1 with h | h
    · exact h3 k ha h
    · have := (h4 k ha).2; omega
  · exact ⟨(h4 k hk').1, by have := (h4 k hk').2; omega⟩
  · refine ⟨?_, hk'.2⟩
    rcases hk'.1 with h | h
    · exact (h5 k h).1
    · exact h00 k h
  · rcases hh with h | h
    · exact h5 k h
    · omega
theorem pair_putA {A : Nat → Prop} {N : Nat} {w : World} {qa qb room : Nat} {sa sb : St} (t : Tk) (dv : Value) (h : Pair A N w qa qb room sa sb) (h00 : ∀ k, w.heap.size ≤ k → A k) (hd : BytesAt w dv t.data) (hdl : t.data.length ≤ 140737488355328) :
    Calls Try.prog 8 #[.pointer (some ⟨qa, 0, none⟩), .agg (t.cells dv)] w fun e w' => e = .returned (.int .i64 (sPutE room sa t)) ∧ Pair A w'.heap.size w' qa qb room (sPut room sa t) sb ∧ Keeps (fun k => A k ∧ k < N) w w' := by
  obtain ⟨h0, Ga, Gb, h1, h2, h3, h4, h5⟩ := h
  refine (que_put qa room sa (fun k => Ga k ∨ w.heap.size ≤ k) t dv w (h1.mono fun k _ hk => .inl hk) hd hdl (fun k hk => .inr hk)).mono ?_
  rintro e w' ⟨rfl, hq, hk⟩
  exact ⟨rfl, Pair.turnA h0 h00 h2 h3 h4 h5 hq hk⟩
theorem pair_putB {A : Nat → Prop} {N : Nat} {w : World} {qa qb room : Nat} {sa sb : St} (t : Tk) (dv : Value) (h : Pair A N w qa qb room sa sb) (h00 : ∀ k, w.heap.size ≤ k → A k) (hd : BytesAt w dv t.data) (hdl : t.data.length ≤ 140737488355328) :
    Calls Try.prog 14 #[.pointer (some ⟨qb, 0, none⟩), .agg (t.cells dv)] w fun e w' => e = .returned (.int .i64 (sPutE room sb t)) ∧ Pair A w'.heap.size w' qa qb room sa (sPut room sb t) ∧ Keeps (fun k => A k ∧ k < N) w w' := by
  obtain ⟨h0, Ga, Gb, h1, h2, h3, h4, h5⟩ := h
  refine (rque_put qb room sb (fun k => Gb k ∨ w.heap.size ≤ k) t dv w (h2.mono fun k _ hk => .inl hk) hd hdl (fun k hk => .inr hk)).mono ?_
  rintro e w' ⟨rfl, hq, hk⟩
  exact ⟨rfl, Pair.turnB h0 h00 h1 h3 h4 h5 hq hk⟩
theorem pair_doneA {A : Nat → Prop} {N : Nat} {w : World} {qa qb room : Nat} {sa sb : St} (n : Int) (h : Pair A N w qa qb room sa sb) (h00 : ∀ k, w.heap.size ≤ k → A k) :
    Calls Try.prog 11 #[.pointer (some ⟨qa, 0, none⟩), .int .i64 n] w fun e w' => e = .returned (.int .i64 (sDone sa n).1) ∧ Pair A w'.heap.size w' qa qb room (sDone sa n).2 sb ∧ Keeps (fun k => A k ∧ k < N) w w' := by
  obtain ⟨h0, Ga, Gb, h1, h2, h3, h4, h5⟩ := h
  refine (que_done qa room sa Ga n w h1).mono ?_
  rintro e w' ⟨rfl, hq, hk⟩
  exact ⟨rfl, Pair.turnA h0 h00 h2 h3 h4 h5 (hq.mono fun k _ hk => .inl hk.1) (hk.mono fun k _ hk => .inl hk)⟩
theorem pair_doneB {A : Nat → Prop} {N : Nat} {w : World} {qa qb room : Nat} {sa sb : St} (n : Int) (h : Pair A N w qa qb room sa sb) (h00 : ∀ k, w.heap.size ≤ k → A k) :
    Calls Try.prog 17 #[.pointer (some ⟨qb, 0, none⟩), .int .i64 n] w fun e w' => e = .returned (.int .i64 (sDone sb n).1) ∧ Pair A w'.heap.size w' qa qb room sa (sDone sb n).2 ∧ Keeps (fun k => A k ∧ k < N) w w' := by
  obtain ⟨h0, Ga, Gb, h1, h2, h3, h4, h5⟩ := h
  refine (rque_done qb room sb (fun k => Gb k ∨ w.heap.size ≤ k) n w (h2.mono fun k _ hk => .inl hk) (fun k hk => .inr hk)).mono ?_
  rintro e w' ⟨rfl, hq, hk⟩
  exact ⟨rfl, Pair.turnB h0 h00 h1 h3 h4 h5 hq hk⟩
theorem pair_abortA {A : Nat → Prop} {N : Nat} {w : World} {qa qb room : Nat} {sa sb : St} (n : Int) (h : Pair A N w qa qb room sa sb) (h00 : ∀ k, w.heap.size ≤ k → A k) :
    Calls Try.prog 18 #[.pointer (some ⟨qa, 0, none⟩), .int .i64 n] w fun e w' => e = .returned (.bool (sAbort sa n).1) ∧ Pair A w'.heap.size w' qa qb room (sAbort sa n).2 sb ∧ Keeps (fun k => A k ∧ k < N) w w' := by
  obtain ⟨h0, Ga, Gb, h1, h2, h3, h4, h5⟩ := h
  refine (que_abort qa room sa Ga n w h1).mono ?_
  rintro e w' ⟨rfl, hq, hk⟩
  exact ⟨rfl, Pair.turnA h0 h00 h2 h3 h4 h5 (hq.mono fun k _ hk => .inl hk.1) (hk.mono fun k _ hk => .inl hk)⟩
theorem pair_abortB {A : Nat → Prop} {N : Nat} {w : World} {qa qb room : Nat} {sa sb : St} (n : Int) (h : Pair A N w qa qb room sa sb) (h00 : ∀ k, w.heap.size ≤ k → A k) :
    Calls Try.prog 19 #[.pointer (some ⟨qb, 0, none⟩), .int .i64 n] w fun e w' => e = .returned (.bool (sAbort sb n).1) ∧ Pair A w'.heap.size w' qa qb room sa (sAbort sb n).2 ∧ Keeps (fun k => A k ∧ k < N) w w' := by
  obtain ⟨h0, Ga, Gb, h1, h2, h3, h4, h5⟩ := h
  refine (rque_abort qb room sb (fun k => Gb k ∨ w.heap.size ≤ k) n w (h2.mono fun k _ hk => .inl hk) (fun k hk => .inr hk)).mono ?_
  rintro e w' ⟨rfl, hq, hk⟩
  exact ⟨rfl, Pair.turnB h0 h00 h1 h3 h4 h5 hq hk⟩
theorem pair_takeA {A : Nat → Prop} {N : Nat} {w : World} {qa qb room : Nat} {sa sb : St} (n : Int) (h : Pair A N w qa qb room sa sb) :
    Calls Try.prog 12 #[.pointer (some ⟨qa, 0, none⟩), .int .i64 n] w fun r w' => ∃ dv', r = .returned (.tuple #[.agg ((sTake sa n).1.cells dv'), .int .i64 (sTake sa n).2.1]) ∧ Owns w.heap.size w' dv' (sTake sa n).1.data ∧ (sTake sa n).1.data.length ≤ 140737488355328 ∧ Pair A N w' qa qb room (sTake sa n).2.2 sb ∧ Keeps (fun k => A k ∧ k < N) w w' := by
  obtain ⟨h0, Ga, Gb, h1, h2, h3, h4, h5⟩ := h
  refine (que_take qa room sa Ga n w h1).mono ?_
  rintro e w' ⟨dv', rfl, ho, hl, hq, hk⟩
  exact ⟨dv', rfl, ho, hl, ⟨Nat.le_trans h0 hk.size, Ga, Gb, hq.mono fun k _ hk => hk.1, h2.keeps hk (fun k _ hb ha => h3 k ha hb), h3, h4, h5⟩, hk.mono fun k _ hh => h4 k hh⟩
theorem pair_takeB {A : Nat → Prop} {N : Nat} {w : World} {qa qb room : Nat} {sa sb : St} (n : Int) (h : Pair A N w qa qb room sa sb) (hn : -9223372036854775808 ≤ n ∧ n ≤ 9223372036854775807) :
    Calls Try.prog 15 #[.pointer (some ⟨qb, 0, none⟩), .int .i64 n] w fun r w' => ∃ dv', r = .returned (.tuple #[.agg ((sTake sb n).1.cells dv'), .int .i64 (sTake sb n).2.1]) ∧ BytesAt w' dv' (sTake sb n).1.data ∧ LiesIn dv' (fun k => A k ∧ k < N) ∧ Pair A N w' qa qb room sa (sTake sb n).2.2 ∧ Keeps (fun k => A k ∧ k < N) w w' := by
  obtain ⟨h0, Ga, Gb, h1, h2, h3, h4, h5⟩ := h
  refine (rque_take qb room sb Gb n w h2 hn).mono ?_
  rintro e w' ⟨dv', rfl, ho, hl, hq, hk⟩
  exact ⟨dv', rfl, ho, hl.mono fun k hk => h5 k hk.1, ⟨Nat.le_trans h0 hk.size, Ga, Gb, h1.keeps hk (fun k _ ha hb => h3 k ha hb), hq.mono fun k _ hk => hk.1, h3, h4, h5⟩, hk.mono fun k _ hh => h5 k hh⟩
theorem pair_lenA {A : Nat → Prop} {N : Nat} {w : World} {qa qb room : Nat} {sa sb : St} (h : Pair A N w qa qb room sa sb) :
    Calls Try.prog 10 #[.pointer (some ⟨qa, 0, none⟩)] w fun e w' => e = .returned (.int .i64 sa.length) ∧ w = w' := by
  obtain ⟨h0, Ga, Gb, h1, _⟩ := h
  exact que_len _ qa room sa Ga w h1
theorem pair_readyA {A : Nat → Prop} {N : Nat} {w : World} {qa qb room : Nat} {sa sb : St} (h : Pair A N w qa qb room sa sb) :
    Calls Try.prog 9 #[.pointer (some ⟨qa, 0, none⟩)] w fun e w' => ∃ v, e = .returned v ∧ (∃ tl, Told w.heap.size w' v tl ∧ tl.map (·.1) = sReady sa) ∧ Below w.heap.size w w' := by
  obtain ⟨h0, Ga, Gb, h1, _⟩ := h
  exact que_ready qa room sa Ga w h1
theorem pair_readyB {A : Nat → Prop} {N : Nat} {w : World} {qa qb room : Nat} {sa sb : St} (h : Pair A N w qa qb room sa sb) :
    Calls Try.prog 20 #[.pointer (some ⟨qb, 0, none⟩)] w fun e w' => ∃ v, e = .returned v ∧ (∃ tl, Reads w' v tl (fun k => (A k ∧ k < N) ∨ w.heap.size ≤ k) ∧ tl.map (·.1) = sReady sb) ∧ Below w.heap.size w w' := by
  obtain ⟨h0, Ga, Gb, h1, h2, h3, h4, h5⟩ := h
  refine (rque_ready qb room sb Gb w h2).mono ?_
  rintro e w' ⟨v, rfl, ⟨tl, htl, hm⟩, hb⟩
  exact ⟨v, rfl, ⟨tl, htl.mono fun k hk => hk.imp (h5 k) id, hm⟩, hb⟩
end Go.Proofs.Ytknjiphgpoifcaa
