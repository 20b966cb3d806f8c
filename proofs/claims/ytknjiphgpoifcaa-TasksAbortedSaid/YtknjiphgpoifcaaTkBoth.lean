/-
  Two queues in one world.
-/
import Derived.Test.YtknjiphgpoifcaaTkModel
namespace Go.Proofs.Ytknjiphgpoifcaa
open Go.RowKit

/-- Two queues, each with memory of its own, all of it from block w0 on and below block N. -/
def Both (w0 N : Nat) (w : World) (qa qb : Nat) (sa sb : St) : Prop := N ≤ w.heap.size ∧ ∃ Ga Gb : Nat → Prop, Que 58 w qa 8 sa Ga ∧ Que 58 w qb 8 sb Gb ∧ (∀ k, Ga k → ¬ Gb k) ∧ (∀ k, Ga k → w0 ≤ k ∧ k < N) ∧ ∀ k, Gb k → w0 ≤ k ∧ k < N
theorem Both.swap {w0 N : Nat} {w : World} {qa qb : Nat} {sa sb : St} (h : Both w0 N w qa qb sa sb) : Both w0 N w qb qa sb sa := by
  obtain ⟨h0, Ga, Gb, h1, h2, h3, h4, h5⟩ := h
  exact ⟨h0, Gb, Ga, h2, h1, fun k hb ha => h3 k ha hb, h5, h4⟩
theorem Both.below {w0 N : Nat} {w w' : World} {qa qb : Nat} {sa sb : St} (h : Both w0 N w qa qb sa sb) (hb : Below w.heap.size w w') : Both w0 N w' qa qb sa sb := by
  obtain ⟨h0, Ga, Gb, h1, h2, h3, h4, h5⟩ := h
  exact ⟨Nat.le_trans h0 hb.size, Ga, Gb, h1.below hb, h2.below hb, h3, h4, h5⟩
/-- Both new. -/
theorem Both.start {w0 : Nat} {w1 w2 : World} {qa qb : Nat} (ha : Que 58 w1 qa 8 [] (w0 ≤ ·)) (hb : Que 58 w2 qb 8 [] (w1.heap.size ≤ ·)) (h0 : w0 ≤ w1.heap.size) (hw : Below w1.heap.size w1 w2) : Both w0 w2.heap.size w2 qa qb [] [] := by
  have := hw.size
  refine ⟨Nat.le_refl _, fun k => w0 ≤ k ∧ k < w1.heap.size, fun k => w1.heap.size ≤ k ∧ k < w2.heap.size, (ha.low).below hw, hb.low, fun k h1 h2 => by omega, fun k h => by omega, fun k h => by omega⟩
theorem both_put {w0 N : Nat} {w : World} {qa qb : Nat} {sa sb : St} (t : Tk) (dv : Value) (h : Both w0 N w qa qb sa sb) (h00 : w0 ≤ N) (hd : BytesAt w dv t.data) (hdl : t.data.length ≤ 140737488355328) :
    Calls Try.prog 8 #[.pointer (some ⟨qa, 0, none⟩), .agg (t.cells dv)] w fun e w' => e = .returned (.int .i64 (sPutE 8 sa t)) ∧ Both w0 w'.heap.size w' qa qb (sPut 8 sa t) sb ∧ Keeps (fun k => w0 ≤ k ∧ k < N) w w' := by
  obtain ⟨h0, Ga, Gb, h1, h2, h3, h4, h5⟩ := h
  refine (que_put qa 8 sa (fun k => Ga k ∨ w.heap.size ≤ k) t dv w (h1.mono fun k _ hk => .inl hk) hd hdl (fun k hk => .inr hk)).mono ?_
  rintro e w' ⟨rfl, hq, hk⟩
  have := hk.size
  refine ⟨rfl, ⟨Nat.le_refl _, fun k => (Ga k ∨ w.heap.size ≤ k) ∧ k < w'.heap.size, Gb, hq.low, h2.keeps hk (fun k hlt hb hh => hh.elim (fun ha => h3 k ha hb) (fun hge => by omega)), fun k ha hb => ?_, fun k hk' => ?_, fun k hk' => ?_⟩, hk.mono fun k hlt hh => ?_⟩
  · rcases ha.1 with h | h
    · exact h3 k h hb
    · have := h5 k hb; omega
  · refine ⟨?_, hk'.2⟩
    rcases hk'.1 with h | h
    · exact (h4 k h).1
    · omega
  · have := h5 k hk'; omega
  · rcases hh with h | h
    · exact h4 k h
    · omega
theorem both_abort {w0 N : Nat} {w : World} {qa qb : Nat} {sa sb : St} (n : Int) (h : Both w0 N w qa qb sa sb) :
    Calls Try.prog 18 #[.pointer (some ⟨qa, 0, none⟩), .int .i64 n] w fun e w' => e = .returned (.bool (sAbort sa n).1) ∧ Both w0 N w' qa qb (sAbort sa n).2 sb ∧ Keeps (fun k => w0 ≤ k ∧ k < N) w w' := by
  obtain ⟨h0, Ga, Gb, h1, h2, h3, h4, h5⟩ := h
  refine (que_abort qa 8 sa Ga n w h1).mono ?_
  rintro e w' ⟨rfl, hq, hk⟩
  exact ⟨rfl, ⟨Nat.le_trans h0 hk.size, Ga, Gb, hq.mono fun k _ hk => hk.1, h2.keeps hk (fun k _ hb ha => h3 k ha hb), h3, h4, h5⟩, hk.mono fun k _ hh => h4 k hh⟩
theorem both_done {w0 N : Nat} {w : World} {qa qb : Nat} {sa sb : St} (n : Int) (h : Both w0 N w qa qb sa sb) :
    Calls Try.prog 11 #[.pointer (some ⟨qa, 0, none⟩), .int .i64 n] w fun e w' => e = .returned (.int .i64 (sDone sa n).1) ∧ Both w0 N w' qa qb (sDone sa n).2 sb ∧ Keeps (fun k => w0 ≤ k ∧ k < N) w w' := by
  obtain ⟨h0, Ga, Gb, h1, h2, h3, h4, h5⟩ := h
  refine (que_done qa 8 sa Ga n w h1).mono ?_
  rintro e w' ⟨rfl, hq, hk⟩
  exact ⟨rfl, ⟨Nat.le_trans h0 hk.size, Ga, Gb, hq.mono fun k _ hk => hk.1, h2.keeps hk (fun k _ hb ha => h3 k ha hb), h3, h4, h5⟩, hk.mono fun k _ hh => h4 k hh⟩
theorem both_take {w0 N : Nat} {w : World} {qa qb : Nat} {sa sb : St} (n : Int) (h : Both w0 N w qa qb sa sb) :
    Calls Try.prog 12 #[.pointer (some ⟨qa, 0, none⟩), .int .i64 n] w fun r w' => ∃ dv', r = .returned (.tuple #[.agg ((sTake sa n).1.cells dv'), .int .i64 (sTake sa n).2.1]) ∧ Owns w.heap.size w' dv' (sTake sa n).1.data ∧ (sTake sa n).1.data.length ≤ 140737488355328 ∧ Both w0 N w' qa qb (sTake sa n).2.2 sb ∧ Keeps (fun k => w0 ≤ k ∧ k < N) w w' := by
  obtain ⟨h0, Ga, Gb, h1, h2, h3, h4, h5⟩ := h
  refine (que_take qa 8 sa Ga n w h1).mono ?_
  rintro e w' ⟨dv', rfl, ho, hl, hq, hk⟩
  exact ⟨dv', rfl, ho, hl, ⟨Nat.le_trans h0 hk.size, Ga, Gb, hq.mono fun k _ hk => hk.1, h2.keeps hk (fun k _ hb ha => h3 k ha hb), h3, h4, h5⟩, hk.mono fun k _ hh => h4 k hh⟩
theorem both_len {w0 N : Nat} {w : World} {qa qb : Nat} {sa sb : St} (h : Both w0 N w qa qb sa sb) :
    Calls Try.prog 10 #[.pointer (some ⟨qa, 0, none⟩)] w fun e w' => e = .returned (.int .i64 sa.length) ∧ w = w' := by
  obtain ⟨h0, Ga, Gb, h1, h2, h3, h4, h5⟩ := h
  exact que_len _ qa 8 sa Ga w h1
theorem both_ready {w0 N : Nat} {w : World} {qa qb : Nat} {sa sb : St} (h : Both w0 N w qa qb sa sb) :
    Calls Try.prog 9 #[.pointer (some ⟨qa, 0, none⟩)] w fun e w' => ∃ v, e = .returned v ∧ (∃ tl, Told w.heap.size w' v tl ∧ tl.map (·.1) = sReady sa) ∧ Below w.heap.size w w' := by
  obtain ⟨h0, Ga, Gb, h1, h2, h3, h4, h5⟩ := h
  exact que_ready qa 8 sa Ga w h1
theorem Both.lt {w0 N : Nat} {w : World} {qa qb : Nat} {sa sb : St} (h : Both w0 N w qa qb sa sb) : N ≤ w.heap.size ∧ sa.length ≤ 8 := by
  obtain ⟨h0, Ga, Gb, h1, _⟩ := h
  exact ⟨h0, h1.lt.2.2⟩
/-- What turns neither's memory. -/
theorem Both.keeps {w0 N : Nat} {w w' : World} {qa qb : Nat} {sa sb : St} {H : Nat → Prop} (h : Both w0 N w qa qb sa sb) (hk : Keeps H w w') (hH : ∀ k, w0 ≤ k → k < N → ¬ H k) : Both w0 N w' qa qb sa sb := by
  obtain ⟨h0, Ga, Gb, h1, h2, h3, h4, h5⟩ := h
  exact ⟨Nat.le_trans h0 hk.size, Ga, Gb, h1.keeps hk (fun k _ hg => hH k (h4 k hg).1 (h4 k hg).2), h2.keeps hk (fun k _ hg => hH k (h5 k hg).1 (h5 k hg).2), h3, h4, h5⟩
end Go.Proofs.Ytknjiphgpoifcaa
