/-
  Slices of bools and of ints that came in, opened.
-/
import Derived.Test.YtknjiphgpoifcaaTkOrdWalk
import Derived.Deep.Grids
import Derived.OpenShut
namespace Go.Proofs.Ytknjiphgpoifcaa
open Go.RowKit Go.ChangeShapes Go.WideShapes Go.Deep

theorem addr_flat {w : World} {x : Addr} {v : Value} (h : w.cell? (x.add 0) = some v) : x = ⟨x.block, x.off, none⟩ := by
  obtain ⟨b, off, spot⟩ := x
  have hspot : spot = none := by simpa [Addr.add] using World.cell?_spot h
  subst hspot
  rfl
theorem bools_in {H : Type} {enc : TypeId × Value → H} {W : World} {a : Option Addr} {n c : Nat} {d : DataW H} {p : List MemPlace} (h : DataW.Trod enc Try.prog W 0 (fun _ => true) true 22 (.slice a n c) d p) :
    ∃ l, BoolsAt W (.slice a n c) l ∧ n ≤ maxLen := by
  obtain ⟨fuel, hf⟩ := h
  rcases open_bools Try.underlying22 Try.underlying4 (by kernel_rfl) hf with ⟨hcs, _⟩ | ⟨x, len, cap, B, hcs, _, hl, hm, _, hc⟩
  · simp [Value.cells] at hcs
    obtain ⟨rfl, rfl, rfl⟩ := hcs
    exact ⟨[], ⟨none, 0, rfl, fun i hi => by simp at hi⟩, Nat.zero_le _⟩
  · simp [Value.cells] at hcs
    obtain ⟨rfl, rfl, rfl⟩ := hcs
    refine ⟨(List.range n).map B, ⟨some x, c, by simp, fun i hi => ?_⟩, by omega⟩
    have hi' : i < n := by simpa using hi
    have e := addr_flat (hc 0 (by omega))
    have h1 := hc i (by omega)
    rw [e, Go.WideShapes.add_plain] at h1
    have hb := block_lt h1
    simp only at hb
    refine ⟨x.block, x.off, congrArg some e, hb, ?_⟩
    rw [h1]
    simp [hi']
theorem ints_in {H : Type} {enc : TypeId × Value → H} {W : World} {a : Option Addr} {n c : Nat} {d : DataW H} {p : List MemPlace} (h : DataW.Trod enc Try.prog W 0 (fun _ => true) true 23 (.slice a n c) d p) :
    ∃ l, IntsAt W (.slice a n c) l ∧ n ≤ maxLen := by
  obtain ⟨fuel, hf⟩ := h
  rcases open_ints Try.underlying23 Try.underlying3 (by kernel_rfl) hf with ⟨hcs, _⟩ | ⟨x, len, cap, zs, hcs, _, hl, hm, hz, _, hc, _⟩
  · simp [Value.cells] at hcs
    obtain ⟨rfl, rfl, rfl⟩ := hcs
    exact ⟨[], ⟨none, 0, rfl, fun i hi => by simp at hi⟩, Nat.zero_le _⟩
  · simp [Value.cells] at hcs
    obtain ⟨rfl, rfl, rfl⟩ := hcs
    simp at hz
    refine ⟨zs.take n, ⟨some x, c, by rw [List.length_take]; congr 1; omega, fun i hi => ?_⟩, by omega⟩
    have hi' : i < n := by simp at hi; omega
    obtain ⟨b, off, rfl, hc'⟩ := ints_at hc (by omega)
    have h1 := hc' i (by omega)
    refine ⟨b, off, rfl, block_lt h1, ?_⟩
    rw [h1]
    simp [List.getD, hi']
end Go.Proofs.Ytknjiphgpoifcaa
