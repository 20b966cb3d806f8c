/-
  Slices of bytes that came in: how they read, and that they stay.
-/
import Derived.Test.YthocdlihhfhbeaaCrcKnown
import Derived.OpenShut
namespace Go.Proofs.Ythocdlihhfhbeaa
open Go.RowKit

/-- A slice lies below block number B. -/
def LiesBelow (v : Value) (B : Nat) : Prop := ∀ a n c, v = .slice (some a) n c → 0 < n → a.block < B
theorem LiesBelow.avoids {v : Value} {B b : Nat} (h : LiesBelow v B) (hb : B ≤ b) : Avoids v b := fun a n c e hn => by have := h a n c e hn; omega
theorem BytesAt.below {w w' : World} {B : Nat} {v : Value} {l : List Nat} (h : BytesAt w v l) (ho : Below B w w') (ha : LiesBelow v B) : BytesAt w' v l := by
  rcases h with h | ⟨bd, off, cap, rfl, hc⟩
  · exact .inl h
  · exact .inr ⟨bd, off, cap, rfl, fun i hi => (ho.cell (p := ⟨bd, off + i, none⟩) (ha ⟨bd, off, none⟩ _ _ rfl (by omega))).trans (hc i hi)⟩
theorem block_lt {w : World} {a : Addr} {v : Value} (h : w.cell? a = some v) : a.block < w.heap.size := by
  rcases Nat.lt_or_ge a.block w.heap.size with h' | h'
  · exact h'
  · simp [World.cell?, Array.getElem?_eq_none h'] at h
theorem BytesAt.lies {w : World} {v : Value} {l : List Nat} (h : BytesAt w v l) : LiesBelow v w.heap.size := by
  rcases h with ⟨rfl, ao, cap, rfl, _⟩ | ⟨bd, off, cap, rfl, hc⟩
  · intro a n c e hn
    injection e with _ e2 _
    omega
  · intro a n c e hn
    injection e with e1 e2 _
    injection e1 with e1
    subst e1; subst e2
    exact block_lt (hc 0 hn)

/-- What the row's step tells of a slice of integers that came in. -/
def IsRow (k : IntKind) (w : World) (a : Option Addr) (len cap : Nat) (zs : List Int) : Prop :=
  (a = none ∧ len = 0 ∧ cap = 0 ∧ zs = []) ∨
  ∃ x, a = some x ∧ len ≤ cap ∧ cap ≤ maxLen ∧ zs.length = cap ∧ (∀ i, i < zs.length → w.cell? (x.add i) = some (.int k (zs.getD i 0))) ∧ ∀ n ∈ zs, (Lit.int k n).wf = true

theorem bytes_of_row {w : World} {a : Option Addr} {len cap : Nat} {zs : List Int} (h : IsRow .u8 w a len cap zs) :
    ∃ l : List Nat, l.length = len ∧ Crc.Bytes l ∧ l.length ≤ 9223372036854775807 ∧ BytesAt w (.slice a len cap) l := by
  rcases h with ⟨rfl, rfl, rfl, rfl⟩ | ⟨x, rfl, hl, hm, hz, hc, hwf⟩
  · exact ⟨[], rfl, fun b hb => by simp at hb, by simp, .inl ⟨rfl, none, 0, rfl, fun _ => rfl⟩⟩
  · refine ⟨(zs.take len).map Int.toNat, by simp; omega, ?_, by unfold maxLen at hm; simp; omega, ?_⟩
    · intro b hb
      obtain ⟨n, hn, rfl⟩ := List.mem_map.1 hb
      have := hwf n (List.mem_of_mem_take hn)
      simp [Lit.wf, IntKind.min, IntKind.max, IntKind.signed, IntKind.bits] at this
      omega
    · by_cases h0 : len = 0
      · subst h0
        exact .inl ⟨by simp, _, _, rfl, fun h => by cases h⟩
      · obtain ⟨b, off, rfl, hc'⟩ := ints_at hc (by omega)
        refine .inr ⟨b, off, cap, by congr 1; simp; omega, fun i hi => ?_⟩
        have hi' : i < len := by simp at hi; omega
        have hz' : i < zs.length := by omega
        rw [hc' i hz']
        have hw := hwf zs[i] (List.getElem_mem hz')
        simp [Lit.wf, IntKind.min, IntKind.max, IntKind.signed, IntKind.bits] at hw
        have e1 : zs.getD i 0 = zs[i] := by simp [List.getD, hz']
        have e2 : ((zs.take len).map Int.toNat).getD i 0 = zs[i].toNat := by simp [List.getD, hi', hz']
        rw [e1, e2]
        congr 2
        omega

theorem len_of_row {k : IntKind} {w : World} {a : Option Addr} {len cap : Nat} {zs : List Int} (h : IsRow k w a len cap zs) : len ≤ zs.length := by
  rcases h with ⟨rfl, rfl, rfl, rfl⟩ | ⟨x, rfl, hl, hm, hz, hc, hwf⟩
  · simp
  · omega

theorem cap_of_row {k : IntKind} {w : World} {a : Option Addr} {len cap : Nat} {zs : List Int} (h : IsRow k w a len cap zs) : len ≤ cap := by
  rcases h with ⟨rfl, rfl, rfl, rfl⟩ | ⟨x, rfl, hl, hm, hz, hc, hwf⟩
  · simp
  · omega

/-- A number of 32 bits that came in. -/
theorem u32_of_wf {n : Int} (h : (Lit.int .u32 n).wf = true) : ∃ s : Nat, n = s ∧ s < 4294967296 := by
  simp [Lit.wf, IntKind.min, IntKind.max, IntKind.signed, IntKind.bits] at h
  exact ⟨n.toNat, by omega, by omega⟩
end Go.Proofs.Ythocdlihhfhbeaa
