/-
  The model's laws: two lists of volumes that are the same.
-/
import Derived.Test.YtmanldcohbegkaaMdLaw
import Derived.BigQuiet
namespace Go.Proofs.Ytmanldcohbegkaa
open Go.RowKit

theorem volsV_get : ∀ (l : List Vo) (k j : Nat) (v : Vo), l[k]? = some v → j < 6 → (volsV l)[k * 6 + j]? = (vcell v v.bl.length)[j]?
  | [], k, j, v, h, _ => by simp at h
  | u :: l, 0, j, v, h, hj => by
    simp at h; subst h
    unfold volsV
    rw [List.flatMap_cons, List.getElem?_append_left (by simp [vcell]; omega), Nat.zero_mul, Nat.zero_add]
  | u :: l, k + 1, j, v, h, hj => by
    unfold volsV
    rw [List.flatMap_cons, List.getElem?_append_right (by simp [vcell]; omega)]
    have e : (k + 1) * 6 + j - (vcell u u.bl.length).length = k * 6 + j := by simp [vcell]; omega
    rw [e]
    exact volsV_get l k j v (by simpa using h) hj

set_option maxRecDepth 100000 in
set_option maxHeartbeats 6400000 in
theorem eqvols_any (base1 base2 : Nat) (r1 r2 : Value) (vols : List Vo) (n : Nat) (w : World) (h1 : w.ownsRow base1 45 6 r1 n (volsV vols)) (h2 : w.ownsRow base2 45 6 r2 n (volsV vols)) (hn : n ≤ vols.length) (hn2 : vols.length ≤ n) (hn8 : n ≤ 8) :
    Calls Try.prog 16 #[r1, r2] w fun e w' => e = .returned (.bool true) ∧ Below w.heap.size w w' := by
  have row : ∀ {b r}, w.ownsRow b 45 6 r n (volsV vols) → (r = .slice none 0 0 ∧ n = 0) ∨ ∃ g cap, r = .slice (some ⟨g, 0, none⟩) n cap ∧ g < w.heap.size := by
    intro b r h
    rcases h.2 with ⟨e, e2⟩ | ⟨g, cap, cur, e, _, hg, _⟩
    · exact .inl ⟨e, e2⟩
    · exact .inr ⟨g, cap, e, (Array.getElem?_eq_some_iff.1 hg).1⟩
  by_cases h0 : n = 0
  · subst h0
    obtain ⟨a1, c1, rfl⟩ : ∃ a c, r1 = .slice a 0 c := by
      rcases row h1 with ⟨e, _⟩ | ⟨g, cap, e, _⟩ <;> exact ⟨_, _, e⟩
    obtain ⟨a2, c2, rfl⟩ : ∃ a c, r2 = .slice a 0 c := by
      rcases row h2 with ⟨e, _⟩ | ⟨g, cap, e, _⟩ <;> exact ⟨_, _, e⟩
    clear h1 h2 row
    go_enter Try.func16, Try.ntmps16
    go_wp2_with fail
    go_loopw [5] (fun i wr => i = .int .i64 0 ∧ Below w.heap.size w wr) (fun _ _ => 0)
    case atStart => exact ⟨rfl, Below.refl _ _⟩
    case round =>
      obtain ⟨rfl, hb⟩ := hrel
      have HB := Lib.hid hb; clear hb
      go_wp2
      go_ret
      exact ⟨rfl, HB.out⟩
  · obtain ⟨g1, cap1, rfl, hg1⟩ := (row h1).resolve_left (fun h => h0 h.2)
    obtain ⟨g2, cap2, rfl, hg2⟩ := (row h2).resolve_left (fun h => h0 h.2)
    clear row h0
    skip
    have H1 := Lib.hid h1; clear h1
    have H2 := Lib.hid h2; clear h2
    go_enter Try.func16, Try.ntmps16
    go_wp2_with fail
    go_loopw [5] (fun i wr => ∃ k : Nat, k ≤ n ∧ i = .int .i64 k ∧ Below w.heap.size w wr) (fun i _ => n - (intOf i).toNat)
    case atStart => exact ⟨0, by omega, rfl, Below.refl _ _⟩
    case round =>
      obtain ⟨k, hk, rfl, hb⟩ := hrel
      have HB := Lib.hid hb; clear hb
      by_cases hlt : k < n
      · have hkn : (k : Int) < (n : Int) := by omega
        have hk0 : (0 : Int) ≤ (k : Int) := by omega
        obtain ⟨v, hv⟩ : ∃ v, vols[k]? = some v := ⟨vols[k]'(by omega), by simp [show k < vols.length by omega]⟩
        have q : ∀ {b g cap} (h : w.ownsRow b 45 6 (.slice (some ⟨g, 0, none⟩) n cap) n (volsV vols)) (hg : g < w.heap.size) (j : Nat), j < 6 → wr.cell? ⟨g, k * 6 + j, none⟩ = (vcell v v.bl.length)[j]? := fun h hg j hj =>
          (HB.out.cell (p := ⟨_, k * 6 + j, none⟩) hg).trans ((World.ownsRow.cellAt h (k * 6 + j) (by omega)).trans (volsV_get vols k j v hv hj))
        have a0 := q H1.out hg1 0 (by omega)
        have a1 := q H1.out hg1 1 (by omega)
        have a2 := q H1.out hg1 2 (by omega)
        have a3 := q H1.out hg1 3 (by omega)
        have a4 := q H1.out hg1 4 (by omega)
        have a5 := q H1.out hg1 5 (by omega)
        have b0 := q H2.out hg2 0 (by omega)
        have b1 := q H2.out hg2 1 (by omega)
        have b2 := q H2.out hg2 2 (by omega)
        have b3 := q H2.out hg2 3 (by omega)
        have b4 := q H2.out hg2 4 (by omega)
        have b5 := q H2.out hg2 5 (by omega)
        simp only [vcell, List.getElem?_cons_zero, List.getElem?_cons_succ, Nat.add_zero] at a0 a1 a2 a3 a4 a5 b0 b1 b2 b3 b4 b5
        clear q hv
        go_wp2_with fail
        go_quiet (fail)
        go_wp2
        exact ⟨⟨k + 1, by omega, by simp, below_drewN HB.out _⟩, by simp only [intOf]; omega⟩
      · obtain rfl : k = n := by omega
        have hkk : ¬ (k : Int) < (k : Int) := by omega
        go_wp2
        go_ret
        exact ⟨rfl, HB.out⟩
end Go.Proofs.Ytmanldcohbegkaa
