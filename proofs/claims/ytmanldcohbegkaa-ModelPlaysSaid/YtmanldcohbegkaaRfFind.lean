/-
  The document's model: what only reads: find, mapped; sized, place.
-/
import Derived.Test.YtmanldcohbegkaaRfBase
namespace Go.Proofs.Ytmanldcohbegkaa
open Go.RowKit

theorem hidNo {α : Type} {p : α → Bool} {l : List α} {k : Nat} {e : α} (h : ∀ j, j < k → ∀ x, l[j]? = some x → p x = false) (he : l[k]? = some e) (hp : p e = false) : ∀ j, j < k + 1 → ∀ x, l[j]? = some x → p x = false := by
  intro j hj x hx
  by_cases hjk : j = k
  · subst hjk
    rw [he] at hx
    injection hx with hx
    rw [← hx]; exact hp
  · exact h j (by omega) x hx

set_option maxRecDepth 100000 in
set_option maxHeartbeats 1600000 in
theorem rfind_any (r : Nat) (lv : Value) (vs : List (Vo × Value)) (S : Mo) (W : Nat → Prop) (id : Int) (w : World) (h : RefIs w r lv vs S W) (hlen : vs.length ≤ 8) :
    Calls Try.prog 40 #[.pointer (some ⟨r, 0, none⟩), .int .i64 id] w fun e w' => e = .returned (.int .i64 (firstAt (fun v : Vo => v.id == id) S.vols)) ∧ w = w' := by
  rw [h.vols, firstAt_map]
  obtain ⟨f, hfd⟩ : ∃ f : Vo × Value → Bool, f = fun p => p.1.id == id := ⟨_, rfl⟩
  rw [← hfd]
  have HF := Lib.hid hfd; clear hfd
  obtain ⟨a, c, rfl, hform⟩ := ownsForm h.row
  obtain ⟨n, hn⟩ : ∃ n, n = vs.length := ⟨_, rfl⟩
  rw [← hn] at h hform hlen
  have hn1 : n ≤ vs.length := by omega
  have hn2 : vs.length ≤ n := by omega
  clear hn
  have c0 := h.head.cell 0
  simp only [List.getElem?_toArray, List.getElem?_cons_zero] at c0
  have H := Lib.hid h; clear h
  have HFM := Lib.hid hform; clear hform
  go_enter Try.func40, Try.ntmps40
  go_wp2_with fail
  go_loopw [5] (fun i wr => ∃ k : Nat, k ≤ n ∧ i = .int .i64 (k : Int) ∧ w = wr ∧ ∀ j, j < k → ∀ x, vs[j]? = some x → f x = false) (fun i _ => n - (intOf i).toNat)
  case atStart => exact ⟨0, by omega, rfl, rfl, fun j hj => by omega⟩
  case round =>
    obtain ⟨k, hk, rfl, rfl, hno⟩ := hrel
    have HN := Lib.hid hno; clear hno
    by_cases hlt : k < n
    · have hkn : (k : Int) < (n : Int) := by omega
      have hk0 : (0 : Int) ≤ (k : Int) := by omega
      have hkz : ((k : Int)).toNat = k := by omega
      obtain ⟨g, rfl⟩ : ∃ g, a = some ⟨g, 0, none⟩ := by
        rcases HFM.out with ⟨_, h0, _⟩ | ⟨g, e, _⟩
        · omega
        · exact ⟨g, e⟩
      obtain ⟨p, hp⟩ : ∃ p, vs[k]? = some p := ⟨vs[k]'(by omega), by simp [show k < vs.length by omega]⟩
      have q0 := H.out.cell hp 0 (by omega)
      simp only [vcell4, List.getElem?_cons_zero, Nat.add_zero] at q0
      have HP := Lib.hid hp; clear hp
      by_cases hid : f p = true
      · have hb : (p.1.id == id) = true := by rw [HF.out] at hid; exact hid
        have HI := Lib.hid hid; clear hid
        go_wp2
        go_ret
        exact ⟨by rw [firstAt_some HP.out HI.out HN.out]; rfl, by first | rfl | trivial⟩
      · rw [Bool.not_eq_true] at hid
        have hb : (p.1.id == id) = false := by rw [HF.out] at hid; exact hid
        have HI := Lib.hid hid; clear hid
        go_wp2
        go_roundw
        case rel => exact ⟨k + 1, by omega, by simp, by first | rfl | trivial, hidNo HN.out HP.out HI.out⟩
        case measure => simp only [intOf]; omega
    · obtain rfl : k = n := by omega
      have hkk : ¬ (k : Int) < (k : Int) := by omega
      go_wp2
      go_ret
      exact ⟨by rw [firstAt_none (fun j hj => HN.out j (by omega))]; rfl, by first | rfl | trivial⟩

set_option maxRecDepth 100000 in
set_option maxHeartbeats 1600000 in
theorem mapped_any (W : Nat → Prop) (v : Vo) (bv : Value) (es : REs) (k0 : Int) (w : World) (h : RRow W w bv es) (hlen : es.length ≤ 1048576) :
    Calls Try.prog 45 #[.agg #[.int .i64 v.id, .int .i64 v.size, .int .i64 v.quota, bv], .int .i64 k0] w fun e w' => e = .returned (.int .i64 (placeOf k0 es)) ∧ Below w.heap.size w w' := by
  unfold placeOf
  obtain ⟨f, hfd⟩ : ∃ f : Int × (Value × List Nat) → Bool, f = fun p => p.1 == k0 := ⟨_, rfl⟩
  rw [← hfd]
  have HF := Lib.hid hfd; clear hfd
  obtain ⟨a, c, rfl, hform⟩ := ownsForm h.row
  obtain ⟨n, hn⟩ : ∃ n, n = es.length := ⟨_, rfl⟩
  rw [← hn] at h hform hlen ⊢
  have hn1 : n ≤ es.length := by omega
  have hn2 : es.length ≤ n := by omega
  clear hn
  obtain ⟨w1, hw1⟩ : ∃ w1, w1 = w.alloc (.cells #[.int .i64 v.id, .int .i64 v.size, .int .i64 v.quota, .slice a n c] 69) := ⟨_, rfl⟩
  have hb1 : Below w.heap.size w w1 := by rw [hw1]; exact allocBelow w _
  have hc1 : CellsAt w1 w.heap.size #[.int .i64 v.id, .int .i64 v.size, .int .i64 v.quota, .slice a n c] 69 := by rw [hw1]; exact heap_at rfl
  have c3 := hc1.cell 3
  simp only [List.getElem?_toArray, List.getElem?_cons_zero, List.getElem?_cons_succ] at c3
  have H := Lib.hid (h.keeps (Keeps.of_below (F := fun _ => False) hb1) (fun _ _ h => h)); clear h
  have HB := Lib.hid hb1; clear hb1
  have HFM := Lib.hid hform; clear hform hc1
  go_enter Try.func45, Try.ntmps45
  go_upto_region 1 with fail
  rw [← hw1]
  clear hw1
  go_wp2_with fail
  go_loopw [5] (fun i wr => ∃ k : Nat, k ≤ n ∧ i = .int .i64 (k : Int) ∧ w1 = wr ∧ ∀ j, j < k → ∀ x, es[j]? = some x → f x = false) (fun i _ => n - (intOf i).toNat)
  case atStart => exact ⟨0, by omega, rfl, rfl, fun j hj => by omega⟩
  case round =>
    obtain ⟨k, hk, rfl, rfl, hno⟩ := hrel
    have HN := Lib.hid hno; clear hno
    by_cases hlt : k < n
    · have hkn : (k : Int) < (n : Int) := by omega
      have hk0 : (0 : Int) ≤ (k : Int) := by omega
      have hkz : ((k : Int)).toNat = k := by omega
      obtain ⟨g, rfl⟩ : ∃ g, a = some ⟨g, 0, none⟩ := by
        rcases HFM.out with ⟨_, h0, _⟩ | ⟨g, e, _⟩
        · omega
        · exact ⟨g, e⟩
      obtain ⟨p, hp⟩ : ∃ p, es[k]? = some p := ⟨es[k]'(by omega), by simp [show k < es.length by omega]⟩
      have q0 := H.out.cell hp 0 (by omega)
      simp only [bcell, List.getElem?_cons_zero, Nat.add_zero] at q0
      have HP := Lib.hid hp; clear hp
      by_cases hid : f p = true
      · have hb : (p.1 == k0) = true := by rw [HF.out] at hid; exact hid
        have HI := Lib.hid hid; clear hid
        go_wp2
        go_ret
        exact ⟨by rw [firstAt_some HP.out HI.out HN.out]; rfl, HB.out⟩
      · rw [Bool.not_eq_true] at hid
        have hb : (p.1 == k0) = false := by rw [HF.out] at hid; exact hid
        have HI := Lib.hid hid; clear hid
        go_wp2
        go_roundw
        case rel => exact ⟨k + 1, by omega, by simp, by first | rfl | trivial, hidNo HN.out HP.out HI.out⟩
        case measure => simp only [intOf]; omega
    · obtain rfl : k = n := by omega
      have hkk : ¬ (k : Int) < (k : Int) := by omega
      go_wp2
      go_ret
      exact ⟨by rw [firstAt_none (fun j hj => HN.out j (by omega))]; rfl, HB.out⟩

set_option maxRecDepth 100000 in
set_option maxHeartbeats 1600000 in
theorem rsized_any (n : Int) (w : World) : Calls Try.prog 42 #[.int .i64 n] w fun e w' => e = .returned (.bool (sizedB n)) ∧ w = w' := by
  unfold sizedB
  by_cases h1 : 1 ≤ n
  · have e1 : decide (1 ≤ n) = true := by simp [h1]
    rw [e1]
    go_enter Try.func42, Try.ntmps42
    go_wp2
    go_ret
    exact ⟨rfl, rfl⟩
  · have e1 : decide (1 ≤ n) = false := by simp [h1]
    rw [e1]
    go_enter Try.func42, Try.ntmps42
    go_wp2
    go_ret
    exact ⟨rfl, rfl⟩
/-- The refusals for want of a place. -/
def placeS (S : Mo) : Int := if 8 ≤ S.vols.length then 32 else if 1073741824 ≤ S.next then 15 else 0
set_option maxRecDepth 100000 in
set_option maxHeartbeats 1600000 in
theorem place_any (r : Nat) (lv : Value) (vs : List (Vo × Value)) (S : Mo) (W : Nat → Prop) (w : World) (h : RefIs w r lv vs S W) (hlen : vs.length ≤ 8) :
    Calls Try.prog 43 #[.pointer (some ⟨r, 0, none⟩)] w fun e w' => e = .returned (.int .i64 (placeS S)) ∧ w = w' := by
  obtain ⟨a, c, rfl, hform⟩ := ownsForm h.row
  obtain ⟨p, hp⟩ : ∃ p, p = placeS S := ⟨_, rfl⟩
  unfold placeS at hp
  rw [← h.len] at hp
  obtain ⟨n, hn⟩ : ∃ n, n = vs.length := ⟨_, rfl⟩
  have c0 := h.head.cell 0
  have c1 := h.head.cell 1
  simp only [List.getElem?_toArray, List.getElem?_cons_zero, List.getElem?_cons_succ] at c0 c1
  have e : placeS S = p := by unfold placeS; rw [hp, h.len]
  rw [e]
  rw [← hn] at c0 hp hlen
  clear hn e h hform
  by_cases h8 : 8 ≤ n
  · rw [if_pos h8] at hp
    have h8' : (8 : Int) ≤ (n : Int) := by omega
    have HP := Lib.hid hp; clear hp
    go_enter Try.func43, Try.ntmps43
    go_wp2
    go_ret
    exact ⟨by rw [HP.out]; rfl, rfl⟩
  rw [if_neg h8] at hp
  have h8' : ¬ (8 : Int) ≤ (n : Int) := by omega
  by_cases h9 : 1073741824 ≤ S.next
  · rw [if_pos h9] at hp
    have HP := Lib.hid hp; clear hp
    go_enter Try.func43, Try.ntmps43
    go_wp2
    go_ret
    exact ⟨by rw [HP.out]; rfl, rfl⟩
  · rw [if_neg h9] at hp
    have HP := Lib.hid hp; clear hp
    go_enter Try.func43, Try.ntmps43
    go_wp2
    go_ret
    exact ⟨by rw [HP.out]; rfl, rfl⟩
end Go.Proofs.Ytmanldcohbegkaa
