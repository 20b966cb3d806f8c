/-
  Same: of two tasks that are one.
-/
import Derived.Test.YtknjiphgpoifcaaTkKnown
import Derived.Deep.QuietTactic
import Derived.BigQuiet
import Derived.Deep.CutRange
import Derived.Deep.LoopGhost
namespace Go.Proofs.Ytknjiphgpoifcaa
open Go.RowKit

theorem BytesAt.at {w : World} {a : Option Addr} {n c : Nat} {l : List Nat} (h : BytesAt w (.slice a n c) l) (k : Nat) (hk : k < l.length) : ∃ b o, a = some ⟨b, o, none⟩ ∧ b < w.heap.size ∧ w.cell? ⟨b, o + k, none⟩ = some (.int .u8 (l.getD k 0 : Nat)) := by
  have hl := h.lies
  rcases h with ⟨rfl, _⟩ | ⟨b, o, c', e, hc⟩
  · simp at hk
  · injection e with e1 e2 e3
    exact ⟨b, o, e1, hl _ _ _ (by rw [e1]) (by omega), hc k hk⟩

set_option maxRecDepth 100000 in
set_option maxHeartbeats 3200000 in
theorem same_yes (t : Tk) (da db : Value) (w : World) (ha : BytesAt w da t.data) (hb : BytesAt w db t.data) (hl : t.data.length ≤ 140737488355328) :
    Calls Try.prog 21 #[.agg (t.cells da), .agg (t.cells db)] w fun e w' => e = .returned (.bool true) ∧ Below w.heap.size w w' := by
  obtain ⟨aa, ac, rfl, _⟩ := ha.form
  obtain ⟨ba, bc, rfl, _⟩ := hb.form
  have HA := Lib.hid ha; clear ha
  have HB := Lib.hid hb; clear hb
  have hca : ∀ o o' j, ((w.alloc (.cells (t.cells (.slice aa t.data.length ac)) o)).alloc (.cells (t.cells (.slice ba t.data.length bc)) o')).cell? ⟨w.heap.size, j, none⟩ = (t.cells (.slice aa t.data.length ac))[j]? := fun o o' j => by
    rw [World.cell?_alloc_lt _ _ _ (by simp)]
    exact World.cell?_alloc_new w _ _ j
  have hcb : ∀ o o' j, ((w.alloc (.cells (t.cells (.slice aa t.data.length ac)) o)).alloc (.cells (t.cells (.slice ba t.data.length bc)) o')).cell? ⟨w.heap.size + 1, j, none⟩ = (t.cells (.slice ba t.data.length bc))[j]? := fun o o' j => by
    simp
  have hbl : ∀ o o', Below w.heap.size w ((w.alloc (.cells (t.cells (.slice aa t.data.length ac)) o)).alloc (.cells (t.cells (.slice ba t.data.length bc)) o')) := fun o o' => ((Below.refl _ _).alloc (Nat.le_refl _) _).alloc (by simp) _
  unfold Tk.cells at hca hcb hbl ⊢
  have HCA := Lib.hid (hca 32 32)
  have HCB := Lib.hid (hcb 32 32)
  have HBL := Lib.hid (hbl 32 32)
  clear hca hcb hbl
  go_enter Try.func21, Try.ntmps21
  go_upto_region 1 with fail
  generalize (World.alloc (World.alloc w _) _) = W0 at *
  have hca := HCA.out
  have hcb := HCB.out
  go_wp2_with fail
  go_loopg [5] t.data.length (fun g s5 wx => ∃ k : Nat, s5 = .int .i64 k ∧ k + g = t.data.length ∧ ∃ m, wx = W0.drewN m)
  case atStart => exact ⟨0, rfl, by omega, 0, rfl⟩
  case round =>
    obtain ⟨k, rfl, hkg, m, rfl⟩ := hrel
    by_cases hk : k < t.data.length
    case neg =>
      go_wp2_with fail
      go_ret
      exact ⟨rfl, below_drewN HBL.out m⟩
    case pos =>
      obtain ⟨b, o, rfl, hb, xa⟩ := HA.out.at k hk
      obtain ⟨b', o', rfl, hb', xb⟩ := HB.out.at k hk
      have xa := (HBL.out.cell (p := ⟨b, o + k, none⟩) hb).trans xa
      have xb := (HBL.out.cell (p := ⟨b', o' + k, none⟩) hb').trans xb
      generalize ((t.data.getD k 0 : Nat) : Int) = y at *
      go_wp2_with fail
      go_quiet (fail)
      go_wp2_with fail
      go_roundg (gk - 1)
      case measure => omega
      case rel => exact ⟨k + 1, by go_num, by omega, _, rfl⟩
end Go.Proofs.Ytknjiphgpoifcaa
