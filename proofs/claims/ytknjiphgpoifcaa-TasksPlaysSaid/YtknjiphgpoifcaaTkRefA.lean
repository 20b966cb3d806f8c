/-
  The document's queue: New, ready.
-/
import Derived.Test.YtknjiphgpoifcaaTkModel
import Derived.Deep.LoopGhost
import Derived.Deep.CutRange
namespace Go.Proofs.Ytknjiphgpoifcaa
open Go.RowKit

theorem newR_yes (room : Nat) (w : World) (h1 : 1 ≤ room) (h2 : room ≤ 8) :
    Calls Try.prog 13 #[.int .i64 (room : Int)] w fun e w' => e = .returned (.pointer (some ⟨w.heap.size, 0, none⟩)) ∧ QAt 65 w' w.heap.size room [] (· = w.heap.size) ∧ Below w.heap.size w w' := by
  have t1 : decide ((room : Int) < 1) = false := by simp; omega
  have t2 : decide ((8 : Int) < (room : Int)) = false := by simp; omega
  go_enter Try.func13, Try.ntmps13
  go_wp2
  go_ret
  refine ⟨rfl, ⟨rfl, fun k hk => by rw [hk]; simp, by simp, fun j => by simp, by simp, .slice none 0 0, by simp, World.ownsRow_nil _ _ _ _, fun g hg => by simp [Value.ownBlock] at hg, fun e he => by simp at he⟩, (Below.refl _ _).alloc (Nat.le_refl _) _⟩
theorem newR_no (room : Int) (w : World) (h : room < 1 ∨ 8 < room) :
    Calls Try.prog 13 #[.int .i64 room] w fun e w' => e = .returned (.pointer none) ∧ w = w' := by
  by_cases h1 : room < 1
  · have t1 : decide (room < 1) = true := by simp [h1]
    clear h
    go_enter Try.func13, Try.ntmps13
    go_wp2
    go_ret
    exact ⟨rfl, rfl⟩
  · have t1 : decide (room < 1) = false := by simp; omega
    have t2 : decide (8 < room) = true := by simp; omega
    clear h
    go_enter Try.func13, Try.ntmps13
    go_wp2
    go_ret
    exact ⟨rfl, rfl⟩

/-- Is the task at a place ready? -/
def readyAt (l : List El) (i : Nat) : Bool := match l[i]? with
  | none => false
  | some e => !e.u && (l.take i).all fun x => !(e.t.ord || x.t.ord)
theorem readyAt_of (l : List El) (i : Nat) (e : El) (h : l[i]? = some e) : readyAt l i = (!e.u && (l.take i).all fun x => !(e.t.ord || x.t.ord)) := by
  unfold readyAt; rw [h]

set_option maxRecDepth 100000 in
set_option maxHeartbeats 3200000 in
theorem rready_any (q room : Nat) (l : List El) (F : Nat → Prop) (i : Nat) (e : El) (w : World) (h : QAt 65 w q room l F) (he : l[i]? = some e) :
    Calls Try.prog 29 #[.pointer (some ⟨q, 0, none⟩), .int .i64 (i : Int)] w fun r w' => r = .returned (.bool (readyAt l i)) ∧ w = w' := by
  have hil : i < l.length := (List.getElem?_eq_some_iff.1 he).1
  have hle := h.le
  obtain ⟨av, hav, hrow⟩ := h.row
  obtain ⟨g, cap, rfl⟩ := hrow.form (by omega)
  have HR := Lib.hid hrow; clear hrow
  have xu := HR.out.cell i e he 11 (by omega)
  have xo := HR.out.cell i e he 3 (by omega)
  simp only [El.cells, List.getElem?_cons_zero, List.getElem?_cons_succ] at xu xo
  have HA := Lib.hid (readyAt_of l i e he)
  clear he h
  obtain ⟨⟨cmd, tag, op, ord, fua, vol, lba, cnt, siz, quo, data⟩, dv, u⟩ := e
  cases u with
  | true =>
    go_enter Try.func29, Try.ntmps29
    go_wp2_with fail
    go_ret
    exact ⟨by rw [HA.out]; rfl, rfl⟩
  | false =>
    go_enter Try.func29, Try.ntmps29
    go_wp2_with fail
    go_loopg [5] i (fun g s5 wx => wx = w ∧ ∃ j : Nat, s5 = .int .i64 j ∧ j + g = i ∧ ∀ m x, m < j → l[m]? = some x → (ord || x.t.ord) = false)
    case atStart => exact ⟨rfl, 0, rfl, by omega, fun m x hm => by omega⟩
    case round =>
      obtain ⟨hw, j, rfl, hjg, hall⟩ := hrel
      subst hw
      have HL := Lib.hid hall; clear hall
      by_cases hj : j < i
      case neg =>
        obtain rfl : j = i := by omega
        have hb : readyAt l j = true := by
          rw [HA.out]
          simp only [Bool.not_false, Bool.true_and, List.all_eq_true]
          intro x hx
          obtain ⟨m, hm, hmx⟩ := List.mem_iff_getElem.1 hx
          rw [List.getElem_take] at hmx
          rw [List.length_take] at hm
          have := HL.out m x (by omega) (by rw [← hmx]; exact List.getElem?_eq_getElem (by omega))
          rw [this]
          rfl
        have HBt := Lib.hid hb; clear hb
        go_wp2_with fail
        go_ret
        exact ⟨by rw [HBt.out]; rfl, rfl⟩
      case pos =>
        obtain ⟨y, hy⟩ : ∃ y, l[j]? = some y := ⟨l[j], List.getElem?_eq_getElem (by omega)⟩
        have yo := HR.out.cell j y hy 3 (by omega)
        simp only [El.cells, List.getElem?_cons_zero, List.getElem?_cons_succ] at yo
        have hno : (ord || y.t.ord) = true → Hid (readyAt l i = false) := fun hb => Lib.hid (by
          rw [HA.out, Bool.not_false, Bool.true_and, List.all_eq_false]
          refine ⟨y, ?_, by rw [hb]; simp⟩
          rw [List.mem_iff_getElem?]
          exact ⟨j, by rw [List.getElem?_take, if_pos hj]; exact hy⟩)
        have HY := Lib.hid hy; clear hy
        obtain ⟨⟨cmd', tag', op', ord', fua', vol', lba', cnt', siz', quo', data'⟩, dv', u'⟩ := y
        cases ord with
        | true =>
          have HNo := hno rfl
          clear hno
          go_wp2_with fail
          go_ret
          exact ⟨by rw [HNo.out]; rfl, rfl⟩
        | false =>
          cases ord' with
          | true =>
            have HNo := hno rfl
            clear hno
            go_wp2_with fail
            go_ret
            exact ⟨by rw [HNo.out]; rfl, rfl⟩
          | false =>
            clear hno
            go_wp2_with fail
            go_roundg (gk - 1)
            case measure => omega
            case rel =>
              refine ⟨rfl, j + 1, by go_num, by omega, fun m x hm hx => ?_⟩
              rcases Nat.lt_or_eq_of_le (Nat.lt_succ_iff.1 hm) with h | h
              · exact HL.out m x h hx
              · subst h
                have := hx.symm.trans HY.out
                injection this with this
                rw [this]; rfl
end Go.Proofs.Ytknjiphgpoifcaa
