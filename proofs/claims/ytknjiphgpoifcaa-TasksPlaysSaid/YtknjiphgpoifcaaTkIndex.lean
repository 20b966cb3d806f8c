/-
  IndexFunc over a queue's row, at each of its three closures. (Written by gen_index.py.)
-/
import Derived.Test.YtknjiphgpoifcaaTkQueue
namespace Go.Proofs.Ytknjiphgpoifcaa
open Go.RowKit

/-- The first place at which something holds, or -1. -/
def findI (p : El → Bool) (l : List El) : Int := match l.findIdx? p with | some i => (i : Int) | none => -1
theorem findI_some {p : El → Bool} {l : List El} {k : Nat} {e : El} (he : l[k]? = some e) (hp : p e = true) (hno : ∀ j, j < k → ∀ x, l[j]? = some x → p x = false) : findI p l = (k : Int) := by
  have : l.findIdx? p = some k := by
    rw [List.findIdx?_eq_some_iff_getElem]
    obtain ⟨hlt, rfl⟩ := List.getElem?_eq_some_iff.1 he
    exact ⟨hlt, hp, fun j hj => by simp [hno j hj l[j] (List.getElem?_eq_getElem (by omega))]⟩
  unfold findI; rw [this]
theorem findI_none {p : El → Bool} {l : List El} (hno : ∀ j, j < l.length → ∀ x, l[j]? = some x → p x = false) : findI p l = -1 := by
  have : l.findIdx? p = none := by
    rw [List.findIdx?_eq_none_iff]
    intro x hx
    obtain ⟨j, hj, rfl⟩ := List.mem_iff_getElem.1 hx
    exact hno j hj _ (List.getElem?_eq_getElem hj)
  unfold findI; rw [this]

def p_put (n : Int) (e : El) : Bool := e.t.cmd == n
set_option maxRecDepth 100000 in
set_option maxHeartbeats 1600000 in
theorem clo_put (e : El) (cb : Nat) (n : Int) (w : World) (hc : w.cell? ⟨cb, 0, none⟩ = some (.int .i64 n)) :
    Calls Try.prog 23 #[.agg e.cells.toArray, .pointer (some ⟨cb, 0, none⟩)] w fun r w' => r = .returned (.bool (p_put n e)) ∧ Below w.heap.size w w' := by
  have hcb := block_lt hc
  simp only at hcb
  obtain ⟨⟨cmd, tag, op, ord, fua, vol, lba, cnt, siz, quo, data⟩, dv, u⟩ := e
  have hnot : ∀ (x : Bool) (w : World), (Op.unary .not (.bool x)).run Try.prog w = .ok (.bool (!x)) w := fun _ _ => rfl
  unfold El.cells
  dsimp only
  have HP : Hid (p_put n ⟨⟨cmd, tag, op, ord, fua, vol, lba, cnt, siz, quo, data⟩, dv, u⟩ = (cmd == n)) := rfl
  cases u <;>
  · go_enter Try.func23, Try.ntmps23
    go_wp2
    go_ret
    exact ⟨by rw [HP.out]; rfl, (Below.refl _ _).alloc (Nat.le_refl _) _⟩

set_option maxRecDepth 100000 in
set_option maxHeartbeats 1600000 in
theorem index_put (T q : Nat) (av : Value) (l : List El) (F : Nat → Prop) (cb : Nat) (n : Int) (w : World) (h : RowAt T w q av l F) (hle : l.length ≤ 8) (hF : ∀ k, F k → k < w.heap.size) (hc : w.cell? ⟨cb, 0, none⟩ = some (.int .i64 n)) :
    Calls Try.prog 32 #[av, .func (.func 23) #[] #[.pointer (some ⟨cb, 0, none⟩)]] w fun r w' => r = .returned (.int .i64 (findI (p_put n) l)) ∧ Below w.heap.size w w' := by
  obtain ⟨ao, cap, rfl⟩ := h.shape
  have HR := Lib.hid h; clear h
  have hcb := block_lt hc
  simp only at hcb
  have HC := Lib.hid hc; clear hc
  go_enter Try.func32, Try.ntmps32
  go_wp2_with fail
  go_loopw [8] (fun i wr => ∃ k : Nat, k ≤ l.length ∧ i = .int .i64 k ∧ Below w.heap.size w wr ∧ ∀ j, j < k → ∀ e, l[j]? = some e → p_put n e = false) (fun i _ => l.length - (intOf i).toNat)
  case atStart => exact ⟨0, by omega, rfl, Below.refl _ _, fun j hj => by omega⟩
  case round =>
    obtain ⟨k, hk, rfl, hbel, hno⟩ := hrel
    have HB := Lib.hid hbel; clear hbel
    have HN := Lib.hid hno; clear hno
    by_cases hlt : k < l.length
    · obtain ⟨g, cap', e1⟩ := HR.out.form (by omega)
      injection e1 with e1 _ e2
      subst e1; subst e2
      obtain ⟨e, he⟩ : ∃ e, l[k]? = some e := ⟨l[k], by simp [hlt]⟩
      have hgl := hF g (HR.out.blk g rfl).1
      have hc : ∀ j, j < 12 → wr.cell? ⟨g, k * 12 + j, none⟩ = e.cells[j]? := fun j hj => (HB.out.cell (p := ⟨g, k * 12 + j, none⟩) hgl).trans (HR.out.cell k e he j hj)
      have q0 := hc 0 (by omega)
      have q1 := hc 1 (by omega)
      have q2 := hc 2 (by omega)
      have q3 := hc 3 (by omega)
      have q4 := hc 4 (by omega)
      have q5 := hc 5 (by omega)
      have q6 := hc 6 (by omega)
      have q7 := hc 7 (by omega)
      have q8 := hc 8 (by omega)
      have q9 := hc 9 (by omega)
      have q10 := hc 10 (by omega)
      have q11 := hc 11 (by omega)
      clear hc
      have HE := Lib.hid he; clear he
      have hcl := Lib.hid (clo_put e cb n wr ((HB.out.cell (p := ⟨cb, 0, none⟩) hcb).trans HC.out))
      simp only [El.cells, List.getElem?_cons_zero, List.getElem?_cons_succ, Nat.add_zero] at q0 q1 q2 q3 q4 q5 q6 q7 q8 q9 q10 q11
      unfold El.cells at hcl
      have hsz := HB.out.size
      by_cases hp : p_put n e = true
      · rw [hp] at hcl
        go_wp2_with (go_at_call 23; refine hcl.out.mono ?_; rintro r w1 ⟨rfl, hb1⟩)
        go_ret
        exact ⟨by rw [findI_some HE.out hp HN.out]; rfl, HB.out.trans (hb1.mono (by omega))⟩
      · rw [Bool.not_eq_true] at hp
        rw [hp] at hcl
        go_wp2_with (go_at_call 23; refine hcl.out.mono ?_; rintro r w1 ⟨rfl, hb1⟩)
        go_roundw
        case rel =>
          refine ⟨k + 1, by omega, by go_num, HB.out.trans (hb1.mono (by omega)), fun j hj x hx => ?_⟩
          by_cases hjk : j = k
          · subst hjk
            rw [HE.out] at hx
            injection hx with hx
            rw [← hx]; exact hp
          · exact HN.out j (by omega) x hx
        case measure => simp [intOf]; omega
    · obtain rfl : k = l.length := by omega
      go_wp2
      go_ret
      exact ⟨by rw [findI_none HN.out]; rfl, HB.out⟩

def p_done (n : Int) (e : El) : Bool := e.u && e.t.cmd == n
set_option maxRecDepth 100000 in
set_option maxHeartbeats 1600000 in
theorem clo_done (e : El) (cb : Nat) (n : Int) (w : World) (hc : w.cell? ⟨cb, 0, none⟩ = some (.int .i64 n)) :
    Calls Try.prog 28 #[.agg e.cells.toArray, .pointer (some ⟨cb, 0, none⟩)] w fun r w' => r = .returned (.bool (p_done n e)) ∧ Below w.heap.size w w' := by
  have hcb := block_lt hc
  simp only at hcb
  obtain ⟨⟨cmd, tag, op, ord, fua, vol, lba, cnt, siz, quo, data⟩, dv, u⟩ := e
  have hnot : ∀ (x : Bool) (w : World), (Op.unary .not (.bool x)).run Try.prog w = .ok (.bool (!x)) w := fun _ _ => rfl
  unfold El.cells
  dsimp only
  have HP : Hid (p_done n ⟨⟨cmd, tag, op, ord, fua, vol, lba, cnt, siz, quo, data⟩, dv, u⟩ = (u && cmd == n)) := rfl
  cases u <;>
  · go_enter Try.func28, Try.ntmps28
    go_wp2
    go_ret
    exact ⟨by rw [HP.out]; rfl, (Below.refl _ _).alloc (Nat.le_refl _) _⟩

set_option maxRecDepth 100000 in
set_option maxHeartbeats 1600000 in
theorem index_done (T q : Nat) (av : Value) (l : List El) (F : Nat → Prop) (cb : Nat) (n : Int) (w : World) (h : RowAt T w q av l F) (hle : l.length ≤ 8) (hF : ∀ k, F k → k < w.heap.size) (hc : w.cell? ⟨cb, 0, none⟩ = some (.int .i64 n)) :
    Calls Try.prog 32 #[av, .func (.func 28) #[] #[.pointer (some ⟨cb, 0, none⟩)]] w fun r w' => r = .returned (.int .i64 (findI (p_done n) l)) ∧ Below w.heap.size w w' := by
  obtain ⟨ao, cap, rfl⟩ := h.shape
  have HR := Lib.hid h; clear h
  have hcb := block_lt hc
  simp only at hcb
  have HC := Lib.hid hc; clear hc
  go_enter Try.func32, Try.ntmps32
  go_wp2_with fail
  go_loopw [8] (fun i wr => ∃ k : Nat, k ≤ l.length ∧ i = .int .i64 k ∧ Below w.heap.size w wr ∧ ∀ j, j < k → ∀ e, l[j]? = some e → p_done n e = false) (fun i _ => l.length - (intOf i).toNat)
  case atStart => exact ⟨0, by omega, rfl, Below.refl _ _, fun j hj => by omega⟩
  case round =>
    obtain ⟨k, hk, rfl, hbel, hno⟩ := hrel
    have HB := Lib.hid hbel; clear hbel
    have HN := Lib.hid hno; clear hno
    by_cases hlt : k < l.length
    · obtain ⟨g, cap', e1⟩ := HR.out.form (by omega)
      injection e1 with e1 _ e2
      subst e1; subst e2
      obtain ⟨e, he⟩ : ∃ e, l[k]? = some e := ⟨l[k], by simp [hlt]⟩
      have hgl := hF g (HR.out.blk g rfl).1
      have hc : ∀ j, j < 12 → wr.cell? ⟨g, k * 12 + j, none⟩ = e.cells[j]? := fun j hj => (HB.out.cell (p := ⟨g, k * 12 + j, none⟩) hgl).trans (HR.out.cell k e he j hj)
      have q0 := hc 0 (by omega)
      have q1 := hc 1 (by omega)
      have q2 := hc 2 (by omega)
      have q3 := hc 3 (by omega)
      have q4 := hc 4 (by omega)
      have q5 := hc 5 (by omega)
      have q6 := hc 6 (by omega)
      have q7 := hc 7 (by omega)
      have q8 := hc 8 (by omega)
      have q9 := hc 9 (by omega)
      have q10 := hc 10 (by omega)
      have q11 := hc 11 (by omega)
      clear hc
      have HE := Lib.hid he; clear he
      have hcl := Lib.hid (clo_done e cb n wr ((HB.out.cell (p := ⟨cb, 0, none⟩) hcb).trans HC.out))
      simp only [El.cells, List.getElem?_cons_zero, List.getElem?_cons_succ, Nat.add_zero] at q0 q1 q2 q3 q4 q5 q6 q7 q8 q9 q10 q11
      unfold El.cells at hcl
      have hsz := HB.out.size
      by_cases hp : p_done n e = true
      · rw [hp] at hcl
        go_wp2_with (go_at_call 28; refine hcl.out.mono ?_; rintro r w1 ⟨rfl, hb1⟩)
        go_ret
        exact ⟨by rw [findI_some HE.out hp HN.out]; rfl, HB.out.trans (hb1.mono (by omega))⟩
      · rw [Bool.not_eq_true] at hp
        rw [hp] at hcl
        go_wp2_with (go_at_call 28; refine hcl.out.mono ?_; rintro r w1 ⟨rfl, hb1⟩)
        go_roundw
        case rel =>
          refine ⟨k + 1, by omega, by go_num, HB.out.trans (hb1.mono (by omega)), fun j hj x hx => ?_⟩
          by_cases hjk : j = k
          · subst hjk
            rw [HE.out] at hx
            injection hx with hx
            rw [← hx]; exact hp
          · exact HN.out j (by omega) x hx
        case measure => simp [intOf]; omega
    · obtain rfl : k = l.length := by omega
      go_wp2
      go_ret
      exact ⟨by rw [findI_none HN.out]; rfl, HB.out⟩

def p_abort (n : Int) (e : El) : Bool := !e.u && e.t.tag == n
set_option maxRecDepth 100000 in
set_option maxHeartbeats 1600000 in
theorem clo_abort (e : El) (cb : Nat) (n : Int) (w : World) (hc : w.cell? ⟨cb, 0, none⟩ = some (.int .i64 n)) :
    Calls Try.prog 31 #[.agg e.cells.toArray, .pointer (some ⟨cb, 0, none⟩)] w fun r w' => r = .returned (.bool (p_abort n e)) ∧ Below w.heap.size w w' := by
  have hcb := block_lt hc
  simp only at hcb
  obtain ⟨⟨cmd, tag, op, ord, fua, vol, lba, cnt, siz, quo, data⟩, dv, u⟩ := e
  have hnot : ∀ (x : Bool) (w : World), (Op.unary .not (.bool x)).run Try.prog w = .ok (.bool (!x)) w := fun _ _ => rfl
  unfold El.cells
  dsimp only
  have HP : Hid (p_abort n ⟨⟨cmd, tag, op, ord, fua, vol, lba, cnt, siz, quo, data⟩, dv, u⟩ = (!u && tag == n)) := rfl
  cases u <;>
  · go_enter Try.func31, Try.ntmps31
    go_wp2
    go_ret
    exact ⟨by rw [HP.out]; rfl, (Below.refl _ _).alloc (Nat.le_refl _) _⟩

set_option maxRecDepth 100000 in
set_option maxHeartbeats 1600000 in
theorem index_abort (T q : Nat) (av : Value) (l : List El) (F : Nat → Prop) (cb : Nat) (n : Int) (w : World) (h : RowAt T w q av l F) (hle : l.length ≤ 8) (hF : ∀ k, F k → k < w.heap.size) (hc : w.cell? ⟨cb, 0, none⟩ = some (.int .i64 n)) :
    Calls Try.prog 32 #[av, .func (.func 31) #[] #[.pointer (some ⟨cb, 0, none⟩)]] w fun r w' => r = .returned (.int .i64 (findI (p_abort n) l)) ∧ Below w.heap.size w w' := by
  obtain ⟨ao, cap, rfl⟩ := h.shape
  have HR := Lib.hid h; clear h
  have hcb := block_lt hc
  simp only at hcb
  have HC := Lib.hid hc; clear hc
  go_enter Try.func32, Try.ntmps32
  go_wp2_with fail
  go_loopw [8] (fun i wr => ∃ k : Nat, k ≤ l.length ∧ i = .int .i64 k ∧ Below w.heap.size w wr ∧ ∀ j, j < k → ∀ e, l[j]? = some e → p_abort n e = false) (fun i _ => l.length - (intOf i).toNat)
  case atStart => exact ⟨0, by omega, rfl, Below.refl _ _, fun j hj => by omega⟩
  case round =>
    obtain ⟨k, hk, rfl, hbel, hno⟩ := hrel
    have HB := Lib.hid hbel; clear hbel
    have HN := Lib.hid hno; clear hno
    by_cases hlt : k < l.length
    · obtain ⟨g, cap', e1⟩ := HR.out.form (by omega)
      injection e1 with e1 _ e2
      subst e1; subst e2
      obtain ⟨e, he⟩ : ∃ e, l[k]? = some e := ⟨l[k], by simp [hlt]⟩
      have hgl := hF g (HR.out.blk g rfl).1
      have hc : ∀ j, j < 12 → wr.cell? ⟨g, k * 12 + j, none⟩ = e.cells[j]? := fun j hj => (HB.out.cell (p := ⟨g, k * 12 + j, none⟩) hgl).trans (HR.out.cell k e he j hj)
      have q0 := hc 0 (by omega)
      have q1 := hc 1 (by omega)
      have q2 := hc 2 (by omega)
      have q3 := hc 3 (by omega)
      have q4 := hc 4 (by omega)
      have q5 := hc 5 (by omega)
      have q6 := hc 6 (by omega)
      have q7 := hc 7 (by omega)
      have q8 := hc 8 (by omega)
      have q9 := hc 9 (by omega)
      have q10 := hc 10 (by omega)
      have q11 := hc 11 (by omega)
      clear hc
      have HE := Lib.hid he; clear he
      have hcl := Lib.hid (clo_abort e cb n wr ((HB.out.cell (p := ⟨cb, 0, none⟩) hcb).trans HC.out))
      simp only [El.cells, List.getElem?_cons_zero, List.getElem?_cons_succ, Nat.add_zero] at q0 q1 q2 q3 q4 q5 q6 q7 q8 q9 q10 q11
      unfold El.cells at hcl
      have hsz := HB.out.size
      by_cases hp : p_abort n e = true
      · rw [hp] at hcl
        go_wp2_with (go_at_call 31; refine hcl.out.mono ?_; rintro r w1 ⟨rfl, hb1⟩)
        go_ret
        exact ⟨by rw [findI_some HE.out hp HN.out]; rfl, HB.out.trans (hb1.mono (by omega))⟩
      · rw [Bool.not_eq_true] at hp
        rw [hp] at hcl
        go_wp2_with (go_at_call 31; refine hcl.out.mono ?_; rintro r w1 ⟨rfl, hb1⟩)
        go_roundw
        case rel =>
          refine ⟨k + 1, by omega, by go_num, HB.out.trans (hb1.mono (by omega)), fun j hj x hx => ?_⟩
          by_cases hjk : j = k
          · subst hjk
            rw [HE.out] at hx
            injection hx with hx
            rw [← hx]; exact hp
          · exact HN.out j (by omega) x hx
        case measure => simp [intOf]; omega
    · obtain rfl : k = l.length := by omega
      go_wp2
      go_ret
      exact ⟨by rw [findI_none HN.out]; rfl, HB.out⟩
end Go.Proofs.Ytknjiphgpoifcaa
